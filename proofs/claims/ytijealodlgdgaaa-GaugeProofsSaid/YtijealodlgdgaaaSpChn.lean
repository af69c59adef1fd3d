/- Chains of gauges: the best sum from a step, the first chain that tells it. -/
import Derived.Test.YtijealodlgdgaaaSpGau
set_option linter.unusedSimpArgs false
set_option linter.unusedVariables false
namespace Go.Sy
/-- The side of what a gauge tells: Hi or Lo. -/
def Gau.side (h : Bool) (u : Gau) : Int := if h then u.hi else u.lo
/-- Which sum is better. -/
def btr (h : Bool) (a b : Int) : Bool := if h then decide (a < b) else decide (b < a)
/-- A gauge is looked at: it begins at the step, and does not reach too far. -/
def goB (c s : Int) (u : Gau) : Bool := decide (u.f = s ∧ u.t ≤ c)
def bstU (h : Bool) (c s : Int) (f : Int → Int × Bool) (m : Int × Bool) (u : Gau) : Int × Bool :=
  if goB c s u && (f u.t).2 && (!m.2 || btr h (u.side h + (f u.t).1) m.1) then (u.side h + (f u.t).1, true) else m
def bstF (l : List Gau) (c : Int) (h : Bool) : Nat → Int → Int × Bool
  | 0, s => (0, decide (s = c))
  | n + 1, s => if s = c then (0, true) else l.foldl (bstU h c s (bstF l c h n)) (0, false)
/-- The best sum of the chains from a step, if there is one. -/
def bst (l : List Gau) (c : Int) (h : Bool) (s : Int) : Int × Bool := bstF l c h (c - s).toNat s
/-- The same, of the first gauges alone. -/
def bstT (l : List Gau) (c : Int) (h : Bool) (s : Int) (k : Nat) : Int × Bool := (l.take k).foldl (bstU h c s (bst l c h)) (0, false)
/-- All gauges go forwards. -/
def fwd (l : List Gau) : Prop := ∀ u ∈ l, u.Ok
theorem fwd_of {l : List Gau} (h : gausB l = true) : fwd l := fun u hu => by
  obtain ⟨i, hi, rfl⟩ := List.mem_iff_getElem.1 hu
  have := (gaus_ok h).2.2 i hi
  rwa [List.getD_eq_getElem?_getD, List.getElem?_eq_getElem hi] at this
theorem fwd_at {l : List Gau} (h : fwd l) {k : Nat} (hk : k < l.length) : (l.getD k default).Ok := by
  rw [List.getD_eq_getElem?_getD, List.getElem?_eq_getElem hk]; exact h _ (List.getElem_mem hk)
theorem side_bd {u : Gau} (h : u.Ok) (b : Bool) : -4000000000 ≤ u.side b ∧ u.side b ≤ 4000000000 := by
  unfold Gau.Ok at h; unfold Gau.side Gau.lo Gau.hi
  cases b <;> simp only [if_true, if_false, Bool.false_eq_true] <;> omega
theorem goB_t {c s : Int} {u : Gau} (h : goB c s u = true) : u.f = s ∧ u.t ≤ c := of_decide_eq_true h
theorem fold_eq {α β : Type} {f g : β → α → β} : ∀ (l : List α) (m : β), (∀ m, ∀ u ∈ l, f m u = g m u) → l.foldl f m = l.foldl g m
  | [], _, _ => rfl
  | u :: l, m, h => by
    simp only [List.foldl_cons]
    rw [h m u (by simp)]
    exact fold_eq l _ fun m v hv => h m v (by simp [hv])
theorem bstU_eq {h : Bool} {c s : Int} {f g : Int → Int × Bool} {m : Int × Bool} {u : Gau} (e : goB c s u = true → f u.t = g u.t) : bstU h c s f m u = bstU h c s g m u := by
  unfold bstU
  cases hg : goB c s u
  · simp
  · rw [e hg]
theorem bstF_eq {l : List Gau} (hl : fwd l) (c : Int) (h : Bool) : ∀ (n m : Nat) (s : Int), (c - s).toNat ≤ n → (c - s).toNat ≤ m → bstF l c h n s = bstF l c h m s
  | 0, 0, s, _, _ => rfl
  | 0, m + 1, s, hn, _ => by
    unfold bstF
    by_cases e : s = c
    · simp [e]
    · simp only [e, if_false, decide_false]
      have : ∀ (k : List Gau), (∀ u ∈ k, u.Ok) → k.foldl (bstU h c s (bstF l c h m)) (0, false) = (0, false) := fun k hk => by
        induction k with
        | nil => rfl
        | cons u k ih =>
          have hu := hk u (by simp)
          have hg : goB c s u = false := decide_eq_false fun q => by unfold Gau.Ok at hu; omega
          simp only [List.foldl_cons, bstU, hg, Bool.false_and, Bool.false_eq_true, if_false]
          exact ih fun v hv => hk v (by simp [hv])
      exact (this l hl).symm
  | n + 1, 0, s, hn, hm => (bstF_eq hl c h 0 (n + 1) s hm hn).symm
  | n + 1, m + 1, s, hn, hm => by
    unfold bstF
    by_cases e : s = c
    · simp [e]
    · simp only [e, if_false]
      refine fold_eq l _ fun x u hu => bstU_eq fun hg => ?_
      have hu := hl u hu
      have := goB_t hg
      unfold Gau.Ok at hu
      exact bstF_eq hl c h n m u.t (by omega) (by omega)
theorem bst_end (l : List Gau) (c : Int) (h : Bool) : bst l c h c = (0, true) := by
  unfold bst
  rw [show (c - c).toNat = 0 by omega]; simp [bstF]
theorem bst_all {l : List Gau} (hl : fwd l) {c s : Int} (h : Bool) (hs : s ≠ c) : bst l c h s = bstT l c h s l.length := by
  have e : bst l c h s = bstF l c h ((c - s).toNat + 1) s := bstF_eq hl c h _ _ s (Nat.le_refl _) (Nat.le_succ _)
  rw [e]
  unfold bstF bstT
  simp only [hs, if_false, List.take_length]
  refine fold_eq l _ fun x u hu => bstU_eq fun hg => ?_
  have hu := hl u hu
  have := goB_t hg
  unfold Gau.Ok at hu
  exact bstF_eq hl c h _ _ u.t (by omega) (Nat.le_refl _)
theorem bstT_zero (l : List Gau) (c : Int) (h : Bool) (s : Int) : bstT l c h s 0 = (0, false) := by simp [bstT]
theorem bstT_succ {l : List Gau} (c : Int) (h : Bool) (s : Int) {k : Nat} (hk : k < l.length) : bstT l c h s (k + 1) = bstU h c s (bst l c h) (bstT l c h s k) (l.getD k default) := by
  unfold bstT
  rw [List.take_add_one, List.foldl_append, List.getD_eq_getElem?_getD, List.getElem?_eq_getElem hk]; rfl
/-- The ways of a further gauge. -/
theorem bstT_ways {l : List Gau} (c : Int) (h : Bool) (s : Int) {k : Nat} (hk : k < l.length) :
    (¬ ((l.getD k default).f = s) ∧ bstT l c h s (k + 1) = bstT l c h s k) ∨ ((l.getD k default).f = s ∧ ¬ ((l.getD k default).t ≤ c) ∧ bstT l c h s (k + 1) = bstT l c h s k) ∨
    ((l.getD k default).f = s ∧ (l.getD k default).t ≤ c ∧ (bst l c h (l.getD k default).t).2 = false ∧ bstT l c h s (k + 1) = bstT l c h s k) ∨
    ((l.getD k default).f = s ∧ (l.getD k default).t ≤ c ∧ (bst l c h (l.getD k default).t).2 = true ∧ ((bstT l c h s k).2 = false ∨ btr h ((l.getD k default).side h + (bst l c h (l.getD k default).t).1) (bstT l c h s k).1 = true) ∧ bstT l c h s (k + 1) = ((l.getD k default).side h + (bst l c h (l.getD k default).t).1, true)) ∨
    ((l.getD k default).f = s ∧ (l.getD k default).t ≤ c ∧ (bst l c h (l.getD k default).t).2 = true ∧ (bstT l c h s k).2 = true ∧ btr h ((l.getD k default).side h + (bst l c h (l.getD k default).t).1) (bstT l c h s k).1 = false ∧ bstT l c h s (k + 1) = bstT l c h s k) := by
  rw [bstT_succ c h s hk]
  generalize l.getD k default = u
  generalize bstT l c h s k = m
  unfold bstU
  by_cases h1 : u.f = s
  · by_cases h2 : u.t ≤ c
    · have hg : goB c s u = true := decide_eq_true ⟨h1, h2⟩
      cases h3 : (bst l c h u.t).2
      · exact .inr (.inr (.inl ⟨h1, h2, rfl, by simp⟩))
      · cases h4 : m.2
        · exact .inr (.inr (.inr (.inl ⟨h1, h2, rfl, .inl rfl, by simp [hg]⟩)))
        · cases h5 : btr h (u.side h + (bst l c h u.t).1) m.1
          · exact .inr (.inr (.inr (.inr ⟨h1, h2, rfl, rfl, rfl, by simp [hg]⟩)))
          · exact .inr (.inr (.inr (.inl ⟨h1, h2, rfl, .inr rfl, by simp [hg]⟩)))
    · have hg : goB c s u = false := decide_eq_false fun q => h2 q.2
      exact .inr (.inl ⟨h1, h2, by simp [hg]⟩)
  · have hg : goB c s u = false := decide_eq_false fun q => h1 q.1
    exact .inl ⟨h1, by simp [hg]⟩
/-- How great a sum may be. -/
def bdP (c s : Int) (m : Int × Bool) : Prop := (m.2 = false → m.1 = 0) ∧ (m.2 = true → s ≤ c ∧ -4000000000 * (c - s) ≤ m.1 ∧ m.1 ≤ 4000000000 * (c - s))
theorem fold_inv {α β : Type} {f : β → α → β} {I : β → Prop} : ∀ (l : List α) (m : β), (∀ m, ∀ u ∈ l, I m → I (f m u)) → I m → I (l.foldl f m)
  | [], _, _, h => h
  | u :: l, m, hs, h => fold_inv l _ (fun m v hv => hs m v (by simp [hv])) (hs m u (by simp) h)
theorem bstU_bd {h : Bool} {c s : Int} {f : Int → Int × Bool} {m : Int × Bool} {u : Gau} (hu : u.Ok) (hf : bdP c u.t (f u.t)) (hm : bdP c s m) : bdP c s (bstU h c s f m u) := by
  unfold bstU
  split
  · rename_i q
    simp only [Bool.and_eq_true] at q
    obtain ⟨⟨q1, q2⟩, _⟩ := q
    have := goB_t q1
    have hb := hf.2 q2
    have hd := side_bd hu h
    unfold Gau.Ok at hu
    refine ⟨fun q => (by cases q), fun _ => ?_⟩
    simp only
    omega
  · exact hm
theorem bstF_bd {l : List Gau} (hl : fwd l) (c : Int) (h : Bool) : ∀ (n : Nat) (s : Int), bdP c s (bstF l c h n s)
  | 0, s => ⟨fun _ => rfl, fun q => by
    have : s = c := of_decide_eq_true q
    simp only [bstF]; omega⟩
  | n + 1, s => by
    unfold bstF
    split
    · rename_i e
      exact ⟨fun q => (by cases q), fun _ => by simp only; omega⟩
    · exact fold_inv l _ (fun m u hu hm => bstU_bd (hl u hu) (bstF_bd hl c h n u.t) hm) ⟨fun _ => rfl, fun q => (by cases q)⟩
theorem bst_bd {l : List Gau} (hl : fwd l) (c : Int) (h : Bool) (s : Int) : bdP c s (bst l c h s) := bstF_bd hl c h _ s
theorem bstT_bd {l : List Gau} (hl : fwd l) (c : Int) (h : Bool) (s : Int) (k : Nat) : bdP c s (bstT l c h s k) :=
  fold_inv _ _ (fun m u hu hm => bstU_bd (hl u (List.mem_of_mem_take hu)) (bst_bd hl c h u.t) hm) ⟨fun _ => rfl, fun q => (by cases q)⟩
theorem bst_z {l : List Gau} (hl : fwd l) {c s : Int} {h : Bool} (q : (bst l c h s).2 = false) : (bst l c h s).1 = 0 := (bst_bd hl c h s).1 q
/-- All bounds at once, for steps that a run may have. -/
theorem bst_rng {l : List Gau} (hl : fwd l) {c s : Int} (hs : 0 ≤ s) (hc : c ≤ 1000000) (h : Bool) : -4000000000000000 ≤ (bst l c h s).1 ∧ (bst l c h s).1 ≤ 4000000000000000 := by
  have hb := bst_bd hl c h s
  cases q : (bst l c h s).2
  · rw [hb.1 q]; omega
  · have := hb.2 q; omega
theorem bstT_rng {l : List Gau} (hl : fwd l) {c s : Int} (hs : 0 ≤ s) (hc : c ≤ 1000000) (h : Bool) (k : Nat) : -4000000000000000 ≤ (bstT l c h s k).1 ∧ (bstT l c h s k).1 ≤ 4000000000000000 := by
  have hb := bstT_bd hl c h s k
  cases q : (bstT l c h s k).2
  · rw [hb.1 q]; omega
  · have := hb.2 q; omega
/-! ### What was met before -/
structure memO (l : List Gau) (c : Int) (h : Bool) (xs : List (Int × (Int × Bool))) : Prop where
  at_ : ∀ j, hasA xs j = true → getA (0, false) xs j = bst l c h j
theorem memO_nil (l : List Gau) (c : Int) (h : Bool) : memO l c h [] := ⟨fun j q => by cases q⟩
theorem memO_put {l : List Gau} {c : Int} {h : Bool} {xs : List (Int × (Int × Bool))} {s : Int} {v : Int × Bool} (hx : memO l c h xs) (hv : v = bst l c h s) : memO l c h (putA xs s v) := ⟨fun j q => by
  rw [getA_put]
  rw [hasA_put, Bool.or_eq_true, decide_eq_true_eq] at q
  split
  · rename_i e; subst e; exact hv
  · rename_i e; exact hx.at_ j (q.resolve_left e)⟩
/-- A gauge is valid: as one fact. -/
structure okU (u : Gau) : Prop where
  ok : u.Ok
/-! ### The first chain -/
/-- A gauge goes on with the best chain from a step. -/
def nxB (l : List Gau) (c : Int) (h : Bool) (s : Int) (u : Gau) : Bool := goB c s u && (bst l c h u.t).2 && decide (u.side h + (bst l c h u.t).1 = (bst l c h s).1)
def nxI (l : List Gau) (c : Int) (h : Bool) (s : Int) : Nat := l.findIdx (nxB l c h s)
theorem bstT_hit {l : List Gau} {c : Int} {h : Bool} {s : Int} : ∀ {k : Nat}, k ≤ l.length → (bstT l c h s k).2 = true → ∃ i, i < k ∧ goB c s (l.getD i default) = true ∧ (bst l c h (l.getD i default).t).2 = true ∧ (l.getD i default).side h + (bst l c h (l.getD i default).t).1 = (bstT l c h s k).1
  | 0, _, q => by rw [bstT_zero] at q; cases q
  | k + 1, hk, q => by
    have ih : (bstT l c h s k).2 = true → bstT l c h s (k + 1) = bstT l c h s k → ∃ i, i < k + 1 ∧ goB c s (l.getD i default) = true ∧ (bst l c h (l.getD i default).t).2 = true ∧ (l.getD i default).side h + (bst l c h (l.getD i default).t).1 = (bstT l c h s (k + 1)).1 := fun q e => by
      obtain ⟨i, h1, h2, h3, h4⟩ := bstT_hit (Nat.le_of_lt hk) q
      exact ⟨i, by omega, h2, h3, by rw [e]; exact h4⟩
    rcases bstT_ways c h s hk with ⟨_, e⟩ | ⟨_, _, e⟩ | ⟨_, _, _, e⟩ | ⟨h1, h2, h3, _, e⟩ | ⟨_, _, _, _, _, e⟩
    · exact ih (by rw [← e]; exact q) e
    · exact ih (by rw [← e]; exact q) e
    · exact ih (by rw [← e]; exact q) e
    · exact ⟨k, by omega, decide_eq_true ⟨h1, h2⟩, h3, by rw [e]⟩
    · exact ih (by rw [← e]; exact q) e
theorem getD_getE {α : Type} [Inhabited α] {l : List α} {i : Nat} (hi : i < l.length) : l.getD i default = l[i] := by
  rw [List.getD_eq_getElem?_getD, List.getElem?_eq_getElem hi]; rfl
theorem nxI_lt {l : List Gau} (hl : fwd l) {c s : Int} {h : Bool} (hs : s ≠ c) (q : (bst l c h s).2 = true) : nxI l c h s < l.length := by
  rw [bst_all hl h hs] at q
  obtain ⟨i, h1, h2, h3, h4⟩ := bstT_hit (Nat.le_refl _) q
  refine List.findIdx_lt_length_of_exists ⟨l.getD i default, ?_, ?_⟩
  · rw [getD_getE h1]; exact List.getElem_mem h1
  · unfold nxB
    rw [h2, h3, h4, bst_all hl h hs]; simp
theorem nxI_b {l : List Gau} {c s : Int} {h : Bool} (hi : nxI l c h s < l.length) : nxB l c h s (l.getD (nxI l c h s) default) = true := by
  rw [getD_getE hi]
  exact List.findIdx_getElem (w := hi)
theorem nxI_first {l : List Gau} {c s : Int} {h : Bool} {k : Nat} (hk : k < nxI l c h s) (hl : k < l.length) : nxB l c h s (l.getD k default) = false := by
  rw [getD_getE hl]
  exact List.not_of_lt_findIdx hk
theorem nxI_at {l : List Gau} {c s : Int} {h : Bool} {k : Nat} (hk : k < l.length) (hf : ∀ j, j < k → nxB l c h s (l.getD j default) = false) (hb : nxB l c h s (l.getD k default) = true) : nxI l c h s = k := by
  rcases Nat.lt_trichotomy (nxI l c h s) k with q | q | q
  · have := hf _ q
    rw [nxI_b (by omega)] at this; cases this
  · exact q
  · rw [nxI_first q hk] at hb; cases hb
/-- The first chain from a step, if the best one is there. -/
def chnF (l : List Gau) (c : Int) (h : Bool) : Nat → Int → List Int
  | 0, _ => []
  | n + 1, s => if s = c then [] else (nxI l c h s : Int) :: chnF l c h n (l.getD (nxI l c h s) default).t
def chn (l : List Gau) (c : Int) (h : Bool) (s : Int) : List Int := chnF l c h (c - s).toNat s
theorem nx_bd {l : List Gau} {c s : Int} {h : Bool} {u : Gau} (q : nxB l c h s u = true) : u.f = s ∧ u.t ≤ c ∧ (bst l c h u.t).2 = true ∧ u.side h + (bst l c h u.t).1 = (bst l c h s).1 := by
  unfold nxB at q
  simp only [Bool.and_eq_true, decide_eq_true_eq] at q
  exact ⟨(goB_t q.1.1).1, (goB_t q.1.1).2, q.1.2, q.2⟩
theorem chnF_eq {l : List Gau} (hl : fwd l) (c : Int) (h : Bool) : ∀ (n m : Nat) (s : Int), s ≤ c → (bst l c h s).2 = true → (c - s).toNat ≤ n → (c - s).toNat ≤ m → chnF l c h n s = chnF l c h m s
  | 0, 0, _, _, _, _, _ => rfl
  | 0, m + 1, s, hs, _, hn, _ => by unfold chnF; rw [if_pos (by omega)]
  | n + 1, 0, s, hs, _, _, hm => by unfold chnF; rw [if_pos (by omega)]
  | n + 1, m + 1, s, hs, q, hn, hm => by
    unfold chnF
    by_cases e : s = c
    · rw [if_pos e, if_pos e]
    · rw [if_neg e, if_neg e]
      have hi := nxI_lt hl e q
      obtain ⟨h1, h2, h3, _⟩ := nx_bd (nxI_b hi)
      have hu := fwd_at hl hi
      unfold Gau.Ok at hu
      rw [chnF_eq hl c h n m _ h2 h3 (by omega) (by omega)]
theorem chn_end (l : List Gau) (c : Int) (h : Bool) : chn l c h c = [] := by
  unfold chn; rw [show (c - c).toNat = 0 by omega]; rfl
theorem chn_step {l : List Gau} (hl : fwd l) {c s : Int} {h : Bool} (hs : s ≤ c) (e : s ≠ c) (q : (bst l c h s).2 = true) : chn l c h s = (nxI l c h s : Int) :: chn l c h (l.getD (nxI l c h s) default).t := by
  have hi := nxI_lt hl e q
  obtain ⟨h1, h2, h3, _⟩ := nx_bd (nxI_b hi)
  have hu := fwd_at hl hi
  unfold Gau.Ok at hu
  unfold chn
  obtain ⟨n, hn⟩ : ∃ n, (c - s).toNat = n + 1 := ⟨(c - s).toNat - 1, by omega⟩
  rw [hn]
  show (if s = c then [] else _) = _
  rw [if_neg e, chnF_eq hl c h n _ _ h2 h3 (by omega) (Nat.le_refl _)]
theorem chnF_len (l : List Gau) (c : Int) (h : Bool) : ∀ (n : Nat) (s : Int), (chnF l c h n s).length ≤ n
  | 0, _ => Nat.le_refl _
  | n + 1, s => by
    unfold chnF
    split
    · simp
    · simp only [List.length_cons]; have := chnF_len l c h n (l.getD (nxI l c h s) default).t; omega
theorem chn_len (l : List Gau) (c : Int) (h : Bool) (s : Int) : (chn l c h s).length ≤ (c - s).toNat := chnF_len l c h _ s
/-! ### The best of a stretch -/
/-- What Least and Most answer: the error, the sum, the chain. -/
def exE (l : List Gau) (a c : Int) (h : Bool) : Int := if strE l a c = 0 then (if (bst l c h a).2 then 0 else 8) else strE l a c
def exN (l : List Gau) (a c : Int) (h : Bool) : Int := if exE l a c h = 0 then (bst l c h a).1 else 0
def exL (l : List Gau) (a c : Int) (h : Bool) : List Int := if exE l a c h = 0 then chn l c h a else []
theorem ex_ways (l : List Gau) (a c : Int) (h : Bool) : (strE l a c ≠ 0 ∧ exE l a c h = strE l a c ∧ exN l a c h = 0 ∧ exL l a c h = [] ∧ True ∧ True) ∨ (strE l a c = 0 ∧ exE l a c h = 8 ∧ exN l a c h = 0 ∧ exL l a c h = [] ∧ (bst l c h a).2 = false ∧ (gausB l = true ∧ 0 ≤ a ∧ a < c ∧ c ≤ 1000000)) ∨
    (strE l a c = 0 ∧ exE l a c h = 0 ∧ exN l a c h = (bst l c h a).1 ∧ exL l a c h = chn l c h a ∧ (bst l c h a).2 = true ∧ (gausB l = true ∧ 0 ≤ a ∧ a < c ∧ c ≤ 1000000)) := by
  by_cases e : strE l a c = 0
  · have hg : gausB l = true ∧ 0 ≤ a ∧ a < c ∧ c ≤ 1000000 := by
      rcases str_ways l a c with ⟨_, h⟩ | ⟨_, _, h⟩ | ⟨h, h', _⟩
      · rw [e] at h; cases h
      · rw [e] at h; cases h
      · exact ⟨h, h'⟩
    cases q : (bst l c h a).2
    · have : exE l a c h = 8 := by simp [exE, e, q]
      exact .inr (.inl ⟨e, this, by simp [exN, this], by simp [exL, this], rfl, hg⟩)
    · have : exE l a c h = 0 := by simp [exE, e, q]
      exact .inr (.inr ⟨e, this, by simp [exN, this], by simp [exL, this], rfl, hg⟩)
  · have : exE l a c h = strE l a c := by simp [exE, e]
    exact .inl ⟨e, this, by simp [exN, this, e], by simp [exL, this, e], trivial, trivial⟩
/-! ### A further gauge -/
/-- One is at least as good as the other. -/
def nbR (h : Bool) (m n : Int × Bool) : Prop := m.2 = true → n.2 = true ∧ btr h m.1 n.1 = false
theorem btr_f {h : Bool} {a b : Int} : btr h a b = false ↔ (if h then b ≤ a else a ≤ b) := by
  cases h <;> simp [btr]
theorem btr_t {h : Bool} {a b : Int} : btr h a b = true ↔ (if h then a < b else b < a) := by
  cases h <;> simp [btr]
theorem nbR_step {h : Bool} {c s : Int} {f g : Int → Int × Bool} {m n : Int × Bool} {u : Gau} (hf : goB c s u = true → nbR h (f u.t) (g u.t)) (hm : nbR h m n) : nbR h (bstU h c s f m u) (bstU h c s g n u) := by
  unfold bstU
  intro hq
  cases hg : goB c s u
  · rw [hg] at hq; simp at hq ⊢; exact hm hq
  · have hf := hf hg
    rw [hg] at hq
    cases q1 : (f u.t).2
    · rw [q1] at hq
      simp only [Bool.true_and, Bool.false_and, Bool.false_eq_true, if_false] at hq ⊢
      obtain ⟨h1, h2⟩ := hm hq
      split
      · rename_i q
        simp only [Bool.and_eq_true, h1, Bool.not_true, Bool.false_or] at q
        refine ⟨rfl, ?_⟩
        rw [btr_f] at h2 ⊢
        have := btr_t.1 q.2
        cases h <;> simp only [if_true, if_false, Bool.false_eq_true] at * <;> omega
      · exact ⟨h1, h2⟩
    · obtain ⟨g1, g2⟩ := hf q1
      rw [g1]
      simp only [Bool.true_and, q1] at hq ⊢
      cases m2 : m.2
      · simp only [Bool.not_false, Bool.true_or, if_true]
        split
        · refine ⟨rfl, ?_⟩
          rw [btr_f] at g2 ⊢
          cases h <;> simp only [if_true, if_false, Bool.false_eq_true] at * <;> omega
        · rename_i q
          simp only [Bool.or_eq_true, not_or, Bool.not_eq_true, Bool.not_eq_false'] at q
          refine ⟨by simpa using q.1, ?_⟩
          have q2 := q.2
          rw [btr_f] at q2 g2 ⊢
          cases h <;> simp only [if_true, if_false, Bool.false_eq_true] at * <;> omega
      · obtain ⟨n1, n2⟩ := hm m2
        simp only [n1, Bool.not_true, Bool.false_or]
        rw [btr_f] at g2 n2
        split <;> split <;> rename_i p1 p2 <;> refine ⟨by first | rfl | exact n1, ?_⟩ <;> rw [btr_f] <;> (try rw [btr_t] at p1) <;> (try rw [btr_t] at p2) <;> cases h <;> simp only [if_true, if_false, Bool.false_eq_true] at * <;> omega
theorem nbR_more {h : Bool} {c s : Int} {g : Int → Int × Bool} {m n : Int × Bool} {u : Gau} (hm : nbR h m n) : nbR h m (bstU h c s g n u) := fun q => by
  obtain ⟨h1, h2⟩ := hm q
  unfold bstU
  split
  · rename_i q
    simp only [Bool.and_eq_true, h1, Bool.not_true, Bool.false_or] at q
    refine ⟨rfl, ?_⟩
    rw [btr_f] at h2 ⊢
    have := btr_t.1 q.2
    cases h <;> simp only [if_true, if_false, Bool.false_eq_true] at * <;> omega
  · exact ⟨h1, h2⟩
theorem nbR_fold {h : Bool} {c s : Int} {f g : Int → Int × Bool} (hf : ∀ z, nbR h (f z) (g z)) : ∀ (l : List Gau) (m n : Int × Bool), nbR h m n → nbR h (l.foldl (bstU h c s f) m) (l.foldl (bstU h c s g) n)
  | [], _, _, hm => hm
  | u :: l, m, n, hm => nbR_fold hf l _ _ (nbR_step (fun _ => hf _) hm)
theorem nbR_refl (h : Bool) (m : Int × Bool) : nbR h m m := fun q => ⟨q, btr_f.2 (by cases h <;> simp)⟩
theorem bstF_more (l : List Gau) (v : Gau) (c : Int) (h : Bool) : ∀ (n : Nat) (s : Int), nbR h (bstF l c h n s) (bstF (l ++ [v]) c h n s)
  | 0, s => nbR_refl h _
  | n + 1, s => by
    unfold bstF
    split
    · exact nbR_refl h _
    · rw [List.foldl_append]
      exact nbR_more (nbR_fold (bstF_more l v c h n) l _ _ (nbR_refl h _))
theorem bst_more (l : List Gau) (v : Gau) (c : Int) (h : Bool) (s : Int) : nbR h (bst l c h s) (bst (l ++ [v]) c h s) := bstF_more l v c h _ s
/-- Whether there is a chain does not hang on the side. -/
theorem bstU_is {c s : Int} {f g : Int → Int × Bool} {m n : Int × Bool} {u : Gau} (hf : (f u.t).2 = (g u.t).2) (hm : m.2 = n.2) : (bstU false c s f m u).2 = (bstU true c s g n u).2 := by
  unfold bstU
  rw [hf]
  cases goB c s u
  · simp [hm]
  · cases (g u.t).2
    · simp [hm]
    · cases hn : n.2 <;> rw [hn] at hm <;> simp only [hm, Bool.not_false, Bool.not_true, Bool.true_and, Bool.true_or, Bool.false_or, if_true] <;> (try split) <;> (try split) <;> (first | rfl | assumption | (rw [hm, hn]; done) | exact hn.symm | simp_all)
theorem fold_is {c s : Int} {f g : Int → Int × Bool} (hf : ∀ z, (f z).2 = (g z).2) : ∀ (l : List Gau) (m n : Int × Bool), m.2 = n.2 → (l.foldl (bstU false c s f) m).2 = (l.foldl (bstU true c s g) n).2
  | [], _, _, hm => hm
  | u :: l, m, n, hm => fold_is hf l _ _ (bstU_is (hf _) hm)
theorem bstF_is (l : List Gau) (c : Int) : ∀ (n : Nat) (s : Int), (bstF l c false n s).2 = (bstF l c true n s).2
  | 0, s => rfl
  | n + 1, s => by
    unfold bstF
    split
    · rfl
    · exact fold_is (bstF_is l c n) l _ _ rfl
theorem bst_is (l : List Gau) (c s : Int) : (bst l c false s).2 = (bst l c true s).2 := bstF_is l c _ s
theorem exE_is (l : List Gau) (a c : Int) : exE l a c true = exE l a c false := by unfold exE; rw [bst_is]
/-- A further gauge makes no bounds wider. -/
theorem ex_more {l : List Gau} {v : Gau} {a c : Int} (hl : gausB l = true) (hm : gausB (l ++ [v]) = true) (h : Bool) (he : exE l a c h = 0) : exE (l ++ [v]) a c h = 0 ∧ btr h (exN l a c h) (exN (l ++ [v]) a c h) = false := by
  have hs : strE (l ++ [v]) a c = strE l a c := by unfold strE; rw [hl, hm]
  rcases ex_ways l a c h with ⟨q, e, _⟩ | ⟨_, e, _⟩ | ⟨q, _, e1, _, q2, _⟩
  · exact absurd (e ▸ he) q
  · rw [e] at he; cases he
  · obtain ⟨h1, h2⟩ := bst_more l v c h a q2
    have e2 : exE (l ++ [v]) a c h = 0 := by unfold exE; rw [hs, q, h1]; simp
    refine ⟨e2, ?_⟩
    rw [e1]; unfold exN; rw [e2]; simp only [if_true]; exact h2
end Go.Sy
