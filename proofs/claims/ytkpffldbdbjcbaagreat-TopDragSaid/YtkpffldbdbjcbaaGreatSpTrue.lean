/- Chains of gauges: the best sum from a step, the first chain that tells it. -/
import Derived.Test.YtkpffldbdbjcbaaGreatSpGau
import Derived.Test.YtkpffldbdbjcbaaGreatSyP
import Derived.Shelf.Sort.Plain
set_option linter.unusedSimpArgs false
set_option linter.unusedVariables false
namespace Go.Sy
/-- The side of what a gauge tells: Hi or Lo. -/
def Gau.side (h : Bool) (u : Gau) : Int := if h then u.hi else u.lo
/-- Which sum is better. -/
def btr (h : Bool) (a b : Int) : Bool := if h then decide (a < b) else decide (b < a)
/-- A gauge is looked at: it begins at the step, and does not reach too far. -/
def goB (c s : Int) (u : Gau) : Bool := decide (u.f = s ∧ u.t ≤ c)
def bstU (h : Bool) (c s : Int) (f : Int → Int × Bool) (m : Int × Bool) (u : Gau) : Int × Bool :=
  if goB c s u && (f u.t).2 && (!m.2 || btr h (u.side h + (f u.t).1) m.1) then (u.side h + (f u.t).1, true) else m
def bstF (l : List Gau) (c : Int) (h : Bool) : Nat → Int → Int × Bool
  | 0, s => (0, decide (s = c))
  | n + 1, s => if s = c then (0, true) else l.foldl (bstU h c s (bstF l c h n)) (0, false)
/-- The best sum of the chains from a step, if there is one. -/
def bst (l : List Gau) (c : Int) (h : Bool) (s : Int) : Int × Bool := bstF l c h (c - s).toNat s
/-- The same, of the first gauges alone. -/
def bstT (l : List Gau) (c : Int) (h : Bool) (s : Int) (k : Nat) : Int × Bool := (l.take k).foldl (bstU h c s (bst l c h)) (0, false)
/-- All gauges go forwards. -/
def fwd (l : List Gau) : Prop := ∀ u ∈ l, u.Ok
theorem fwd_of {l : List Gau} (h : gausB l = true) : fwd l := fun u hu => by
  obtain ⟨i, hi, rfl⟩ := List.mem_iff_getElem.1 hu
  have := (gaus_ok h).2.2 i hi
  rwa [List.getD_eq_getElem?_getD, List.getElem?_eq_getElem hi] at this
theorem fwd_at {l : List Gau} (h : fwd l) {k : Nat} (hk : k < l.length) : (l.getD k default).Ok := by
  rw [List.getD_eq_getElem?_getD, List.getElem?_eq_getElem hk]; exact h _ (List.getElem_mem hk)
theorem side_bd {u : Gau} (h : u.Ok) (b : Bool) : -4000000000 ≤ u.side b ∧ u.side b ≤ 4000000000 := by
  unfold Gau.Ok at h; unfold Gau.side Gau.lo Gau.hi
  cases b <;> simp only [if_true, if_false, Bool.false_eq_true] <;> omega
theorem goB_t {c s : Int} {u : Gau} (h : goB c s u = true) : u.f = s ∧ u.t ≤ c := of_decide_eq_true h
theorem fold_eq {α β : Type} {f g : β → α → β} : ∀ (l : List α) (m : β), (∀ m, ∀ u ∈ l, f m u = g m u) → l.foldl f m = l.foldl g m
  | [], _, _ => rfl
  | u :: l, m, h => by
    simp only [List.foldl_cons]
    rw [h m u (by simp)]
    exact fold_eq l _ fun m v hv => h m v (by simp [hv])
theorem bstU_eq {h : Bool} {c s : Int} {f g : Int → Int × Bool} {m : Int × Bool} {u : Gau} (e : goB c s u = true → f u.t = g u.t) : bstU h c s f m u = bstU h c s g m u := by
  unfold bstU
  cases hg : goB c s u
  · simp
  · rw [e hg]
theorem bstF_eq {l : List Gau} (hl : fwd l) (c : Int) (h : Bool) : ∀ (n m : Nat) (s : Int), (c - s).toNat ≤ n → (c - s).toNat ≤ m → bstF l c h n s = bstF l c h m s
  | 0, 0, s, _, _ => rfl
  | 0, m + 1, s, hn, _ => by
    unfold bstF
    by_cases e : s = c
    · simp [e]
    · simp only [e, if_false, decide_false]
      have : ∀ (k : List Gau), (∀ u ∈ k, u.Ok) → k.foldl (bstU h c s (bstF l c h m)) (0, false) = (0, false) := fun k hk => by
        induction k with
        | nil => rfl
        | cons u k ih =>
          have hu := hk u (by simp)
          have hg : goB c s u = false := decide_eq_false fun q => by unfold Gau.Ok at hu; omega
          simp only [List.foldl_cons, bstU, hg, Bool.false_and, Bool.false_eq_true, if_false]
          exact ih fun v hv => hk v (by simp [hv])
      exact (this l hl).symm
  | n + 1, 0, s, hn, hm => (bstF_eq hl c h 0 (n + 1) s hm hn).symm
  | n + 1, m + 1, s, hn, hm => by
    unfold bstF
    by_cases e : s = c
    · simp [e]
    · simp only [e, if_false]
      refine fold_eq l _ fun x u hu => bstU_eq fun hg => ?_
      have hu := hl u hu
      have := goB_t hg
      unfold Gau.Ok at hu
      exact bstF_eq hl c h n m u.t (by omega) (by omega)
theorem bst_end (l : List Gau) (c : Int) (h : Bool) : bst l c h c = (0, true) := by
  unfold bst
  rw [show (c - c).toNat = 0 by omega]; simp [bstF]
theorem bst_all {l : List Gau} (hl : fwd l) {c s : Int} (h : Bool) (hs : s ≠ c) : bst l c h s = bstT l c h s l.length := by
  have e : bst l c h s = bstF l c h ((c - s).toNat + 1) s := bstF_eq hl c h _ _ s (Nat.le_refl _) (Nat.le_succ _)
  rw [e]
  unfold bstF bstT
  simp only [hs, if_false, List.take_length]
  refine fold_eq l _ fun x u hu => bstU_eq fun hg => ?_
  have hu := hl u hu
  have := goB_t hg
  unfold Gau.Ok at hu
  exact bstF_eq hl c h _ _ u.t (by omega) (Nat.le_refl _)
theorem bstT_zero (l : List Gau) (c : Int) (h : Bool) (s : Int) : bstT l c h s 0 = (0, false) := by simp [bstT]
theorem bstT_succ {l : List Gau} (c : Int) (h : Bool) (s : Int) {k : Nat} (hk : k < l.length) : bstT l c h s (k + 1) = bstU h c s (bst l c h) (bstT l c h s k) (l.getD k default) := by
  unfold bstT
  rw [List.take_add_one, List.foldl_append, List.getD_eq_getElem?_getD, List.getElem?_eq_getElem hk]; rfl
/-- The ways of a further gauge. -/
theorem bstT_ways {l : List Gau} (c : Int) (h : Bool) (s : Int) {k : Nat} (hk : k < l.length) :
    (¬ ((l.getD k default).f = s) ∧ bstT l c h s (k + 1) = bstT l c h s k) ∨ ((l.getD k default).f = s ∧ ¬ ((l.getD k default).t ≤ c) ∧ bstT l c h s (k + 1) = bstT l c h s k) ∨
    ((l.getD k default).f = s ∧ (l.getD k default).t ≤ c ∧ (bst l c h (l.getD k default).t).2 = false ∧ bstT l c h s (k + 1) = bstT l c h s k) ∨
    ((l.getD k default).f = s ∧ (l.getD k default).t ≤ c ∧ (bst l c h (l.getD k default).t).2 = true ∧ ((bstT l c h s k).2 = false ∨ btr h ((l.getD k default).side h + (bst l c h (l.getD k default).t).1) (bstT l c h s k).1 = true) ∧ bstT l c h s (k + 1) = ((l.getD k default).side h + (bst l c h (l.getD k default).t).1, true)) ∨
    ((l.getD k default).f = s ∧ (l.getD k default).t ≤ c ∧ (bst l c h (l.getD k default).t).2 = true ∧ (bstT l c h s k).2 = true ∧ btr h ((l.getD k default).side h + (bst l c h (l.getD k default).t).1) (bstT l c h s k).1 = false ∧ bstT l c h s (k + 1) = bstT l c h s k) := by
  rw [bstT_succ c h s hk]
  generalize l.getD k default = u
  generalize bstT l c h s k = m
  unfold bstU
  by_cases h1 : u.f = s
  · by_cases h2 : u.t ≤ c
    · have hg : goB c s u = true := decide_eq_true ⟨h1, h2⟩
      cases h3 : (bst l c h u.t).2
      · exact .inr (.inr (.inl ⟨h1, h2, rfl, by simp⟩))
      · cases h4 : m.2
        · exact .inr (.inr (.inr (.inl ⟨h1, h2, rfl, .inl rfl, by simp [hg]⟩)))
        · cases h5 : btr h (u.side h + (bst l c h u.t).1) m.1
          · exact .inr (.inr (.inr (.inr ⟨h1, h2, rfl, rfl, rfl, by simp [hg]⟩)))
          · exact .inr (.inr (.inr (.inl ⟨h1, h2, rfl, .inr rfl, by simp [hg]⟩)))
    · have hg : goB c s u = false := decide_eq_false fun q => h2 q.2
      exact .inr (.inl ⟨h1, h2, by simp [hg]⟩)
  · have hg : goB c s u = false := decide_eq_false fun q => h1 q.1
    exact .inl ⟨h1, by simp [hg]⟩
/-- How great a sum may be. -/
def bdP (c s : Int) (m : Int × Bool) : Prop := (m.2 = false → m.1 = 0) ∧ (m.2 = true → s ≤ c ∧ -4000000000 * (c - s) ≤ m.1 ∧ m.1 ≤ 4000000000 * (c - s))
theorem fold_inv {α β : Type} {f : β → α → β} {I : β → Prop} : ∀ (l : List α) (m : β), (∀ m, ∀ u ∈ l, I m → I (f m u)) → I m → I (l.foldl f m)
  | [], _, _, h => h
  | u :: l, m, hs, h => fold_inv l _ (fun m v hv => hs m v (by simp [hv])) (hs m u (by simp) h)
theorem bstU_bd {h : Bool} {c s : Int} {f : Int → Int × Bool} {m : Int × Bool} {u : Gau} (hu : u.Ok) (hf : bdP c u.t (f u.t)) (hm : bdP c s m) : bdP c s (bstU h c s f m u) := by
  unfold bstU
  split
  · rename_i q
    simp only [Bool.and_eq_true] at q
    obtain ⟨⟨q1, q2⟩, _⟩ := q
    have := goB_t q1
    have hb := hf.2 q2
    have hd := side_bd hu h
    unfold Gau.Ok at hu
    refine ⟨fun q => (by cases q), fun _ => ?_⟩
    simp only
    omega
  · exact hm
theorem bstF_bd {l : List Gau} (hl : fwd l) (c : Int) (h : Bool) : ∀ (n : Nat) (s : Int), bdP c s (bstF l c h n s)
  | 0, s => ⟨fun _ => rfl, fun q => by
    have : s = c := of_decide_eq_true q
    simp only [bstF]; omega⟩
  | n + 1, s => by
    unfold bstF
    split
    · rename_i e
      exact ⟨fun q => (by cases q), fun _ => by simp only; omega⟩
    · exact fold_inv l _ (fun m u hu hm => bstU_bd (hl u hu) (bstF_bd hl c h n u.t) hm) ⟨fun _ => rfl, fun q => (by cases q)⟩
theorem bst_bd {l : List Gau} (hl : fwd l) (c : Int) (h : Bool) (s : Int) : bdP c s (bst l c h s) := bstF_bd hl c h _ s
theorem bstT_bd {l : List Gau} (hl : fwd l) (c : Int) (h : Bool) (s : Int) (k : Nat) : bdP c s (bstT l c h s k) :=
  fold_inv _ _ (fun m u hu hm => bstU_bd (hl u (List.mem_of_mem_take hu)) (bst_bd hl c h u.t) hm) ⟨fun _ => rfl, fun q => (by cases q)⟩
theorem bst_z {l : List Gau} (hl : fwd l) {c s : Int} {h : Bool} (q : (bst l c h s).2 = false) : (bst l c h s).1 = 0 := (bst_bd hl c h s).1 q
/-- All bounds at once, for steps that a run may have. -/
theorem bst_rng {l : List Gau} (hl : fwd l) {c s : Int} (hs : 0 ≤ s) (hc : c ≤ 1000000) (h : Bool) : -4000000000000000 ≤ (bst l c h s).1 ∧ (bst l c h s).1 ≤ 4000000000000000 := by
  have hb := bst_bd hl c h s
  cases q : (bst l c h s).2
  · rw [hb.1 q]; omega
  · have := hb.2 q; omega
theorem bstT_rng {l : List Gau} (hl : fwd l) {c s : Int} (hs : 0 ≤ s) (hc : c ≤ 1000000) (h : Bool) (k : Nat) : -4000000000000000 ≤ (bstT l c h s k).1 ∧ (bstT l c h s k).1 ≤ 4000000000000000 := by
  have hb := bstT_bd hl c h s k
  cases q : (bstT l c h s k).2
  · rw [hb.1 q]; omega
  · have := hb.2 q; omega
/-! ### What was met before -/
structure memO (l : List Gau) (c : Int) (h : Bool) (xs : List (Int × (Int × Bool))) : Prop where
  at_ : ∀ j, hasA xs j = true → getA (0, false) xs j = bst l c h j
theorem memO_nil (l : List Gau) (c : Int) (h : Bool) : memO l c h [] := ⟨fun j q => by cases q⟩
theorem memO_put {l : List Gau} {c : Int} {h : Bool} {xs : List (Int × (Int × Bool))} {s : Int} {v : Int × Bool} (hx : memO l c h xs) (hv : v = bst l c h s) : memO l c h (putA xs s v) := ⟨fun j q => by
  rw [getA_put]
  rw [hasA_put, Bool.or_eq_true, decide_eq_true_eq] at q
  split
  · rename_i e; subst e; exact hv
  · rename_i e; exact hx.at_ j (q.resolve_left e)⟩
/-- A gauge is valid: as one fact. -/
structure okU (u : Gau) : Prop where
  ok : u.Ok
/-! ### The first chain -/
/-- A gauge goes on with the best chain from a step. -/
def nxB (l : List Gau) (c : Int) (h : Bool) (s : Int) (u : Gau) : Bool := goB c s u && (bst l c h u.t).2 && decide (u.side h + (bst l c h u.t).1 = (bst l c h s).1)
def nxI (l : List Gau) (c : Int) (h : Bool) (s : Int) : Nat := l.findIdx (nxB l c h s)
theorem bstT_hit {l : List Gau} {c : Int} {h : Bool} {s : Int} : ∀ {k : Nat}, k ≤ l.length → (bstT l c h s k).2 = true → ∃ i, i < k ∧ goB c s (l.getD i default) = true ∧ (bst l c h (l.getD i default).t).2 = true ∧ (l.getD i default).side h + (bst l c h (l.getD i default).t).1 = (bstT l c h s k).1
  | 0, _, q => by rw [bstT_zero] at q; cases q
  | k + 1, hk, q => by
    have ih : (bstT l c h s k).2 = true → bstT l c h s (k + 1) = bstT l c h s k → ∃ i, i < k + 1 ∧ goB c s (l.getD i default) = true ∧ (bst l c h (l.getD i default).t).2 = true ∧ (l.getD i default).side h + (bst l c h (l.getD i default).t).1 = (bstT l c h s (k + 1)).1 := fun q e => by
      obtain ⟨i, h1, h2, h3, h4⟩ := bstT_hit (Nat.le_of_lt hk) q
      exact ⟨i, by omega, h2, h3, by rw [e]; exact h4⟩
    rcases bstT_ways c h s hk with ⟨_, e⟩ | ⟨_, _, e⟩ | ⟨_, _, _, e⟩ | ⟨h1, h2, h3, _, e⟩ | ⟨_, _, _, _, _, e⟩
    · exact ih (by rw [← e]; exact q) e
    · exact ih (by rw [← e]; exact q) e
    · exact ih (by rw [← e]; exact q) e
    · exact ⟨k, by omega, decide_eq_true ⟨h1, h2⟩, h3, by rw [e]⟩
    · exact ih (by rw [← e]; exact q) e
theorem getD_getE {α : Type} [Inhabited α] {l : List α} {i : Nat} (hi : i < l.length) : l.getD i default = l[i] := by
  rw [List.getD_eq_getElem?_getD, List.getElem?_eq_getElem hi]; rfl
theorem nxI_lt {l : List Gau} (hl : fwd l) {c s : Int} {h : Bool} (hs : s ≠ c) (q : (bst l c h s).2 = true) : nxI l c h s < l.length := by
  rw [bst_all hl h hs] at q
  obtain ⟨i, h1, h2, h3, h4⟩ := bstT_hit (Nat.le_refl _) q
  refine List.findIdx_lt_length_of_exists ⟨l.getD i default, ?_, ?_⟩
  · rw [getD_getE h1]; exact List.getElem_mem h1
  · unfold nxB
    rw [h2, h3, h4, bst_all hl h hs]; simp
theorem nxI_b {l : List Gau} {c s : Int} {h : Bool} (hi : nxI l c h s < l.length) : nxB l c h s (l.getD (nxI l c h s) default) = true := by
  rw [getD_getE hi]
  exact List.findIdx_getElem (w := hi)
theorem nxI_first {l : List Gau} {c s : Int} {h : Bool} {k : Nat} (hk : k < nxI l c h s) (hl : k < l.length) : nxB l c h s (l.getD k default) = false := by
  rw [getD_getE hl]
  exact List.not_of_lt_findIdx hk
/-- The first chain from a step, if the best one is there. -/
def chnF (l : List Gau) (c : Int) (h : Bool) : Nat → Int → List Int
  | 0, _ => []
  | n + 1, s => if s = c then [] else (nxI l c h s : Int) :: chnF l c h n (l.getD (nxI l c h s) default).t
def chn (l : List Gau) (c : Int) (h : Bool) (s : Int) : List Int := chnF l c h (c - s).toNat s
theorem nx_bd {l : List Gau} {c s : Int} {h : Bool} {u : Gau} (q : nxB l c h s u = true) : u.f = s ∧ u.t ≤ c ∧ (bst l c h u.t).2 = true ∧ u.side h + (bst l c h u.t).1 = (bst l c h s).1 := by
  unfold nxB at q
  simp only [Bool.and_eq_true, decide_eq_true_eq] at q
  exact ⟨(goB_t q.1.1).1, (goB_t q.1.1).2, q.1.2, q.2⟩
theorem chnF_eq {l : List Gau} (hl : fwd l) (c : Int) (h : Bool) : ∀ (n m : Nat) (s : Int), s ≤ c → (bst l c h s).2 = true → (c - s).toNat ≤ n → (c - s).toNat ≤ m → chnF l c h n s = chnF l c h m s
  | 0, 0, _, _, _, _, _ => rfl
  | 0, m + 1, s, hs, _, hn, _ => by unfold chnF; rw [if_pos (by omega)]
  | n + 1, 0, s, hs, _, _, hm => by unfold chnF; rw [if_pos (by omega)]
  | n + 1, m + 1, s, hs, q, hn, hm => by
    unfold chnF
    by_cases e : s = c
    · rw [if_pos e, if_pos e]
    · rw [if_neg e, if_neg e]
      have hi := nxI_lt hl e q
      obtain ⟨h1, h2, h3, _⟩ := nx_bd (nxI_b hi)
      have hu := fwd_at hl hi
      unfold Gau.Ok at hu
      rw [chnF_eq hl c h n m _ h2 h3 (by omega) (by omega)]
theorem chn_end (l : List Gau) (c : Int) (h : Bool) : chn l c h c = [] := by
  unfold chn; rw [show (c - c).toNat = 0 by omega]; rfl
theorem chn_step {l : List Gau} (hl : fwd l) {c s : Int} {h : Bool} (hs : s ≤ c) (e : s ≠ c) (q : (bst l c h s).2 = true) : chn l c h s = (nxI l c h s : Int) :: chn l c h (l.getD (nxI l c h s) default).t := by
  have hi := nxI_lt hl e q
  obtain ⟨h1, h2, h3, _⟩ := nx_bd (nxI_b hi)
  have hu := fwd_at hl hi
  unfold Gau.Ok at hu
  unfold chn
  obtain ⟨n, hn⟩ : ∃ n, (c - s).toNat = n + 1 := ⟨(c - s).toNat - 1, by omega⟩
  rw [hn]
  show (if s = c then [] else _) = _
  rw [if_neg e, chnF_eq hl c h n _ _ h2 h3 (by omega) (Nat.le_refl _)]
theorem chnF_len (l : List Gau) (c : Int) (h : Bool) : ∀ (n : Nat) (s : Int), (chnF l c h n s).length ≤ n
  | 0, _ => Nat.le_refl _
  | n + 1, s => by
    unfold chnF
    split
    · simp
    · simp only [List.length_cons]; have := chnF_len l c h n (l.getD (nxI l c h s) default).t; omega
theorem chn_len (l : List Gau) (c : Int) (h : Bool) (s : Int) : (chn l c h s).length ≤ (c - s).toNat := chnF_len l c h _ s
/-! ### The best of a stretch -/
/-- What Least and Most answer: the error, the sum, the chain. -/
def exE (l : List Gau) (a c : Int) (h : Bool) : Int := if strE l a c = 0 then (if (bst l c h a).2 then 0 else 8) else strE l a c
def exN (l : List Gau) (a c : Int) (h : Bool) : Int := if exE l a c h = 0 then (bst l c h a).1 else 0
def exL (l : List Gau) (a c : Int) (h : Bool) : List Int := if exE l a c h = 0 then chn l c h a else []
theorem ex_ways (l : List Gau) (a c : Int) (h : Bool) : (strE l a c ≠ 0 ∧ exE l a c h = strE l a c ∧ exN l a c h = 0 ∧ exL l a c h = [] ∧ True ∧ True) ∨ (strE l a c = 0 ∧ exE l a c h = 8 ∧ exN l a c h = 0 ∧ exL l a c h = [] ∧ (bst l c h a).2 = false ∧ (gausB l = true ∧ 0 ≤ a ∧ a < c ∧ c ≤ 1000000)) ∨
    (strE l a c = 0 ∧ exE l a c h = 0 ∧ exN l a c h = (bst l c h a).1 ∧ exL l a c h = chn l c h a ∧ (bst l c h a).2 = true ∧ (gausB l = true ∧ 0 ≤ a ∧ a < c ∧ c ≤ 1000000)) := by
  by_cases e : strE l a c = 0
  · have hg : gausB l = true ∧ 0 ≤ a ∧ a < c ∧ c ≤ 1000000 := by
      rcases str_ways l a c with ⟨_, h⟩ | ⟨_, _, h⟩ | ⟨h, h', _⟩
      · rw [e] at h; cases h
      · rw [e] at h; cases h
      · exact ⟨h, h'⟩
    cases q : (bst l c h a).2
    · have : exE l a c h = 8 := by simp [exE, e, q]
      exact .inr (.inl ⟨e, this, by simp [exN, this], by simp [exL, this], rfl, hg⟩)
    · have : exE l a c h = 0 := by simp [exE, e, q]
      exact .inr (.inr ⟨e, this, by simp [exN, this], by simp [exL, this], rfl, hg⟩)
  · have : exE l a c h = strE l a c := by simp [exE, e]
    exact .inl ⟨e, this, by simp [exN, this, e], by simp [exL, this, e], trivial, trivial⟩
/-! ### A further gauge -/
/-- One is at least as good as the other. -/
def nbR (h : Bool) (m n : Int × Bool) : Prop := m.2 = true → n.2 = true ∧ btr h m.1 n.1 = false
theorem btr_f {h : Bool} {a b : Int} : btr h a b = false ↔ (if h then b ≤ a else a ≤ b) := by
  cases h <;> simp [btr]
theorem btr_t {h : Bool} {a b : Int} : btr h a b = true ↔ (if h then a < b else b < a) := by
  cases h <;> simp [btr]
theorem nbR_more {h : Bool} {c s : Int} {g : Int → Int × Bool} {m n : Int × Bool} {u : Gau} (hm : nbR h m n) : nbR h m (bstU h c s g n u) := fun q => by
  obtain ⟨h1, h2⟩ := hm q
  unfold bstU
  split
  · rename_i q
    simp only [Bool.and_eq_true, h1, Bool.not_true, Bool.false_or] at q
    refine ⟨rfl, ?_⟩
    rw [btr_f] at h2 ⊢
    have := btr_t.1 q.2
    cases h <;> simp only [if_true, if_false, Bool.false_eq_true] at * <;> omega
  · exact ⟨h1, h2⟩
/-- Whether there is a chain does not hang on the side. -/
theorem bstU_is {c s : Int} {f g : Int → Int × Bool} {m n : Int × Bool} {u : Gau} (hf : (f u.t).2 = (g u.t).2) (hm : m.2 = n.2) : (bstU false c s f m u).2 = (bstU true c s g n u).2 := by
  unfold bstU
  rw [hf]
  cases goB c s u
  · simp [hm]
  · cases (g u.t).2
    · simp [hm]
    · cases hn : n.2 <;> rw [hn] at hm <;> simp only [hm, Bool.not_false, Bool.not_true, Bool.true_and, Bool.true_or, Bool.false_or, if_true] <;> (try split) <;> (try split) <;> (first | rfl | assumption | (rw [hm, hn]; done) | exact hn.symm | simp_all)
theorem fold_is {c s : Int} {f g : Int → Int × Bool} (hf : ∀ z, (f z).2 = (g z).2) : ∀ (l : List Gau) (m n : Int × Bool), m.2 = n.2 → (l.foldl (bstU false c s f) m).2 = (l.foldl (bstU true c s g) n).2
  | [], _, _, hm => hm
  | u :: l, m, n, hm => fold_is hf l _ _ (bstU_is (hf _) hm)
theorem bstF_is (l : List Gau) (c : Int) : ∀ (n : Nat) (s : Int), (bstF l c false n s).2 = (bstF l c true n s).2
  | 0, s => rfl
  | n + 1, s => by
    unfold bstF
    split
    · rfl
    · exact fold_is (bstF_is l c n) l _ _ rfl
theorem bst_is (l : List Gau) (c s : Int) : (bst l c false s).2 = (bst l c true s).2 := bstF_is l c _ s
theorem exE_is (l : List Gau) (a c : Int) : exE l a c true = exE l a c false := by unfold exE; rw [bst_is]
end Go.Sy

/- A recursion's contract; blocks that are only looked at, whatever their kind; which of two functions. -/
set_option linter.unusedSimpArgs false
set_option linter.unusedVariables false
namespace Go.Sy
open Go.RowKit
theorem rec_eok {P : Program} {f : FuncId} {c : Nat → ECtr} (he : Enters P f) (h0 : ∀ args hp K, ¬ c 0 args hp K) (hs : ∀ n, EOk P f (c n) → EOk P f (c (n + 1))) : ∀ n, EOk P f (c n)
  | 0 => ⟨he, fun args hp K h => absurd h (h0 args hp K)⟩
  | n + 1 => hs n (rec_eok he h0 hs n)
theorem K9 {K : SV → List HB → Prop} {v : SV} {hq : List HB} (h : K v hq) : K v (hq ++ []) := by rw [List.append_nil]; exact h
def seeK : BK → Bool
  | .ro => true
  | .wr .. => true
  | _ => false
theorem seen_k {a : Option Nm} {o o' : Bool} {k : BK} {x : Cts} {w : World} (hk : seeK k = true) (h : (⟨a, o, k, x⟩ : HB).ok w) : (⟨a, o', .ro, x⟩ : HB).ok w := by
  cases k <;> first | exact ok_own h | exact seen_wr h | cases hk
theorem seen_kl {a : Option Nm} {o o' : Bool} {k : BK} {x y : List SV} {w : World} (hk : seeK k = true) (hd : denL y = denL x) (h : (⟨a, o, k, .l x⟩ : HB).ok w) : (⟨a, o', .ro, .l y⟩ : HB).ok w := ok_l hd (seen_k (o' := o') hk h)
theorem touch_k {a : Option Nm} {o o' : Bool} {k : BK} {x : Cts} {g : Nat} (hk : seeK k = true) (h : (⟨a, o', .ro, x⟩ : HB).touch g) : (⟨a, o, k, x⟩ : HB).touch g := by
  cases k <;> first | exact touch_ro h | exact touch_wr h | cases hk
theorem touch_kl {a : Option Nm} {o o' : Bool} {k : BK} {x y : List SV} (hk : seeK k = true) (hd : denL y = denL x) {g : Nat} (h : (⟨a, o', .ro, .l y⟩ : HB).touch g) : (⟨a, o, k, .l x⟩ : HB).touch g :=
  touch_k hk (HB.like.touch (b := ⟨a, o', .ro, .l y⟩) (c := ⟨a, o', .ro, .l x⟩) (like_l hd) h)
/-- Which of two functions it is. -/
def hsd (lo hi bt : Nat) (K : Bool → Prop) : Prop := ∃ h : Bool, bt = cond h hi lo ∧ K h
theorem iff_hsd {lo hi bt : Nat} {K : Bool → Prop} (h : hsd lo hi bt K) : ∃ b, K b ∧ bt = cond b hi lo := by
  obtain ⟨b, e, h⟩ := h
  exact ⟨b, h, e⟩
/-- A pointer to one of two functions. -/
def ph (lo hi : Nat) (x : SV) (hp : List HB) (K : Bool → Prop) : Prop := pf x hp fun f => hsd lo hi f K
theorem iff_ph {lo hi : Nat} {x : SV} {hp : List HB} {K : Bool → Prop} (h : ph lo hi x hp K) : ∃ (b : Bool) (nm : Nm), K b ∧ den (.ptr 0 nm 0 0 0) = den x ∧ ViewOk hp ⟨some nm, false, .ro, .l [.fn (cond b hi lo) [] []]⟩ := by
  obtain ⟨f, nm, h, he, hv⟩ := iff_pf h
  obtain ⟨b, hb, rfl⟩ := iff_hsd h
  exact ⟨b, nm, hb, he, hv⟩
/-- What is known of a gauge of the list, of the best sum from its end and of the best one so far. -/
def rndB (l : List Gau) (c z : Int) (h : Bool) (k : Nat) : Prop := (k < l.length ∧ 0 ≤ (l.getD k default).f ∧ (l.getD k default).f < (l.getD k default).t ∧ (l.getD k default).t ≤ 1000000) ∧ (-4000000000 ≤ (l.getD k default).side h ∧ (l.getD k default).side h ≤ 4000000000) ∧ (-4000000000000000 ≤ (bst l c h (l.getD k default).t).1 ∧ (bst l c h (l.getD k default).t).1 ≤ 4000000000000000) ∧ -4000000000000000 ≤ (bstT l c h z k).1 ∧ (bstT l c h z k).1 ≤ 4000000000000000
theorem rnd_bd {l : List Gau} (hl : fwd l) {c z : Int} (hz : 0 ≤ z) (hc : c ≤ 1000000) (h : Bool) {k : Nat} (hk : k < l.length) : rndB l c z h k := by
  have hu := fwd_at hl hk
  have hd := side_bd hu h
  unfold Gau.Ok at hu
  exact ⟨⟨hk, by omega, by omega, by omega⟩, hd, bst_rng hl (by omega) hc h, bstT_rng hl hz hc h k⟩
/-- The ways of a round. -/
theorem rnd_ways {l : List Gau} (hl : fwd l) {c z : Int} (hz : 0 ≤ z) (hc : c ≤ 1000000) (h : Bool) {k : Nat} (hk : k ≤ l.length) :
    (True ∧ k = l.length ∧ True ∧ True ∧ True ∧ True) ∨
    (rndB l c z h k ∧ (l.getD k default).f ≠ z ∧ True ∧ True ∧ True ∧ bstT l c h z (k + 1) = bstT l c h z k) ∨
    (rndB l c z h k ∧ ((l.getD k default).f = z ∧ ¬ (l.getD k default).t ≤ c) ∧ True ∧ True ∧ True ∧ bstT l c h z (k + 1) = bstT l c h z k) ∨
    (rndB l c z h k ∧ ((l.getD k default).f = z ∧ (l.getD k default).t ≤ c ∧ (bst l c h (l.getD k default).t).1 = 0) ∧ (bst l c h (l.getD k default).t).2 = false ∧ True ∧ True ∧ bstT l c h z (k + 1) = bstT l c h z k) ∨
    (rndB l c z h k ∧ ((l.getD k default).f = z ∧ (l.getD k default).t ≤ c) ∧ (bst l c h (l.getD k default).t).2 = true ∧ (bstT l c h z k).2 = false ∧ True ∧ bstT l c h z (k + 1) = ((l.getD k default).side h + (bst l c h (l.getD k default).t).1, true)) ∨
    (rndB l c z h k ∧ ((l.getD k default).f = z ∧ (l.getD k default).t ≤ c) ∧ (bst l c h (l.getD k default).t).2 = true ∧ (bstT l c h z k).2 = true ∧ btr h ((l.getD k default).side h + (bst l c h (l.getD k default).t).1) (bstT l c h z k).1 = true ∧ bstT l c h z (k + 1) = ((l.getD k default).side h + (bst l c h (l.getD k default).t).1, true)) ∨
    (rndB l c z h k ∧ ((l.getD k default).f = z ∧ (l.getD k default).t ≤ c) ∧ (bst l c h (l.getD k default).t).2 = true ∧ (bstT l c h z k).2 = true ∧ btr h ((l.getD k default).side h + (bst l c h (l.getD k default).t).1) (bstT l c h z k).1 = false ∧ bstT l c h z (k + 1) = bstT l c h z k) := by
  by_cases hq : k < l.length
  · have hb := rnd_bd hl hz hc h hq
    rcases bstT_ways c h z hq with ⟨h1, e⟩ | ⟨h1, h2, e⟩ | ⟨h1, h2, h3, e⟩ | ⟨h1, h2, h3, h4, e⟩ | ⟨h1, h2, h3, h4, h5, e⟩
    · exact .inr (.inl ⟨hb, h1, trivial, trivial, trivial, e⟩)
    · exact .inr (.inr (.inl ⟨hb, ⟨h1, h2⟩, trivial, trivial, trivial, e⟩))
    · exact .inr (.inr (.inr (.inl ⟨hb, ⟨h1, h2, bst_z hl h3⟩, h3, trivial, trivial, e⟩)))
    · cases h6 : (bstT l c h z k).2
      · exact .inr (.inr (.inr (.inr (.inl ⟨hb, ⟨h1, h2⟩, h3, rfl, trivial, e⟩))))
      · exact .inr (.inr (.inr (.inr (.inr (.inl ⟨hb, ⟨h1, h2⟩, h3, rfl, h4.resolve_left (by rw [h6]; decide), e⟩)))))
    · exact .inr (.inr (.inr (.inr (.inr (.inr ⟨hb, ⟨h1, h2⟩, h3, h4, h5, e⟩)))))
  · exact .inl ⟨trivial, by omega, trivial, trivial, trivial, trivial⟩
/-! ### The rounds of a chain -/
theorem stp_ways {l : List Gau} (hl : fwd l) {c s : Int} {h : Bool} (q : (bst l c h s).2 = true) : (s = c ∧ True) ∨ (s ≠ c ∧ nxI l c h s < l.length) := by
  by_cases e : s = c
  · exact .inl ⟨e, trivial⟩
  · exact .inr ⟨e, nxI_lt hl e q⟩
/-- What is known of a gauge that may be the next one. -/
def chB (l : List Gau) (c s : Int) (h : Bool) (k : Nat) : Prop := (k < l.length ∧ 0 ≤ (l.getD k default).f ∧ (l.getD k default).f < (l.getD k default).t ∧ (l.getD k default).t ≤ 1000000) ∧ (-4000000000 ≤ (l.getD k default).side h ∧ (l.getD k default).side h ≤ 4000000000) ∧ (-4000000000000000 ≤ (bst l c h (l.getD k default).t).1 ∧ (bst l c h (l.getD k default).t).1 ≤ 4000000000000000) ∧ -4000000000000000 ≤ (bst l c h s).1 ∧ (bst l c h s).1 ≤ 4000000000000000
theorem chn_ways {l : List Gau} (hl : fwd l) {c s : Int} (hz : 0 ≤ s) (hc : c ≤ 1000000) (h : Bool) (hn : nxI l c h s < l.length) {k : Nat} (hk : k ≤ nxI l c h s) :
    (chB l c s h k ∧ (l.getD k default).f ≠ s ∧ True ∧ True ∧ k + 1 ≤ nxI l c h s) ∨ (chB l c s h k ∧ ((l.getD k default).f = s ∧ ¬ (l.getD k default).t ≤ c) ∧ True ∧ True ∧ k + 1 ≤ nxI l c h s) ∨ (chB l c s h k ∧ ((l.getD k default).f = s ∧ (l.getD k default).t ≤ c) ∧ (bst l c h (l.getD k default).t).2 = false ∧ True ∧ k + 1 ≤ nxI l c h s) ∨
    (chB l c s h k ∧ ((l.getD k default).f = s ∧ (l.getD k default).t ≤ c) ∧ (bst l c h (l.getD k default).t).2 = true ∧ (l.getD k default).side h + (bst l c h (l.getD k default).t).1 ≠ (bst l c h s).1 ∧ k + 1 ≤ nxI l c h s) ∨ (chB l c s h k ∧ ((l.getD k default).f = s ∧ (l.getD k default).t ≤ c) ∧ (bst l c h (l.getD k default).t).2 = true ∧ (l.getD k default).side h + (bst l c h (l.getD k default).t).1 = (bst l c h s).1 ∧ k = nxI l c h s) := by
  have hq : k < l.length := by omega
  have hb : chB l c s h k := by
    have hu := fwd_at hl hq
    have hd := side_bd hu h
    unfold Gau.Ok at hu
    exact ⟨⟨hq, by omega, by omega, by omega⟩, hd, bst_rng hl (by omega) hc h, bst_rng hl hz hc h⟩
  have hw : nxB l c h s (l.getD k default) = true ∨ nxB l c h s (l.getD k default) = false := by cases nxB l c h s (l.getD k default) <;> simp
  rcases hw with hw | hw
  · obtain ⟨h1, h2, h3, h4⟩ := nx_bd hw
    have : k = nxI l c h s := by
      rcases Nat.lt_or_ge k (nxI l c h s) with q | q
      · rw [nxI_first q hq] at hw; cases hw
      · omega
    exact .inr (.inr (.inr (.inr ⟨hb, ⟨h1, h2⟩, h3, h4, this⟩)))
  · have hne : k + 1 ≤ nxI l c h s := by
      rcases Nat.lt_or_ge k (nxI l c h s) with q | q
      · omega
      · have e : k = nxI l c h s := by omega
        rw [e, nxI_b hn] at hw; cases hw
    by_cases h1 : (l.getD k default).f = s
    · by_cases h2 : (l.getD k default).t ≤ c
      · cases h3 : (bst l c h (l.getD k default).t).2
        · exact .inr (.inr (.inl ⟨hb, ⟨h1, h2⟩, rfl, trivial, hne⟩))
        · refine .inr (.inr (.inr (.inl ⟨hb, ⟨h1, h2⟩, rfl, fun h4 => ?_, hne⟩)))
          have : nxB l c h s (l.getD k default) = true := by
            unfold nxB goB
            rw [h3, decide_eq_true (And.intro h1 h2), decide_eq_true h4]; rfl
          rw [this] at hw; cases hw
      · exact .inr (.inl ⟨hb, ⟨h1, h2⟩, trivial, trivial, hne⟩)
    · exact .inl ⟨hb, h1, trivial, trivial, hne⟩
/-- What is kept while a chain is laid. -/
structure chnO (l : List Gau) (c : Int) (h : Bool) (z s : Int) (L : List Int) : Prop where
  is : (bst l c h s).2 = true
  eq : L ++ chn l c h s = chn l c h z
  lo : z ≤ s
  hi : s ≤ c
theorem chnO_len {l : List Gau} {c : Int} {h : Bool} {z s : Int} {L : List Int} (q : chnO l c h z s L) (hz : 0 ≤ z) (hc : c ≤ 1000000) : L.length ≤ 1000000 := by
  have h1 := congrArg List.length q.eq
  have h2 := chn_len l c h z
  rw [List.length_append] at h1
  omega
theorem chnO_next {l : List Gau} (hl : fwd l) {c : Int} {h : Bool} {z s : Int} {L : List Int} (q : chnO l c h z s L) (e : s ≠ c) {k : Nat} (hk : k = nxI l c h s) : chnO l c h z (l.getD k default).t (L ++ [(k : Int)]) := by
  subst hk
  have hi := nxI_lt hl e q.is
  obtain ⟨h1, h2, h3, _⟩ := nx_bd (nxI_b hi)
  have hu := fwd_at hl hi
  unfold Gau.Ok at hu
  have := q.lo
  refine ⟨h3, ?_, by omega, h2⟩
  rw [← q.eq, chn_step hl q.hi e q.is, List.append_assoc]; rfl
theorem chnO_end {l : List Gau} {c : Int} {h : Bool} {z s : Int} {L : List Int} (q : chnO l c h z s L) (e : s = c) : L = chn l c h z := by
  subst e
  have := q.eq
  rwa [chn_end, List.append_nil] at this
end Go.Sy

/- The library's sort of whole numbers, as a contract that turns a block. -/
set_option linter.unusedSimpArgs false
set_option linter.unusedVariables false
namespace Go.Sy
open Go.RowKit
/-- The numbers, in order. -/
def srt (xs : List Int) : List Int := xs.mergeSort fun x y => decide (x ≤ y)
theorem srt_len (xs : List Int) : (srt xs).length = xs.length := by unfold srt; exact List.length_mergeSort xs
def c_sort : ECtr := fun args hp K => match args with
  | [.sl i a 0 1 n cap] => (match hp[i]? with
    | some ⟨a1, o, .wr t m, .ix xs⟩ => (noGh hp = true ∧ a = a1 ∧ a.isSome = true ∧ n = xs.length) ∧ xs.length < 4611686018427387904 ∧ setHK hp i ⟨a, o, .wr t m, .ix (srt xs)⟩ fun hq => K (.tup []) hq
    | _ => False)
  | _ => False
theorem sort_eok {P : Program} {ρ : Go.Shelf.Ren} (Ly : Go.Proofs.Lays.n189 P ρ) (he : Enters P (ρ.f 189)) : EOk P (ρ.f 189) c_sort :=
  ⟨he, fun args hp K hc w0 w hw => by
    unfold c_sort at hc
    split at hc
    · rename_i i a n cap
      split at hc
      · rename_i a1 o t m xs hi
        obtain ⟨⟨hng, rfl, hs, rfl⟩, hl, hK⟩ := hc
        obtain ⟨nm, rfl⟩ := Option.isSome_iff_exists.1 hs
        rw [setHK_eq] at hK
        obtain ⟨hb0, cs, hcs, hcsz, hcap, hcell⟩ := hw.blk _ (List.mem_of_getElem? hi)
        simp only [Cts.n, Cts.s, Cts.len] at hb0 hcs hcsz hcap hcell
        have hsz : xs.length ≤ cs.size := by rw [hcsz]; simpa using hcap
        have hlt : nm.g < w.heap.size := by
          rw [Array.getElem?_eq_some_iff] at hcs; exact hcs.1
        have hH : Go.Sort.Holds (Value.int .i64) w nm.g 0 xs.toArray := fun j hj => by
          have hj : j < xs.length := by simpa using hj
          have h1 := hcell j (by simpa using hj)
          have hg : (Cts.ix xs).get j = .int .i64 (xs.getD j 0) := by simp [Cts.get, Cts.row, Cts.s, Nat.mod_one]
          rw [hg] at h1
          have hx : xs.toArray[j]! = xs.getD j 0 := by
            rw [getElem!_pos _ j (by simpa using hj), List.getD_eq_getElem?_getD, List.getElem?_eq_getElem hj]; simp
          refine ⟨?_, ?_⟩
          · simp only [World.cell?, hcs, Nat.zero_add]
            rw [hx]
            simpa [den] using h1
          · simp only [World.frozen?, hcs, Nat.zero_add]
            simp
        have hc := Go.Proofs.Any.slices_Sort_int Ly nm.g 0 cap xs w hH hlt hl
        have e : (denL [SV.sl i (some nm) 0 1 xs.length cap]).toArray = #[.slice (some ⟨nm.g, 0, none⟩) xs.length cap] := by simp [denL, den, hb0]
        rw [e]
        refine hc.mono fun e w' ⟨he, k, os, hw'⟩ => ⟨.tup [], _, hK, by rw [he]; rfl, ?_⟩
        have hd : (srt xs).toArray.size = xs.length := by simp [srt_len]
        have h1 : (Go.Sort.putRow (Value.int .i64) (Go.Sort.ahead w k) nm.g 0 (srt xs).toArray).heap[nm.g]? = some (.cells (Go.Sort.putCells (Value.int .i64) 0 (srt xs).toArray cs) t (0, 0)) := by
          simp [Go.Sort.putRow, Go.Sort.mapBlock, Go.Sort.ahead, Array.getElem?_modify, hcs, Go.Sort.onCells]
        have h2 : Holds w0 (Go.Sort.putRow (Value.int .i64) (Go.Sort.ahead w k) nm.g 0 (srt xs).toArray) (hp.set i ⟨some nm, o, .wr t m, .ix (srt xs)⟩) := by
          refine hw.turn hi (g := nm.g) rfl (noGh_mem hng) rfl ⟨hb0, _, h1, by simp [Go.Sort.putCells, hcsz], by simp only [Cts.n, Cts.len, Cts.s, srt_len]; exact hcap, fun j hj => ?_⟩ (.inl rfl) (fun g' hc => (show nm.g = g' from hc).symm) (fun g' ht => by
            have : nm.g = g' := by simpa [HB.touch, HB.cl, HB.rd] using ht
            exact this.symm) (fun h => .inl h) rfl rfl rfl (by simp) fun q _ hq => ?_
          · have hj : j < xs.length := by simpa [Cts.n, Cts.len, Cts.s, srt_len] using hj
            have hjs : j < (srt xs).length := by rw [srt_len]; exact hj
            have hg : (Cts.ix (srt xs)).get j = .int .i64 ((srt xs).getD j 0) := by simp [Cts.get, Cts.row, Cts.s, Nat.mod_one]
            have hx : (srt xs).toArray[j]! = (srt xs).getD j 0 := by
              rw [getElem!_pos _ j (by simpa using hjs), List.getD_eq_getElem?_getD, List.getElem?_eq_getElem hjs]; simp
            rw [hg]
            simp only [Go.Sort.putCells, Array.getElem?_mapIdx]
            rw [Array.getElem?_eq_getElem (show j < cs.size by omega)]
            simp only [Option.map_some, Nat.zero_le, true_and, Nat.zero_add, hd, hj, if_true, Nat.sub_zero, hx, den]
          · simp only [Go.Sort.putRow, Go.Sort.mapBlock, Go.Sort.ahead, Array.getElem?_modify]
            rw [if_neg (fun e => hq e.symm)]
        rw [hw']
        refine h2.below ⟨rfl, rfl, rfl, by simp, fun q hq => ?_⟩
        simp only [Go.Sort.grow]
        rw [Array.getElem?_append]
        exact if_pos hq
      · exact hc.elim
    · exact hc.elim⟩
end Go.Sy

/- Bounds; a true drag is in all of them. -/
set_option linter.unusedSimpArgs false
set_option linter.unusedVariables false
namespace Go.Sy
theorem ex4 {β γ δ β' : Type} {P : β × γ × δ × β' → Prop} {b : β} {c : γ} {d : δ} {b' : β'} (h : P (b, c, d, b')) : ∃ x, P x := ⟨_, h⟩
/-! ### Bounds -/
def bndE (l : List Gau) (a c : Int) : Int := if exE l a c false = 0 then (if exN l a c true < exN l a c false then 10 else 0) else exE l a c false
def bndL (l : List Gau) (a c : Int) : Int := if bndE l a c = 0 then exN l a c false else 0
def bndH (l : List Gau) (a c : Int) : Int := if bndE l a c = 0 then exN l a c true else 0
theorem bnd_ways (l : List Gau) (a c : Int) : (exE l a c false ≠ 0 ∧ bndE l a c = exE l a c false ∧ bndL l a c = 0 ∧ bndH l a c = 0 ∧ True) ∨ (exE l a c false = 0 ∧ bndE l a c = 10 ∧ bndL l a c = 0 ∧ bndH l a c = 0 ∧ exN l a c true < exN l a c false) ∨
    (exE l a c false = 0 ∧ bndE l a c = 0 ∧ bndL l a c = exN l a c false ∧ bndH l a c = exN l a c true ∧ exN l a c false ≤ exN l a c true) := by
  by_cases h : exE l a c false = 0
  · by_cases h2 : exN l a c true < exN l a c false
    · have : bndE l a c = 10 := by simp only [bndE, h, if_true, if_pos h2]
      exact .inr (.inl ⟨h, this, by simp [bndL, this], by simp [bndH, this], h2⟩)
    · have : bndE l a c = 0 := by simp only [bndE, h, if_true, if_neg h2]
      exact .inr (.inr ⟨h, this, by simp [bndL, this], by simp [bndH, this], by omega⟩)
  · have : bndE l a c = exE l a c false := by simp only [bndE, if_neg h]
    exact .inl ⟨h, this, by simp [bndL, this, h], by simp [bndH, this, h], trivial⟩
/-- No stretch is contradicted. -/
structure noW (l : List Gau) : Prop where
  ne : ∀ a c, bndE l a c ≠ 10
/-! ### Steps of gauges -/
def frs (l : List Gau) (k : Nat) : List Int := (l.take k).map fun u => u.f
def tos (l : List Gau) (k : Nat) : List Int := (l.take k).map fun u => u.t
theorem frs_succ {l : List Gau} {k : Nat} (h : k < l.length) : frs l (k + 1) = frs l k ++ [(l.getD k default).f] := by
  unfold frs; rw [List.take_add_one, List.map_append, List.getD_eq_getElem?_getD, List.getElem?_eq_getElem h]; rfl
theorem tos_succ {l : List Gau} {k : Nat} (h : k < l.length) : tos l (k + 1) = tos l k ++ [(l.getD k default).t] := by
  unfold tos; rw [List.take_add_one, List.map_append, List.getD_eq_getElem?_getD, List.getElem?_eq_getElem h]; rfl
theorem frs_len {l : List Gau} {k : Nat} (h : k ≤ l.length) : (frs l k).length = k := by simp [frs]; omega
theorem tos_len {l : List Gau} {k : Nat} (h : k ≤ l.length) : (tos l k).length = k := by simp [tos]; omega
/-! ### Sums of drags -/
def sumZ : List Int → Int
  | [] => 0
  | x :: r => x + sumZ r
theorem sumZ_app : ∀ (a b : List Int), sumZ (a ++ b) = sumZ a + sumZ b
  | [], b => by simp [sumZ]
  | x :: a, b => by simp only [List.cons_append, sumZ, sumZ_app a b]; omega
/-- The sum of k numbers from f on. -/
def prt (D : List Int) (f k : Nat) : Int := sumZ ((D.drop f).take k)
/-- All drags are small. -/
structure smlD (D : List Int) : Prop where
  bd : ∀ j, j < D.length → -1000000 ≤ D.getD j 0 ∧ D.getD j 0 ≤ 1000000
/-- The true drag is in what all gauges tell. -/
structure truG (l : List Gau) (D : List Int) : Prop where
  to_ : ∀ u ∈ l, u.t ≤ D.length
  lo : ∀ u ∈ l, u.lo ≤ prt D u.f.toNat (u.t.toNat - u.f.toNat)
  hi : ∀ u ∈ l, prt D u.f.toNat (u.t.toNat - u.f.toNat) ≤ u.hi
/-- What the law's loop has found. -/
structure truK (l : List Gau) (D : List Int) (k : Nat) : Prop where
  to_ : ∀ j, j < k → (l.getD j default).t ≤ D.length
  has : ∀ j, j < k → hasB (l.getD j default) (prt D (l.getD j default).f.toNat ((l.getD j default).t.toNat - (l.getD j default).f.toNat)) = true
structure smlK (D : List Int) (k : Nat) : Prop where
  bd : ∀ j, j < k → -1000000 ≤ D.getD j 0 ∧ D.getD j 0 ≤ 1000000
end Go.Sy
