/- Bounds; a true drag is in all of them. -/
import Derived.Test.YtijealodlgdgaaaSpSort
set_option linter.unusedSimpArgs false
set_option linter.unusedVariables false
namespace Go.Sy
theorem ex4 {β γ δ β' : Type} {P : β × γ × δ × β' → Prop} {b : β} {c : γ} {d : δ} {b' : β'} (h : P (b, c, d, b')) : ∃ x, P x := ⟨_, h⟩
/-! ### Bounds -/
def bndE (l : List Gau) (a c : Int) : Int := if exE l a c false = 0 then (if exN l a c true < exN l a c false then 10 else 0) else exE l a c false
def bndL (l : List Gau) (a c : Int) : Int := if bndE l a c = 0 then exN l a c false else 0
def bndH (l : List Gau) (a c : Int) : Int := if bndE l a c = 0 then exN l a c true else 0
theorem bnd_ways (l : List Gau) (a c : Int) : (exE l a c false ≠ 0 ∧ bndE l a c = exE l a c false ∧ bndL l a c = 0 ∧ bndH l a c = 0 ∧ True) ∨ (exE l a c false = 0 ∧ bndE l a c = 10 ∧ bndL l a c = 0 ∧ bndH l a c = 0 ∧ exN l a c true < exN l a c false) ∨
    (exE l a c false = 0 ∧ bndE l a c = 0 ∧ bndL l a c = exN l a c false ∧ bndH l a c = exN l a c true ∧ exN l a c false ≤ exN l a c true) := by
  by_cases h : exE l a c false = 0
  · by_cases h2 : exN l a c true < exN l a c false
    · have : bndE l a c = 10 := by simp only [bndE, h, if_true, if_pos h2]
      exact .inr (.inl ⟨h, this, by simp [bndL, this], by simp [bndH, this], h2⟩)
    · have : bndE l a c = 0 := by simp only [bndE, h, if_true, if_neg h2]
      exact .inr (.inr ⟨h, this, by simp [bndL, this], by simp [bndH, this], by omega⟩)
  · have : bndE l a c = exE l a c false := by simp only [bndE, if_neg h]
    exact .inl ⟨h, this, by simp [bndL, this, h], by simp [bndH, this, h], trivial⟩
/-- No stretch is contradicted. -/
structure noW (l : List Gau) : Prop where
  ne : ∀ a c, bndE l a c ≠ 10
/-! ### Steps of gauges -/
def frs (l : List Gau) (k : Nat) : List Int := (l.take k).map fun u => u.f
def tos (l : List Gau) (k : Nat) : List Int := (l.take k).map fun u => u.t
theorem frs_zero (l : List Gau) : frs l 0 = [] := rfl
theorem tos_zero (l : List Gau) : tos l 0 = [] := rfl
theorem frs_succ {l : List Gau} {k : Nat} (h : k < l.length) : frs l (k + 1) = frs l k ++ [(l.getD k default).f] := by
  unfold frs; rw [List.take_add_one, List.map_append, List.getD_eq_getElem?_getD, List.getElem?_eq_getElem h]; rfl
theorem tos_succ {l : List Gau} {k : Nat} (h : k < l.length) : tos l (k + 1) = tos l k ++ [(l.getD k default).t] := by
  unfold tos; rw [List.take_add_one, List.map_append, List.getD_eq_getElem?_getD, List.getElem?_eq_getElem h]; rfl
theorem frs_len {l : List Gau} {k : Nat} (h : k ≤ l.length) : (frs l k).length = k := by simp [frs]; omega
theorem tos_len {l : List Gau} {k : Nat} (h : k ≤ l.length) : (tos l k).length = k := by simp [tos]; omega
/-! ### Sums of drags -/
def sumZ : List Int → Int
  | [] => 0
  | x :: r => x + sumZ r
theorem sumZ_app : ∀ (a b : List Int), sumZ (a ++ b) = sumZ a + sumZ b
  | [], b => by simp [sumZ]
  | x :: a, b => by simp only [List.cons_append, sumZ, sumZ_app a b]; omega
/-- The sum of k numbers from f on. -/
def prt (D : List Int) (f k : Nat) : Int := sumZ ((D.drop f).take k)
theorem prt_zero (D : List Int) (f : Nat) : prt D f 0 = 0 := by simp [prt, sumZ]
theorem prt_succ {D : List Int} {f k : Nat} (h : f + k < D.length) : prt D f (k + 1) = prt D f k + D.getD (f + k) 0 := by
  unfold prt
  rw [List.take_add_one, sumZ_app, List.getElem?_drop, List.getElem?_eq_getElem h, List.getD_eq_getElem?_getD, List.getElem?_eq_getElem h]
  simp [sumZ]
theorem prt_add {D : List Int} {f m n : Nat} (h : f + m + n ≤ D.length) : prt D f (m + n) = prt D f m + prt D (f + m) n := by
  unfold prt
  rw [List.take_add, sumZ_app, List.drop_drop]
/-- All drags are small. -/
structure smlD (D : List Int) : Prop where
  bd : ∀ j, j < D.length → -1000000 ≤ D.getD j 0 ∧ D.getD j 0 ≤ 1000000
theorem prt_bd {D : List Int} (h : smlD D) (f : Nat) : ∀ (k : Nat), f + k ≤ D.length → -1000000 * (k : Int) ≤ prt D f k ∧ prt D f k ≤ 1000000 * (k : Int)
  | 0, _ => by rw [prt_zero]; omega
  | k + 1, hk => by
    have h1 := prt_bd h f k (by omega)
    have h2 := h.bd (f + k) (by omega)
    rw [prt_succ (by omega)]
    omega
/-- The true drag is in what all gauges tell. -/
structure truG (l : List Gau) (D : List Int) : Prop where
  to_ : ∀ u ∈ l, u.t ≤ D.length
  lo : ∀ u ∈ l, u.lo ≤ prt D u.f.toNat (u.t.toNat - u.f.toNat)
  hi : ∀ u ∈ l, prt D u.f.toNat (u.t.toNat - u.f.toNat) ≤ u.hi
/-- The drag from a step up to c. -/
def rst (D : List Int) (c s : Int) : Int := prt D s.toNat (c.toNat - s.toNat)
theorem bst_true {l : List Gau} {D : List Int} (hl : fwd l) (ht : truG l D) {c : Int} (hc : c ≤ D.length) : ∀ (n : Nat) (s : Int), 0 ≤ s → ((bstF l c false n s).2 = true → s ≤ c ∧ (bstF l c false n s).1 ≤ rst D c s) ∧ ((bstF l c true n s).2 = true → s ≤ c ∧ rst D c s ≤ (bstF l c true n s).1)
  | 0, s, hs => by
    refine ⟨fun q => ?_, fun q => ?_⟩ <;> (have e : s = c := of_decide_eq_true q; subst e; unfold rst bstF; rw [show (s.toNat - s.toNat) = 0 by omega, prt_zero]; simp)
  | n + 1, s, hs => by
    unfold bstF
    by_cases e : s = c
    · subst e
      simp only [if_true]
      unfold rst; rw [show (s.toNat - s.toNat) = 0 by omega, prt_zero]; simp
    · simp only [if_neg e]
      refine ⟨fun q => ?_, fun q => ?_⟩
      · refine (fold_inv (I := fun m : Int × Bool => m.2 = true → s ≤ c ∧ m.1 ≤ rst D c s) l (0, false) (fun m u hu hm q => ?_) (fun q => by cases q)) q
        unfold bstU at q ⊢
        split at q
        · rename_i hq
          rw [if_pos hq]
          simp only [Bool.and_eq_true] at hq
          obtain ⟨h1, h2⟩ := goB_t hq.1.1
          have hu' := hl u hu
          unfold Gau.Ok at hu'
          obtain ⟨h3, h4⟩ := (bst_true hl ht hc n u.t (by omega)).1 hq.1.2
          have h5 := ht.lo u hu
          refine ⟨by omega, ?_⟩
          have h6 : rst D c s = prt D u.f.toNat (u.t.toNat - u.f.toNat) + rst D c u.t := by
            unfold rst
            rw [show (c.toNat - s.toNat) = (u.t.toNat - u.f.toNat) + (c.toNat - u.t.toNat) by omega, show s.toNat = u.f.toNat by rw [h1], prt_add (by omega), show u.f.toNat + (u.t.toNat - u.f.toNat) = u.t.toNat by omega]
          rw [h6]
          show u.lo + _ ≤ _
          omega
        · rename_i hq
          rw [if_neg hq]; exact hm q
      · refine (fold_inv (I := fun m : Int × Bool => m.2 = true → s ≤ c ∧ rst D c s ≤ m.1) l (0, false) (fun m u hu hm q => ?_) (fun q => by cases q)) q
        unfold bstU at q ⊢
        split at q
        · rename_i hq
          rw [if_pos hq]
          simp only [Bool.and_eq_true] at hq
          obtain ⟨h1, h2⟩ := goB_t hq.1.1
          have hu' := hl u hu
          unfold Gau.Ok at hu'
          obtain ⟨h3, h4⟩ := (bst_true hl ht hc n u.t (by omega)).2 hq.1.2
          have h5 := ht.hi u hu
          refine ⟨by omega, ?_⟩
          have h6 : rst D c s = prt D u.f.toNat (u.t.toNat - u.f.toNat) + rst D c u.t := by
            unfold rst
            rw [show (c.toNat - s.toNat) = (u.t.toNat - u.f.toNat) + (c.toNat - u.t.toNat) by omega, show s.toNat = u.f.toNat by rw [h1], prt_add (by omega), show u.f.toNat + (u.t.toNat - u.f.toNat) = u.t.toNat by omega]
          rw [h6]
          show _ ≤ u.hi + _
          omega
        · rename_i hq
          rw [if_neg hq]; exact hm q
/-- No chain goes beyond the last drag. -/
theorem bst_far {l : List Gau} {D : List Int} (ht : truG l D) {c : Int} (hc : (D.length : Int) < c) (h : Bool) : ∀ (n : Nat) (s : Int), s ≠ c → (bstF l c h n s).2 = true → ∃ u ∈ l, u.t = c
  | 0, s, hs, q => absurd (of_decide_eq_true q) hs
  | n + 1, s, hs, q => by
    unfold bstF at q
    rw [if_neg hs] at q
    refine (fold_inv (I := fun m : Int × Bool => m.2 = true → ∃ u ∈ l, u.t = c) l (0, false) (fun m u hu hm q => ?_) (fun q => by cases q)) q
    unfold bstU at q
    split at q
    · rename_i hq
      simp only [Bool.and_eq_true] at hq
      by_cases e : u.t = c
      · exact ⟨u, hu, e⟩
      · exact bst_far ht hc h n u.t e hq.1.2
    · exact hm q
theorem tru_bnd {l : List Gau} {D : List Int} (hg : gausB l = true) (ht : truG l D) {a c : Int} (hE : exE l a c false = 0) : 0 ≤ a ∧ a < c ∧ c ≤ D.length ∧ exN l a c false ≤ rst D c a ∧ rst D c a ≤ exN l a c true := by
  have hl := fwd_of hg
  rcases ex_ways l a c false with ⟨h, e, _⟩ | ⟨_, e, _⟩ | ⟨_, _, h1, _, h2, _, h3, h4, h5⟩
  · exact absurd (e ▸ hE) h
  · rw [e] at hE; cases hE
  · have hE2 : exE l a c true = 0 := by rw [exE_is]; exact hE
    have h6 : (bst l c true a).2 = true := by rw [← bst_is]; exact h2
    have h7 : exN l a c true = (bst l c true a).1 := by unfold exN; rw [hE2]; rfl
    have hc : c ≤ D.length := by
      by_cases hc : c ≤ D.length
      · exact hc
      · obtain ⟨u, hu, e⟩ := bst_far ht (c := c) (by omega) false _ a (by omega) h2
        have := ht.to_ u hu
        omega
    have h8 := bst_true hl ht hc (c - a).toNat a h3
    rw [h1, h7]
    exact ⟨h3, h4, hc, (h8.1 h2).2, (h8.2 h6).2⟩
theorem tru_noW {l : List Gau} {D : List Int} (hg : gausB l = true) (ht : truG l D) : noW l := ⟨fun a c q => by
  rcases bnd_ways l a c with ⟨h, e, _⟩ | ⟨h, _, _, _, h2⟩ | ⟨_, e, _⟩
  · rw [e] at q
    rcases ex_ways l a c false with ⟨h1, e1, _⟩ | ⟨_, e1, _⟩ | ⟨_, e1, _⟩
    · rw [e1] at q
      rcases str_ways l a c with ⟨_, h⟩ | ⟨_, _, h⟩ | ⟨_, _, h⟩ <;> rw [h] at q <;> cases q
    · rw [e1] at q; cases q
    · rw [e1] at q; cases q
  · have := tru_bnd hg ht h
    omega
  · rw [e] at q; cases q⟩
/-- The ways of the law on a true drag. -/
theorem tru_ways {l : List Gau} {D : List Int} (hg : gausB l = true) (ht : truG l D) {a c : Int} (ha : 0 ≤ a) (hac : a < c) (hc : c ≤ D.length) (hc2 : c ≤ 1000000) : bndE l a c = 8 ∨ (bndE l a c = 0 ∧ bndL l a c ≤ rst D c a ∧ rst D c a ≤ bndH l a c) := by
  have hs : strE l a c = 0 := by unfold strE; rw [hg]; simp only [if_true]; exact if_pos ⟨ha, hac, hc2⟩
  rcases bnd_ways l a c with ⟨h, e, _⟩ | ⟨h, _, _, _, h2⟩ | ⟨h, e, h1, h2, _⟩
  · rcases ex_ways l a c false with ⟨h1, _⟩ | ⟨_, e1, _⟩ | ⟨_, e1, _⟩
    · exact absurd hs h1
    · exact .inl (by rw [e, e1])
    · exact absurd e1 h
  · have := tru_bnd hg ht h; omega
  · obtain ⟨_, _, _, h3, h4⟩ := tru_bnd hg ht h
    exact .inr ⟨e, by rw [h1]; exact h3, by rw [h2]; exact h4⟩
/-- What the law's loop has found. -/
structure truK (l : List Gau) (D : List Int) (k : Nat) : Prop where
  to_ : ∀ j, j < k → (l.getD j default).t ≤ D.length
  has : ∀ j, j < k → hasB (l.getD j default) (prt D (l.getD j default).f.toNat ((l.getD j default).t.toNat - (l.getD j default).f.toNat)) = true
theorem truK_zero (l : List Gau) (D : List Int) : truK l D 0 := ⟨fun j h => by omega, fun j h => by omega⟩
theorem truK_next {l : List Gau} {D : List Int} {k : Nat} (h : truK l D k) (h1 : (l.getD k default).t ≤ D.length) (h2 : hasB (l.getD k default) (prt D (l.getD k default).f.toNat ((l.getD k default).t.toNat - (l.getD k default).f.toNat)) = true) : truK l D (k + 1) :=
  ⟨fun j hj => by
    by_cases e : j = k
    · subst e; exact h1
    · exact h.to_ j (by omega), fun j hj => by
    by_cases e : j = k
    · subst e; exact h2
    · exact h.has j (by omega)⟩
theorem truK_all {l : List Gau} {D : List Int} (h : truK l D l.length) : truG l D := by
  have key : ∀ u ∈ l, ∃ j, j < l.length ∧ l.getD j default = u := fun u hu => by
    obtain ⟨j, hj, e⟩ := List.mem_iff_getElem.1 hu
    exact ⟨j, hj, by rw [getD_getE hj]; exact e⟩
  refine ⟨fun u hu => ?_, fun u hu => ?_, fun u hu => ?_⟩ <;> obtain ⟨j, hj, rfl⟩ := key u hu
  · exact h.to_ j hj
  · exact (hasB_t (h.has j hj)).2.1
  · exact (hasB_t (h.has j hj)).2.2
structure smlK (D : List Int) (k : Nat) : Prop where
  bd : ∀ j, j < k → -1000000 ≤ D.getD j 0 ∧ D.getD j 0 ≤ 1000000
theorem smlK_zero (D : List Int) : smlK D 0 := ⟨fun j h => by omega⟩
theorem smlK_next {D : List Int} {k : Nat} (h : smlK D k) (h1 : -1000000 ≤ D.getD k 0) (h2 : D.getD k 0 ≤ 1000000) : smlK D (k + 1) := ⟨fun j hj => by
  by_cases e : j = k
  · subst e; exact ⟨h1, h2⟩
  · exact h.bd j (by omega)⟩
theorem smlK_all {D : List Int} (h : smlK D D.length) : smlD D := ⟨fun j hj => h.bd j hj⟩
theorem tru_rnd {l : List Gau} (hg : gausB l = true) (k : Nat) : (l.length ≤ k ∧ True) ∨ ((k < l.length ∧ 0 ≤ (l.getD k default).f ∧ (l.getD k default).f < (l.getD k default).t ∧ (l.getD k default).t ≤ 1000000) ∧ gauE (l.getD k default) = 0) := by
  rcases Nat.lt_or_ge k l.length with h | h
  · have hu := fwd_at (fwd_of hg) h
    have he : gauE (l.getD k default) = 0 := by unfold gauE; rw [gau_t hu]; rfl
    unfold Gau.Ok at hu
    exact .inr ⟨⟨h, by omega, by omega, by omega⟩, he⟩
  · exact .inl ⟨h, trivial⟩
/-- A list of numbers, with room for as many. -/
def lic (x : SV) (hp : List HB) (K : List Int → Prop) : Prop :=
  match x with
  | .sl _ _ _ _ len cap => len ≤ cap ∧ slW x hp 1 fun c => match c with
    | .ix xs => K xs
    | _ => False
  | _ => False
theorem iff_lic {x : SV} {hp : List HB} {K : List Int → Prop} (h : lic x hp K) : ∃ (xs : List Int) (a : Option Nm) (cap : Nat), K xs ∧ SlOk hp x (.ix xs) a cap ∧ xs.length ≤ cap := by
  unfold lic at h
  split at h
  · rename_i i a k s len cap
    obtain ⟨hle, h⟩ := h
    unfold slW at h
    simp only at h
    split at h
    · rename_i b hb
      split at h
      · rename_i hbb
        simp only [Bool.and_eq_true] at hbb
        have h1 := Nat.eq_of_beq_eq_true hbb.2.1
        have h2 := Nat.eq_of_beq_eq_true hbb.2.2
        obtain ⟨⟨rfl, hnm, hl, hp'⟩, h⟩ := h
        have hs := sl_whole (cap := cap) hb hbb.1 (show s = b.cts.s by rw [h1, h2]) hnm hl hp'
        split at h
        · rename_i xs he
          rw [he] at hs hl
          exact ⟨xs, a, cap, h, hs, by simp only [Cts.len] at hl; omega⟩
        · exact h.elim
      · exact h.elim
    · exact h.elim
  · exact h.elim
end Go.Sy
