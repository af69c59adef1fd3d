/- Grids made finer and coarser. -/
import Derived.Test.YtkaebgfhbgicfaaSpLev
set_option linter.unusedSimpArgs false
set_option linter.unusedVariables false
set_option linter.unusedSectionVars false
namespace Go.Sy
/-! ### Places -/
/-- The coarse cell of a fine one, which of its four it is, and the fine cell. -/
def rfS (w : Int) (j : Nat) : Nat := (((j : Int) % (2 * w)) / 2 + w * (((j : Int) / (2 * w)) / 2)).toNat
def rfP (w : Int) (j : Nat) : Int := ((j : Int) % (2 * w)) % 2 + 2 * (((j : Int) / (2 * w)) % 2)
def rfA (w : Int) (k : Nat) (i : Int) : Nat := ((2 * ((k : Int) % w) + i % 2) + 2 * w * (2 * ((k : Int) / w) + i / 2)).toNat
section
variable {w h : Int} (hw : 0 < w) (hh : 0 < h)
include hw hh
theorem rfA_xy {k : Nat} (hk : (k : Int) < w * h) {i : Int} (hi : 0 ≤ i ∧ i ≤ 3) : (rfA w k i : Int) < 4 * (w * h) ∧ (rfA w k i : Int) % (2 * w) = 2 * ((k : Int) % w) + i % 2 ∧ (rfA w k i : Int) / (2 * w) = 2 * ((k : Int) / w) + i / 2 := by
  have b := xy_bd hw hh hk
  have q := xy_of (w := 2 * w) (h := 2 * h) (by omega) (by omega) (x := 2 * ((k : Int) % w) + i % 2) (y := 2 * ((k : Int) / w) + i / 2) (by omega) (by omega) (by omega) (by omega)
  have e : 2 * w * (2 * h) = 4 * (w * h) := by rw [Int.mul_assoc, Int.mul_left_comm w 2 h, ← Int.mul_assoc]; rfl
  unfold rfA
  exact ⟨by rw [Int.toNat_of_nonneg q.1]; omega, q.2.2.1, q.2.2.2⟩
theorem rfA_back {k : Nat} (hk : (k : Int) < w * h) {i : Int} (hi : 0 ≤ i ∧ i ≤ 3) : rfS w (rfA w k i) = k ∧ rfP w (rfA w k i) = i := by
  have q := rfA_xy hw hh hk hi
  have b := xy_bd hw hh hk
  unfold rfS rfP
  rw [q.2.1, q.2.2]
  refine ⟨?_, by omega⟩
  rw [show (2 * ((k : Int) % w) + i % 2) / 2 = (k : Int) % w by omega, show (2 * ((k : Int) / w) + i / 2) / 2 = (k : Int) / w by omega, b.2.2.2.2]
  rfl
theorem rfS_lt {j : Nat} (hj : (j : Int) < 4 * (w * h)) : (rfS w j : Int) < w * h ∧ (0 ≤ rfP w j ∧ rfP w j ≤ 3) ∧ rfA w (rfS w j) (rfP w j) = j := by
  have e : 2 * w * (2 * h) = 4 * (w * h) := by rw [Int.mul_assoc, Int.mul_left_comm w 2 h, ← Int.mul_assoc]; rfl
  have b := xy_bd (w := 2 * w) (h := 2 * h) (by omega) (by omega) (i := j) (by omega)
  have q := xy_of hw hh (x := ((j : Int) % (2 * w)) / 2) (y := ((j : Int) / (2 * w)) / 2) (by omega) (by omega) (by omega) (by omega)
  refine ⟨by unfold rfS; rw [Int.toNat_of_nonneg q.1]; exact q.2.1, by unfold rfP; omega, ?_⟩
  unfold rfA
  have e1 : ((rfS w j : Nat) : Int) % w = ((j : Int) % (2 * w)) / 2 := q.2.2.1
  have e2 : ((rfS w j : Nat) : Int) / w = ((j : Int) / (2 * w)) / 2 := q.2.2.2
  rw [e1, e2]
  unfold rfP
  rw [show 2 * ((j : Int) % (2 * w) / 2) + (j % (2 * w) % 2 + 2 * (j / (2 * w) % 2)) % 2 = (j : Int) % (2 * w) by omega, show 2 * ((j : Int) / (2 * w) / 2) + (j % (2 * w) % 2 + 2 * (j / (2 * w) % 2)) / 2 = (j : Int) / (2 * w) by omega, b.2.2.2.2]
  rfl
end
/-! ### Refined -/
def rfT (w : Int) (cs : List Cel) (k : Nat) : List Cel := tab (4 * cs.length) fun j => if rfS w j < k then (cs.getD (rfS w j) default).part (rfP w j) else ⟨0, 0, 0, 0⟩
def refC (w : Int) (cs : List Cel) : List Cel := tab (4 * cs.length) fun j => (cs.getD (rfS w j) default).part (rfP w j)
theorem rfT_length (w : Int) (cs : List Cel) (k : Nat) : (rfT w cs k).length = 4 * cs.length := tab_length _ _
theorem refC_length (w : Int) (cs : List Cel) : (refC w cs).length = 4 * cs.length := tab_length _ _
theorem tab_zero (n : Nat) : tab n (fun _ => (⟨0, 0, 0, 0⟩ : Cel)) = List.replicate n ⟨0, 0, 0, 0⟩ := by
  unfold tab; rw [List.map_const', List.length_range]
theorem rfT_zero (w : Int) (cs : List Cel) : rfT w cs 0 = List.replicate (4 * cs.length) ⟨0, 0, 0, 0⟩ := by
  rw [← tab_zero]; exact tab_congr fun j _ => if_neg (by omega)
section
variable {w h : Int} (hw : 0 < w) (hh : 0 < h) {cs : List Cel} (hl : (cs.length : Int) = w * h)
include hw hh hl
theorem rfT_full {k : Nat} (hk : cs.length ≤ k) : rfT w cs k = refC w cs := tab_congr fun j hj => if_pos (by have := (rfS_lt hw hh (j := j) (by omega)).1; omega)
theorem rfA_lt {k : Nat} (hk : k < cs.length) {i : Int} (hi : 0 ≤ i ∧ i ≤ 3) : rfA w k i < 4 * cs.length := by have := (rfA_xy hw hh (k := k) (by omega) hi).1; omega
/-- After so many pieces of the next cell. -/
def rfU (w : Int) (cs : List Cel) (k : Nat) (m : Int) : List Cel := tab (4 * cs.length) fun j => if rfS w j < k ∨ rfS w j = k ∧ rfP w j < m then (cs.getD (rfS w j) default).part (rfP w j) else ⟨0, 0, 0, 0⟩
omit hw hh hl in
theorem rfU_length (w : Int) (cs : List Cel) (k : Nat) (m : Int) : (rfU w cs k m).length = 4 * cs.length := tab_length _ _
theorem rfU_zero (k : Nat) : rfU w cs k 0 = rfT w cs k := tab_congr fun j hj => by
  have := (rfS_lt hw hh (j := j) (by omega)).2.1
  by_cases h9 : rfS w j < k
  · rw [if_pos (.inl h9), if_pos h9]
  · rw [if_neg (by omega), if_neg h9]
theorem rfU_four (k : Nat) : rfU w cs k 4 = rfT w cs (k + 1) := tab_congr fun j hj => by
  have := (rfS_lt hw hh (j := j) (by omega)).2.1
  by_cases h9 : rfS w j < k + 1
  · rw [if_pos (by omega), if_pos h9]
  · rw [if_neg (by omega), if_neg h9]
theorem rfU_set {k : Nat} (hk : k < cs.length) {m : Int} (hm : 0 ≤ m ∧ m ≤ 3) {a : Nat} (ha : a = rfA w k m) {v : Cel} (hv : v = (cs.getD k default).part m) : (rfU w cs k m).set a v = rfU w cs k (m + 1) := by
  subst ha; subst hv
  refine tab_set fun j hj => ?_
  have q := rfS_lt hw hh (j := j) (by omega)
  have r := rfA_back hw hh (k := k) (by omega) hm
  by_cases e : j = rfA w k m
  · subst e
    rw [if_pos rfl, if_pos (.inr ⟨r.1, by rw [r.2]; omega⟩), r.1, r.2]
  · rw [if_neg e]
    have ne : ¬ (rfS w j = k ∧ rfP w j = m) := fun ⟨e1, e2⟩ => e (by rw [← e1, ← e2, q.2.2])
    by_cases h9 : rfS w j < k ∨ rfS w j = k ∧ rfP w j < m
    · rw [if_pos h9, if_pos (by omega)]
    · rw [if_neg h9, if_neg (by omega)]
theorem rfT_set4 {k : Nat} (hk : k < cs.length) {a0 a1 a2 a3 : Nat} (h0 : a0 = rfA w k 0) (h1 : a1 = rfA w k 1) (h2 : a2 = rfA w k 2) (h3 : a3 = rfA w k 3) {v0 v1 v2 v3 : Cel}
    (e0 : v0 = (cs.getD k default).part 0) (e1 : v1 = (cs.getD k default).part 1) (e2 : v2 = (cs.getD k default).part 2) (e3 : v3 = (cs.getD k default).part 3) :
    ((((rfT w cs k).set a0 v0).set a1 v1).set a2 v2).set a3 v3 = rfT w cs (k + 1) := by
  have s0 := rfU_set hw hh hl hk (m := 0) (by omega) h0 e0
  have s1 := rfU_set hw hh hl hk (m := 1) (by omega) h1 e1
  have s2 := rfU_set hw hh hl hk (m := 2) (by omega) h2 e2
  have s3 := rfU_set hw hh hl hk (m := 3) (by omega) h3 e3
  rw [← rfU_zero hw hh hl, s0]
  show (((rfU w cs k 1).set a1 v1).set a2 v2).set a3 v3 = _
  rw [s1]
  show ((rfU w cs k 2).set a2 v2).set a3 v3 = _
  rw [s2]
  show (rfU w cs k 3).set a3 v3 = _
  rw [s3]
  exact rfU_four hw hh hl k
theorem refC_at {k : Nat} (hk : k < cs.length) {i : Int} (hi : 0 ≤ i ∧ i ≤ 3) : (refC w cs).getD (rfA w k i) default = (cs.getD k default).part i := by
  have r := rfA_back hw hh (k := k) (by omega) hi
  unfold refC
  rw [tab_at _ (rfA_lt hw hh hl hk hi), r.1, r.2]
end
theorem part_val {c : Cel} (h : c.ok = true) {k : Int} (hk : 0 ≤ k ∧ k ≤ 3) : c.part k = ⟨(c.e + 3 - k) / 4, (c.n + 3 - k) / 4, (c.w + 3 - k) / 4, (c.s + 3 - k) / 4⟩ := by
  have hf := Cel.ok_iff.1 h
  unfold Cel.part
  rw [if_pos h, Int.tdiv_eq_ediv_of_nonneg (by omega), Int.tdiv_eq_ediv_of_nonneg (by omega), Int.tdiv_eq_ediv_of_nonneg (by omega), Int.tdiv_eq_ediv_of_nonneg (by omega)]
theorem part_sum {c : Cel} (h : c.ok = true) : (((c.part 0).add (c.part 1)).add (c.part 2)).add (c.part 3) = c := by
  have hf := Cel.ok_iff.1 h
  rw [part_val h (by omega), part_val h (by omega), part_val h (by omega), part_val h (by omega), Cel.eq_iff]
  simp only [Cel.add]; omega
theorem part_nn {c : Cel} (h : c.ok = true) {k : Int} (hk : 0 ≤ k ∧ k ≤ 3) : 0 ≤ (c.part k).e ∧ 0 ≤ (c.part k).n ∧ 0 ≤ (c.part k).w ∧ 0 ≤ (c.part k).s := by
  have hf := Cel.ok_iff.1 h
  rw [part_val h hk]; simp only; omega
/-! ### Made coarse -/
def coS (w : Int) (cs : List Cel) (k : Nat) (i : Int) : Cel := cs.getD (rfA w k i) default
/-- w: the coarse width. -/
def coaC (w : Int) (cs : List Cel) : List Cel := tab (cs.length / 4) fun k => (((coS w cs k 0).add (coS w cs k 1)).add (coS w cs k 2)).add (coS w cs k 3)
theorem coaC_length (w : Int) (cs : List Cel) : (coaC w cs).length = cs.length / 4 := tab_length _ _
/-- Cell by cell, of the coarse ones. -/
def coT (w : Int) (cs : List Cel) (k : Nat) : List Cel := tab (cs.length / 4) fun j => if j < k then (((coS w cs j 0).add (coS w cs j 1)).add (coS w cs j 2)).add (coS w cs j 3) else ⟨0, 0, 0, 0⟩
theorem coT_length (w : Int) (cs : List Cel) (k : Nat) : (coT w cs k).length = cs.length / 4 := tab_length _ _
theorem coT_zero (w : Int) (cs : List Cel) : coT w cs 0 = List.replicate (cs.length / 4) ⟨0, 0, 0, 0⟩ := by
  rw [← tab_zero]; exact tab_congr fun j _ => if_neg (by omega)
theorem coT_full (w : Int) (cs : List Cel) {k : Nat} (hk : cs.length / 4 ≤ k) : coT w cs k = coaC w cs := tab_congr fun j hj => if_pos (by omega)
theorem coT_at (w : Int) (cs : List Cel) {k : Nat} (hk : k < cs.length / 4) : (coT w cs k).getD k default = ⟨0, 0, 0, 0⟩ := by
  unfold coT; rw [tab_at _ hk, if_neg (by omega)]
theorem coT_set {w : Int} {cs : List Cel} {k : Nat} {v : Cel} (hv : v = (((coS w cs k 0).add (coS w cs k 1)).add (coS w cs k 2)).add (coS w cs k 3)) : (coT w cs k).set k v = coT w cs (k + 1) := by
  refine tab_set fun j hj => ?_
  by_cases e : j = k
  · subst e; rw [if_pos (by omega), if_pos rfl, hv]
  · rw [if_neg e]
    by_cases h9 : j < k
    · rw [if_pos (by omega), if_pos h9]
    · rw [if_neg (by omega), if_neg h9]
/-- Cell by cell, of the fine ones. -/
def coV (w : Int) (cs : List Cel) (k j : Nat) (i : Int) : Cel := if rfA w j i < k then coS w cs j i else ⟨0, 0, 0, 0⟩
def coR (w : Int) (cs : List Cel) (k : Nat) : List Cel := tab (cs.length / 4) fun j => (((coV w cs k j 0).add (coV w cs k j 1)).add (coV w cs k j 2)).add (coV w cs k j 3)
theorem coR_length (w : Int) (cs : List Cel) (k : Nat) : (coR w cs k).length = cs.length / 4 := tab_length _ _
theorem coR_zero (w : Int) (cs : List Cel) : coR w cs 0 = List.replicate (cs.length / 4) ⟨0, 0, 0, 0⟩ := by
  rw [← tab_zero]
  refine tab_congr fun j _ => ?_
  unfold coV
  rw [if_neg (by omega), if_neg (by omega), if_neg (by omega), if_neg (by omega)]; rfl
section
variable {w h : Int} (hw : 0 < w) (hh : 0 < h) {cs : List Cel} (hl : (cs.length : Int) = 4 * (w * h))
include hw hh hl
theorem coA_lt {j : Nat} (hj : j < cs.length / 4) {i : Int} (hi : 0 ≤ i ∧ i ≤ 3) : rfA w j i < cs.length := by have := (rfA_xy hw hh (k := j) (by omega) hi).1; omega
theorem coR_full {k : Nat} (hk : cs.length ≤ k) : coR w cs k = coaC w cs := tab_congr fun j hj => by
  unfold coV
  rw [if_pos (by have := coA_lt hw hh hl hj (i := 0) (by omega); omega), if_pos (by have := coA_lt hw hh hl hj (i := 1) (by omega); omega), if_pos (by have := coA_lt hw hh hl hj (i := 2) (by omega); omega), if_pos (by have := coA_lt hw hh hl hj (i := 3) (by omega); omega)]
theorem coR_in {k : Nat} (hk : k < cs.length) : rfS w k < cs.length / 4 := by have := (rfS_lt hw hh (j := k) (by omega)).1; omega
theorem coV_next {k j : Nat} (hk : k < cs.length) (hj : j < cs.length / 4) {i : Int} (hi : 0 ≤ i ∧ i ≤ 3) : coV w cs (k + 1) j i = if rfA w j i = k then cs.getD k default else coV w cs k j i := by
  unfold coV
  by_cases e : rfA w j i = k
  · rw [if_pos (by omega), if_pos e]; unfold coS; rw [e]
  · rw [if_neg e]
    by_cases h9 : rfA w j i < k
    · rw [if_pos (by omega), if_pos h9]
    · rw [if_neg (by omega), if_neg h9]
theorem coV_at {k : Nat} (hk : k < cs.length) : coV w cs k (rfS w k) (rfP w k) = ⟨0, 0, 0, 0⟩ := by
  unfold coV; rw [if_neg]; rw [(rfS_lt hw hh (j := k) (by omega)).2.2]; omega
theorem coR_set {k : Nat} (hk : k < cs.length) {a : Nat} (ha : a = rfS w k) {v : Cel} (hv : v = ((coR w cs k).getD a default).add (cs.getD k default)) : (coR w cs k).set a v = coR w cs (k + 1) := by
  subst ha
  have hin := coR_in hw hh hl hk
  have q := rfS_lt hw hh (j := k) (by omega)
  refine tab_set fun j hj => ?_
  have n0 := coV_next hw hh hl hk hj (i := 0) (by omega)
  have n1 := coV_next hw hh hl hk hj (i := 1) (by omega)
  have n2 := coV_next hw hh hl hk hj (i := 2) (by omega)
  have n3 := coV_next hw hh hl hk hj (i := 3) (by omega)
  by_cases e : j = rfS w k
  · subst e
    rw [if_pos rfl, hv]
    unfold coR
    rw [tab_at _ hin]
    have z := coV_at hw hh hl hk
    have r : ∀ i : Int, 0 ≤ i → i ≤ 3 → (rfA w (rfS w k) i = k ↔ i = rfP w k) := fun i h0 h3 => ⟨fun e => by rw [← (rfA_back hw hh (k := rfS w k) (by omega) ⟨h0, h3⟩).2, e], fun e => by rw [e]; exact q.2.2⟩
    simp only [r 0 (by omega) (by omega), r 1 (by omega) (by omega), r 2 (by omega) (by omega), r 3 (by omega) (by omega)] at n0 n1 n2 n3
    rw [n0, n1, n2, n3]
    rcases (show rfP w k = 0 ∨ rfP w k = 1 ∨ rfP w k = 2 ∨ rfP w k = 3 by omega) with e | e | e | e <;> rw [e] at z ⊢ <;> simp [z, Cel.add, Cel.eq_iff] <;> omega
  · rw [if_neg e]
    have ne : ∀ i : Int, 0 ≤ i → i ≤ 3 → ¬ rfA w j i = k := fun i h0 h3 e9 => e (by rw [← e9]; exact (rfA_back hw hh (k := j) (by omega) ⟨h0, h3⟩).1.symm)
    rw [if_neg (ne 0 (by omega) (by omega))] at n0
    rw [if_neg (ne 1 (by omega) (by omega))] at n1
    rw [if_neg (ne 2 (by omega) (by omega))] at n2
    rw [if_neg (ne 3 (by omega) (by omega))] at n3
    rw [n0, n1, n2, n3]
end
theorem coV_bd {cs : List Cel} (h : okL cs = true) (w : Int) (k j : Nat) (i : Int) : bd9 (coV w cs k j i) := by
  unfold coV coS
  split
  · exact okL_bd9 h _
  · unfold bd9; simp only; omega
def bd36 (c : Cel) : Prop := (0 ≤ c.e ∧ c.e ≤ 4000000000) ∧ (0 ≤ c.n ∧ c.n ≤ 4000000000) ∧ (0 ≤ c.w ∧ c.w ≤ 4000000000) ∧ 0 ≤ c.s ∧ c.s ≤ 4000000000
theorem coR_bd {cs : List Cel} (h : okL cs = true) (w : Int) (k j : Nat) : bd36 ((coR w cs k).getD j default) := by
  by_cases hj : j < cs.length / 4
  · have h0 := coV_bd h w k j 0
    have h1 := coV_bd h w k j 1
    have h2 := coV_bd h w k j 2
    have h3 := coV_bd h w k j 3
    unfold coR
    rw [tab_at _ hj]
    unfold bd9 at *; unfold bd36
    simp only [Cel.add]
    omega
  · rw [List.getD_eq_getElem?_getD, List.getElem?_eq_none (by rw [coR_length]; omega)]
    unfold bd36; decide
/-! ### There and back -/
theorem coa_ref {w h : Int} (hw : 0 < w) (hh : 0 < h) {cs : List Cel} (hl : (cs.length : Int) = w * h) (hok : okL cs = true) : coaC w (refC w cs) = cs := by
  refine Eq.trans ?_ (tab_self cs)
  unfold coaC
  rw [refC_length, show 4 * cs.length / 4 = cs.length by omega]
  refine tab_congr fun k hk => ?_
  unfold coS
  rw [refC_at hw hh hl hk (by omega), refC_at hw hh hl hk (by omega), refC_at hw hh hl hk (by omega), refC_at hw hh hl hk (by omega)]
  exact part_sum (okL_at hok hk)
theorem massL_set' (cs : List Cel) (v : Cel) : ∀ (k : Nat), k < cs.length → massL (cs.set k v) = massL cs - (cs.getD k default).m + v.m := by
  induction cs with
  | nil => intro k hk; simp at hk
  | cons c cs ih =>
    intro k hk
    cases k with
    | zero => simp only [List.set_cons_zero, massL, List.getD_cons_zero]; omega
    | succ k =>
      have := ih k (by simpa using hk)
      simp only [List.set_cons_succ, massL, List.getD_cons_succ, this]; omega
theorem massL_zero (n : Nat) : massL (List.replicate n (⟨0, 0, 0, 0⟩ : Cel)) = 0 := by
  induction n with
  | zero => rfl
  | succ n ih => rw [List.replicate_succ, massL, ih]; rfl
theorem rfU_mass {w h : Int} (hw : 0 < w) (hh : 0 < h) {cs : List Cel} (hl : (cs.length : Int) = w * h) {k : Nat} (hk : k < cs.length) {m : Int} (hm : 0 ≤ m ∧ m ≤ 3) : massL (rfU w cs k (m + 1)) = massL (rfU w cs k m) + ((cs.getD k default).part m).m := by
  have hlt := rfA_lt hw hh hl hk hm
  have r := rfA_back hw hh (k := k) (by omega) hm
  rw [← rfU_set hw hh hl hk hm rfl rfl, massL_set' _ _ _ (by rw [rfU_length]; exact hlt)]
  have z : (rfU w cs k m).getD (rfA w k m) default = ⟨0, 0, 0, 0⟩ := by
    unfold rfU; rw [tab_at _ hlt, if_neg]; rw [r.1, r.2]; omega
  rw [z]
  show _ - (0 : Int) + _ = _
  omega
theorem rfT_mass {w h : Int} (hw : 0 < w) (hh : 0 < h) {cs : List Cel} (hl : (cs.length : Int) = w * h) (hok : okL cs = true) : ∀ {k : Nat}, k ≤ cs.length → massL (rfT w cs k) = massL (cs.take k)
  | 0, _ => by rw [rfT_zero, massL_zero]; rfl
  | k + 1, hk => by
    have ih := rfT_mass hw hh hl hok (k := k) (by omega)
    have q0 := rfU_mass hw hh hl (k := k) (by omega) (m := 0) (by omega)
    have q1 := rfU_mass hw hh hl (k := k) (by omega) (m := 1) (by omega)
    have q2 := rfU_mass hw hh hl (k := k) (by omega) (m := 2) (by omega)
    have q3 := rfU_mass hw hh hl (k := k) (by omega) (m := 3) (by omega)
    rw [rfU_zero hw hh hl] at q0
    rw [show (3 : Int) + 1 = 4 from rfl, rfU_four hw hh hl] at q3
    simp only [show (0 : Int) + 1 = 1 from rfl, show (1 : Int) + 1 = 2 from rfl, show (2 : Int) + 1 = 3 from rfl] at q0 q1 q2
    have hs := part_sum (okL_at hok (i := k) (by omega))
    have hm : (((((cs.getD k default).part 0).add ((cs.getD k default).part 1)).add ((cs.getD k default).part 2)).add ((cs.getD k default).part 3)).m = (cs.getD k default).m := by rw [hs]
    simp only [Cel.m, Cel.add] at hm q0 q1 q2 q3
    rw [take_snoc cs default (by omega), massL_app]
    simp only [massL, Cel.m]
    omega
theorem refC_mass {w h : Int} (hw : 0 < w) (hh : 0 < h) {cs : List Cel} (hl : (cs.length : Int) = w * h) (hok : okL cs = true) : massL (refC w cs) = massL cs := by
  rw [← rfT_full hw hh hl (Nat.le_refl _), rfT_mass hw hh hl hok (Nat.le_refl _), List.take_length]
theorem refC_nn {w h : Int} (hw : 0 < w) (hh : 0 < h) {cs : List Cel} (hl : (cs.length : Int) = w * h) (hok : okL cs = true) : nnL (refC w cs) := fun c hc => by
  obtain ⟨j, hj, rfl⟩ := tab_mem hc
  have q := rfS_lt hw hh (j := j) (by omega)
  exact part_nn (okL_at hok (by omega)) q.2.1
/-! ### Asked -/
def refE (g : Grd) : Int := if g.ok then (if 2 * g.w ≤ 64 ∧ 2 * g.h ≤ 64 ∧ 4 * (g.w * g.h) ≤ 1024 then 0 else 4) else 1
def refG (g : Grd) : Grd := if refE g = 0 then ⟨2 * g.w, 2 * g.h, refC g.w g.cs⟩ else ⟨0, 0, []⟩
def coaE6 (g : Grd) : Int := if g.ok then (if g.w % 2 = 0 ∧ g.h % 2 = 0 then 0 else 9) else 1
def coaG (g : Grd) : Grd := if coaE6 g = 0 then ⟨g.w / 2, g.h / 2, coaC (g.w / 2) g.cs⟩ else ⟨0, 0, []⟩
def evnB (g : Grd) : Bool := if coaE6 g = 0 then decide (refC (g.w / 2) (coaC (g.w / 2) g.cs) = g.cs) else false
def blkL (g : Grd) : List Int := (coaG g).cs.map Cel.m
theorem ref_ways (g : Grd) : (g.ok = false ∧ refE g = 1 ∧ refG g = ⟨0, 0, []⟩ ∧ True) ∨ (g.ok = true ∧ refE g = 4 ∧ refG g = ⟨0, 0, []⟩ ∧ ¬ (2 * g.w ≤ 64 ∧ 2 * g.h ≤ 64 ∧ 4 * (g.w * g.h) ≤ 1024)) ∨ (g.ok = true ∧ refE g = 0 ∧ refG g = ⟨2 * g.w, 2 * g.h, refC g.w g.cs⟩ ∧ 2 * g.w ≤ 64 ∧ 2 * g.h ≤ 64 ∧ 4 * (g.w * g.h) ≤ 1024) := by
  cases hg : g.ok
  · have e : refE g = 1 := by simp [refE, hg]
    exact .inl ⟨rfl, e, if_neg (by omega), trivial⟩
  · by_cases hc : 2 * g.w ≤ 64 ∧ 2 * g.h ≤ 64 ∧ 4 * (g.w * g.h) ≤ 1024
    · have e : refE g = 0 := by unfold refE; rw [if_pos hg, if_pos hc]
      exact .inr (.inr ⟨rfl, e, if_pos e, hc⟩)
    · have e : refE g = 4 := by unfold refE; rw [if_pos hg, if_neg hc]
      exact .inr (.inl ⟨rfl, e, if_neg (by omega), hc⟩)
theorem coa6_ways (g : Grd) : (g.ok = false ∧ coaE6 g = 1 ∧ coaG g = ⟨0, 0, []⟩ ∧ evnB g = false ∧ True) ∨ (g.ok = true ∧ coaE6 g = 9 ∧ coaG g = ⟨0, 0, []⟩ ∧ evnB g = false ∧ ¬ (g.w % 2 = 0 ∧ g.h % 2 = 0)) ∨
    (g.ok = true ∧ coaE6 g = 0 ∧ coaG g = ⟨g.w / 2, g.h / 2, coaC (g.w / 2) g.cs⟩ ∧ evnB g = decide (refC (g.w / 2) (coaC (g.w / 2) g.cs) = g.cs) ∧ g.w % 2 = 0 ∧ g.h % 2 = 0 ∧ (g.cs.length : Int) = 4 * (g.w / 2 * (g.h / 2))) := by
  cases hg : g.ok
  · have e : coaE6 g = 1 := by simp [coaE6, hg]
    exact .inl ⟨rfl, e, if_neg (by omega), if_neg (by omega), trivial⟩
  · by_cases hc : g.w % 2 = 0 ∧ g.h % 2 = 0
    · have e : coaE6 g = 0 := by unfold coaE6; rw [if_pos hg, if_pos hc]
      have hb := gok_bds hg
      have e4 : g.w * g.h = 4 * (g.w / 2 * (g.h / 2)) := by
        obtain ⟨a, ha⟩ : ∃ a, g.w = 2 * a := ⟨g.w / 2, by omega⟩
        obtain ⟨b, hb⟩ : ∃ b, g.h = 2 * b := ⟨g.h / 2, by omega⟩
        rw [ha, hb, show 2 * a / 2 = a by omega, show 2 * b / 2 = b by omega, Int.mul_assoc, Int.mul_left_comm a 2 b, ← Int.mul_assoc]; rfl
      exact .inr (.inr ⟨rfl, e, if_pos e, if_pos e, hc.1, hc.2, by omega⟩)
    · have e : coaE6 g = 9 := by unfold coaE6; rw [if_pos hg, if_neg hc]
      exact .inr (.inl ⟨rfl, e, if_neg (by omega), if_neg (by omega), hc⟩)
/-! ### What walks need -/
structure RfB (w h : Int) (k : Nat) : Prop where
  tm : (k : Int).tmod w = (k : Int) % w
  td : (k : Int).tdiv w = (k : Int) / w
  x : 0 ≤ (k : Int) % w ∧ (k : Int) % w ≤ w - 1
  y : 0 ≤ (k : Int) / w ∧ (k : Int) / w ≤ h - 1
  e : (k : Int) % w + w * ((k : Int) / w) = k
  r : 0 ≤ w * ((k : Int) / w) ∧ w * ((k : Int) / w) + w ≤ w * h
  a : 2 * w * (2 * ((k : Int) / w)) = 4 * (w * ((k : Int) / w))
  b : 2 * w * (2 * ((k : Int) / w) + 1) = 4 * (w * ((k : Int) / w)) + 2 * w
theorem rf_bds {w h : Int} (hw : 0 < w) (hh : 0 < h) {k : Nat} (hk : (k : Int) < w * h) : RfB w h k := by
  have q := xy_bd hw hh hk
  have m1 : 0 ≤ w * ((k : Int) / w) := Int.mul_nonneg (by omega) q.2.2.1
  have m2 : w * ((k : Int) / w + 1) ≤ w * h := Int.mul_le_mul_of_nonneg_left (by omega) (by omega)
  rw [Int.mul_add, Int.mul_one] at m2
  have ea : 2 * w * (2 * ((k : Int) / w)) = 4 * (w * ((k : Int) / w)) := by rw [Int.mul_assoc, Int.mul_left_comm w 2, ← Int.mul_assoc]; rfl
  exact ⟨Int.tmod_eq_emod_of_nonneg (Int.natCast_nonneg k), Int.tdiv_eq_ediv_of_nonneg (Int.natCast_nonneg k), ⟨q.1, by omega⟩, ⟨q.2.2.1, by omega⟩, q.2.2.2.2, ⟨m1, m2⟩, ea, by rw [Int.mul_add, ea, Int.mul_one]⟩
/-- A cell by its row and column. -/
structure RfC (w : Int) (n i j : Nat) : Prop where
  t : ((i : Int) + w * (j : Int)).toNat = w.toNat * j + i
  lt : w.toNat * j + i < n
  p : 0 ≤ w * (j : Int) ∧ 0 ≤ (i : Int) + w * (j : Int) ∧ (i : Int) + w * (j : Int) < n
  q : 0 ≤ 2 * w * (2 * (j : Int)) ∧ 0 ≤ 2 * w * (2 * (j : Int) + 1) ∧ 2 * (i : Int) + 1 + 2 * w * (2 * (j : Int) + 1) < 4 * n ∧ 2 * w * (2 * (j : Int)) ≤ 2 * w * (2 * (j : Int) + 1)
  a0 : (2 * (i : Int) + 2 * w * (2 * (j : Int))).toNat = rfA w (w.toNat * j + i) 0
  a1 : (2 * (i : Int) + 1 + 2 * w * (2 * (j : Int))).toNat = rfA w (w.toNat * j + i) 1
  a2 : (2 * (i : Int) + 2 * w * (2 * (j : Int) + 1)).toNat = rfA w (w.toNat * j + i) 2
  a3 : (2 * (i : Int) + 1 + 2 * w * (2 * (j : Int) + 1)).toNat = rfA w (w.toNat * j + i) 3
theorem rfc_mk {w h : Int} {n : Nat} (hw : 0 < w) (hh : 0 < h) (hn : (n : Int) = w * h) {i j : Nat} (hi : (i : Int) < w) (hj : (j : Int) < h) : RfC w n i j := by
  have q := xy_of hw hh (x := i) (y := j) (Int.natCast_nonneg i) hi (Int.natCast_nonneg j) hj
  have m0 : 0 ≤ w * (j : Int) := Int.mul_nonneg (by omega) (Int.natCast_nonneg j)
  have et : ((i : Int) + w * (j : Int)).toNat = w.toNat * j + i := by
    have : ((w.toNat * j : Nat) : Int) = w * j := by rw [Int.natCast_mul, Int.toNat_of_nonneg (by omega)]
    omega
  have m2 : w * ((j : Int) + 1) ≤ w * h := Int.mul_le_mul_of_nonneg_left (by omega) (by omega)
  rw [Int.mul_add, Int.mul_one] at m2
  have ea : 2 * w * (2 * (j : Int)) = 4 * (w * (j : Int)) := by rw [Int.mul_assoc, Int.mul_left_comm w 2, ← Int.mul_assoc]; rfl
  have eb : 2 * w * (2 * (j : Int) + 1) = 4 * (w * (j : Int)) + 2 * w := by rw [Int.mul_add, ea, Int.mul_one]
  have e1 := q.2.2.1
  have e2 := q.2.2.2
  rw [et] at e1 e2
  refine ⟨et, by omega, ⟨m0, by omega, by omega⟩, ⟨by omega, by omega, by omega, by omega⟩, ?_, ?_, ?_, ?_⟩
  · unfold rfA; rw [e1, e2]; simp
  · unfold rfA; rw [e1, e2]; simp
  · unfold rfA; rw [e1, e2]; simp
  · unfold rfA; rw [e1, e2]; simp
/-! ### Made coarse: masses, places -/
theorem coR_mass {w h : Int} (hw : 0 < w) (hh : 0 < h) {cs : List Cel} (hl : (cs.length : Int) = 4 * (w * h)) : ∀ {k : Nat}, k ≤ cs.length → massL (coR w cs k) = massL (cs.take k)
  | 0, _ => by rw [coR_zero, massL_zero]; rfl
  | k + 1, hk => by
    have ih := coR_mass hw hh hl (k := k) (by omega)
    have hin := coR_in hw hh hl (k := k) (by omega)
    rw [← coR_set hw hh hl (k := k) (by omega) rfl rfl, massL_set' _ _ _ (by rw [coR_length]; exact hin), ih, take_snoc cs default (by omega), massL_app]
    simp only [massL, Cel.m, Cel.add]
    omega
theorem coaC_mass {w h : Int} (hw : 0 < w) (hh : 0 < h) {cs : List Cel} (hl : (cs.length : Int) = 4 * (w * h)) : massL (coaC w cs) = massL cs := by
  rw [← coR_full hw hh hl (Nat.le_refl _), coR_mass hw hh hl (Nat.le_refl _), List.take_length]
theorem coS_bd {cs : List Cel} (h : okL cs = true) (w : Int) (k : Nat) (i : Int) : bd9 (coS w cs k i) := okL_bd9 h _
theorem coaC_nn {cs : List Cel} (h : okL cs = true) (w : Int) : nnL (coaC w cs) := fun c hc => by
  obtain ⟨j, _, rfl⟩ := tab_mem hc
  have h0 := coS_bd h w j 0
  have h1 := coS_bd h w j 1
  have h2 := coS_bd h w j 2
  have h3 := coS_bd h w j 3
  unfold bd9 at *
  simp only [Cel.add]
  omega
/-- The sums of a coarse cell, under way. -/
structure CoOk (w : Int) (cs : List Cel) (k : Nat) : Prop where
  c0 : bd9 (coS w cs k 0)
  c1 : bd9 (coS w cs k 1)
  c2 : bd9 (coS w cs k 2)
  c3 : bd9 (coS w cs k 3)
  m : (coS w cs k 0).m + (coS w cs k 1).m + (coS w cs k 2).m + (coS w cs k 3).m ≤ 1000000000
theorem coOk_mk {w h : Int} (hw : 0 < w) (hh : 0 < h) {cs : List Cel} (hl : (cs.length : Int) = 4 * (w * h)) (hok : okL cs = true) (hm : massL cs ≤ 1000000000) {k : Nat} (hk : k < cs.length / 4) : CoOk w cs k := by
  refine ⟨coS_bd hok .., coS_bd hok .., coS_bd hok .., coS_bd hok .., ?_⟩
  have h1 := (nn_mass (coaC_nn hok w)).2 _ (getD_mem default (show k < (coaC w cs).length by rw [coaC_length]; exact hk))
  rw [coaC_mass hw hh hl] at h1
  unfold coaC at h1
  rw [tab_at _ hk] at h1
  simp only [Cel.add, Cel.m] at h1 ⊢
  omega
/-- W: the fine width. -/
structure CoB (W : Int) (n k : Nat) : Prop where
  tm : (k : Int).tmod (W.tdiv 2) = (k : Int) % (W / 2)
  td : (k : Int).tdiv (W.tdiv 2) = (k : Int) / (W / 2)
  x : 0 ≤ (k : Int) % (W / 2) ∧ (k : Int) % (W / 2) ≤ 31
  y : 0 ≤ (k : Int) / (W / 2) ∧ (k : Int) / (W / 2) ≤ 1024
  a : 0 ≤ W * (2 * ((k : Int) / (W / 2))) ∧ W * (2 * ((k : Int) / (W / 2))) ≤ W * (2 * ((k : Int) / (W / 2)) + 1)
  b : 2 * ((k : Int) % (W / 2)) + 1 + W * (2 * ((k : Int) / (W / 2)) + 1) < n
  i0 : (2 * ((k : Int) % (W / 2)) + W * (2 * ((k : Int) / (W / 2)))).toNat = rfA (W / 2) k 0
  i1 : (2 * ((k : Int) % (W / 2)) + 1 + W * (2 * ((k : Int) / (W / 2)))).toNat = rfA (W / 2) k 1
  i2 : (2 * ((k : Int) % (W / 2)) + W * (2 * ((k : Int) / (W / 2)) + 1)).toNat = rfA (W / 2) k 2
  i3 : (2 * ((k : Int) % (W / 2)) + 1 + W * (2 * ((k : Int) / (W / 2)) + 1)).toNat = rfA (W / 2) k 3
theorem cob_mk {W H : Int} (hw : 1 ≤ W ∧ W ≤ 64) (hh : 1 ≤ H ∧ H ≤ 64) (ew : W % 2 = 0) (eh : H % 2 = 0) {n : Nat} (hn : (n : Int) = 4 * (W / 2 * (H / 2))) {k : Nat} (hk : k < n / 4) : CoB W n k := by
  have h2 : 0 < W / 2 := by omega
  have h3 : 0 < H / 2 := by omega
  have r := rf_bds h2 h3 (k := k) (by omega)
  have rx := r.x
  have ry := r.y
  have rr := r.r
  have ra := r.a
  have rb := r.b
  have e : 2 * (W / 2) = W := by omega
  rw [e] at ra rb
  have tw : W.tdiv 2 = W / 2 := Int.tdiv_eq_ediv_of_nonneg (by omega)
  refine ⟨by rw [tw]; exact r.tm, by rw [tw]; exact r.td, by omega, by omega, by omega, by omega, ?_, ?_, ?_, ?_⟩
  · unfold rfA; rw [e]; simp
  · unfold rfA; rw [e]; simp
  · unfold rfA; rw [e]; simp
  · unfold rfA; rw [e]; simp
theorem sum2 (a b : Cel) : sumC [a, b] = a.add b := by rw [Cel.eq_iff]; simp [sumC, sumP, sumI, Cel.add]
theorem coa6_len {g : Grd} (h : g.ok = true) (ew : g.w % 2 = 0) (eh : g.h % 2 = 0) : (g.cs.length : Int) = 4 * (g.w / 2 * (g.h / 2)) := by
  rcases coa6_ways g with ⟨h1, _⟩ | ⟨_, _, _, _, h2⟩ | ⟨_, _, _, _, _, _, h3⟩
  · rw [h] at h1; cases h1
  · exact absurd ⟨ew, eh⟩ h2
  · exact h3
theorem okL_two {a b : Cel} (ha : a.ok = true) (hb : b.ok = true) : okL [a, b] = true := by simp [okL, ha, hb]
section
variable {w : Int} {cs : List Cel} {k : Nat} (c : CoOk w cs k)
include c
theorem CoOk.k0 : okL [(⟨0, 0, 0, 0⟩ : Cel), cs.getD (rfA w k 0) default] = true := by
  have h0 := c.c0; have h1 := c.c1; have h2 := c.c2; have h3 := c.c3; have hm := c.m
  unfold bd9 coS Cel.m at *
  exact okL_two (by decide) (Cel.ok_iff.2 (by omega))
theorem CoOk.k1 : okL [(⟨0, 0, 0, 0⟩ : Cel).add (cs.getD (rfA w k 0) default), cs.getD (rfA w k 1) default] = true := by
  have h0 := c.c0; have h1 := c.c1; have h2 := c.c2; have h3 := c.c3; have hm := c.m
  unfold bd9 coS Cel.m at *
  exact okL_two (Cel.ok_iff.2 (by simp only [Cel.add]; omega)) (Cel.ok_iff.2 (by omega))
theorem CoOk.k2 : okL [((⟨0, 0, 0, 0⟩ : Cel).add (cs.getD (rfA w k 0) default)).add (cs.getD (rfA w k 1) default), cs.getD (rfA w k 2) default] = true := by
  have h0 := c.c0; have h1 := c.c1; have h2 := c.c2; have h3 := c.c3; have hm := c.m
  unfold bd9 coS Cel.m at *
  exact okL_two (Cel.ok_iff.2 (by simp only [Cel.add]; omega)) (Cel.ok_iff.2 (by omega))
theorem CoOk.k3 : okL [(((⟨0, 0, 0, 0⟩ : Cel).add (cs.getD (rfA w k 0) default)).add (cs.getD (rfA w k 1) default)).add (cs.getD (rfA w k 2) default), cs.getD (rfA w k 3) default] = true := by
  have h0 := c.c0; have h1 := c.c1; have h2 := c.c2; have h3 := c.c3; have hm := c.m
  unfold bd9 coS Cel.m at *
  exact okL_two (Cel.ok_iff.2 (by simp only [Cel.add]; omega)) (Cel.ok_iff.2 (by omega))
end
theorem co_sum (c0 c1 c2 c3 : Cel) : ((((⟨0, 0, 0, 0⟩ : Cel).add c0).add c1).add c2).add c3 = ((c0.add c1).add c2).add c3 := by
  rw [Cel.eq_iff]; simp [Cel.add]
theorem coT_get {w : Int} {cs : List Cel} {k : Nat} (hk : k < cs.length / 4) (v : Cel) : ((coT w cs k).set k v).getD k default = v := by
  rw [List.getD_eq_getElem?_getD, List.getElem?_set_self (by rw [coT_length]; exact hk)]; rfl
structure CoC (W : Int) (n i j : Nat) : Prop where
  t : ((i : Int) + W * (j : Int)).toNat = W.toNat * j + i
  lt : W.toNat * j + i < n
  p : 0 ≤ W * (j : Int) ∧ 0 ≤ (i : Int) + W * (j : Int) ∧ (i : Int) + W * (j : Int) < n
  dx : (i : Int).tdiv 2 = (i : Int) / 2
  dy : (j : Int).tdiv 2 = (j : Int) / 2
  s : ((i : Int) / 2 + W / 2 * ((j : Int) / 2)).toNat = rfS (W / 2) (W.toNat * j + i)
  sb : 0 ≤ W / 2 * ((j : Int) / 2) ∧ W / 2 * ((j : Int) / 2) ≤ 1024 ∧ 0 ≤ (i : Int) / 2 ∧ (i : Int) / 2 + W / 2 * ((j : Int) / 2) < (n / 4 : Nat)
theorem coc_mk {W H : Int} (hw : 1 ≤ W ∧ W ≤ 64) (hh : 1 ≤ H ∧ H ≤ 64) (ew : W % 2 = 0) (eh : H % 2 = 0) {n : Nat} (hn : (n : Int) = 4 * (W / 2 * (H / 2))) (hn2 : (n : Int) = W * H) (hn3 : n ≤ 1024) {i j : Nat} (hi : (i : Int) < W) (hj : (j : Int) < H) : CoC W n i j := by
  have r := rfc_mk (w := W) (h := H) (by omega) (by omega) hn2 hi hj
  have q := xy_of (w := W) (h := H) (by omega) (by omega) (x := i) (y := j) (Int.natCast_nonneg i) hi (Int.natCast_nonneg j) hj
  have e1 := q.2.2.1
  have e2 := q.2.2.2
  rw [r.t] at e1 e2
  have es : ((i : Int) / 2 + W / 2 * ((j : Int) / 2)).toNat = rfS (W / 2) (W.toNat * j + i) := by
    unfold rfS; rw [show 2 * (W / 2) = W by omega, e1, e2]
  have hlt := (rfS_lt (w := W / 2) (h := H / 2) (by omega) (by omega) (j := W.toNat * j + i) (by have := r.lt; omega)).1
  have m0 : 0 ≤ W / 2 * ((j : Int) / 2) := Int.mul_nonneg (by omega) (by omega)
  exact ⟨r.t, r.lt, r.p, Int.tdiv_eq_ediv_of_nonneg (Int.natCast_nonneg i), Int.tdiv_eq_ediv_of_nonneg (Int.natCast_nonneg j), es, by omega⟩
theorem coR_get {w : Int} {cs : List Cel} {k a : Nat} (ha : a < cs.length / 4) (v : Cel) : ((coR w cs k).set a v).getD a default = v := by
  rw [List.getD_eq_getElem?_getD, List.getElem?_set_self (by rw [coR_length]; exact ha)]; rfl
/-! ### A coarse grid is a grid -/
theorem coa_ok {g : Grd} (h : g.ok = true) (ew : g.w % 2 = 0) (eh : g.h % 2 = 0) : (⟨g.w / 2, g.h / 2, coaC (g.w / 2) g.cs⟩ : Grd).ok = true ∧ 2 * (g.w / 2) = g.w ∧ 2 * (g.h / 2) = g.h ∧ 4 * (g.w / 2 * (g.h / 2)) = g.w * g.h ∧ (coaC (g.w / 2) g.cs).length = g.cs.length / 4 := by
  have hb := gok_bds h
  have hl4 := coa6_len h ew eh
  refine ⟨gok_mk (by omega) (by rw [coaC_length]; omega) (coaC_nn (gok_okL h) _) (by rw [coaC_mass (w := g.w / 2) (h := g.h / 2) (by omega) (by omega) hl4]; omega), by omega, by omega, by omega, coaC_length ..⟩
theorem evn_eq {g : Grd} (h : g.ok = true) (ew : g.w % 2 = 0) (eh : g.h % 2 = 0) : decide ((⟨2 * (g.w / 2), 2 * (g.h / 2), refC (g.w / 2) (coaC (g.w / 2) g.cs)⟩ : Grd) = g) = decide (refC (g.w / 2) (coaC (g.w / 2) g.cs) = g.cs) := by
  obtain ⟨w, h', cs⟩ := g
  simp only at ew eh ⊢
  rw [show 2 * (w / 2) = w by omega, show 2 * (h' / 2) = h' by omega]
  simp
/-! ### Masses of blocks; lists of numbers -/
def blkT (g : Grd) (k : Nat) : List Int := ((coaG g).cs.take k).map Cel.m
theorem blkT_len (g : Grd) {k : Nat} (h : k ≤ (coaG g).cs.length) : (blkT g k).length = k := by unfold blkT; rw [List.length_map, List.length_take]; omega
theorem blkT_next (g : Grd) {k : Nat} (h : k < (coaG g).cs.length) {v : Int} (hv : v = ((coaG g).cs.getD k default).m) : Cts.ix (blkT g k ++ [v]) = Cts.ix (blkT g (k + 1)) := by
  unfold blkT; rw [take_snoc _ default h, List.map_append, hv]; rfl
theorem blkT_all (g : Grd) {k : Nat} (h : (coaG g).cs.length ≤ k) : blkT g k = blkL g := by unfold blkT blkL; rw [List.take_of_length_le h]
theorem blkL_len (g : Grd) : (blkL g).length = (coaG g).cs.length := List.length_map ..
theorem ism_f1 {a b : List Int} (h : a.length ≠ b.length) : decide (a = b) = false := decide_eq_false fun e => h (by rw [e])
theorem ism_t {a b : List Int} {k : Nat} (hl : a.length = b.length) (h : a.take k = b.take k) (hk : a.length ≤ k) : decide (a = b) = true := by
  rw [List.take_of_length_le hk, List.take_of_length_le (by omega)] at h; exact decide_eq_true h
theorem ism_f2 {a b : List Int} {k : Nat} (ha : k < a.length) (hb : k < b.length) (h : ¬ (a.getD k 0 = b.getD k 0)) : decide (a = b) = false := decide_eq_false fun e => h (by rw [e])
theorem ism_next {a b : List Int} {k : Nat} (ha : k < a.length) (hb : k < b.length) (h : a.take k = b.take k) (he : a.getD k 0 = b.getD k 0) : a.take (k + 1) = b.take (k + 1) := by
  rw [take_snoc a 0 ha, take_snoc b 0 hb, h, he]
theorem okL_one {c : Cel} (h : c.ok = true) : okL [c] = true := by simp [okL, h]
theorem mass_one (c : Cel) : massL [c] = c.m := by simp [massL]
theorem coaG_ok {g : Grd} (h : g.ok = true) (ew : g.w % 2 = 0) (eh : g.h % 2 = 0) : (coaG g).ok = true := by
  have e : coaG g = ⟨g.w / 2, g.h / 2, coaC (g.w / 2) g.cs⟩ := by
    unfold coaG; rw [if_pos]; unfold coaE6; rw [if_pos h, if_pos ⟨ew, eh⟩]
  rw [e]; exact (coa_ok h ew eh).1
theorem den_sl_tup {n j : Nat} {a : Option Nm} {s len len' cap : Nat} {e e' : SV} (hl : len = len') (he : den e = den e') : den (.tup [.sl n a 0 s len cap, e]) = den (.tup [.sl j a 0 s len' cap, e']) := by
  subst hl; simp [den, denL, he]
/-! ### The law -/
theorem aw6 : refE ⟨1, 1, [⟨7, 0, 0, 0⟩]⟩ = 0 ∧ refG ⟨1, 1, [⟨7, 0, 0, 0⟩]⟩ = ⟨2, 2, [⟨2, 0, 0, 0⟩, ⟨2, 0, 0, 0⟩, ⟨2, 0, 0, 0⟩, ⟨1, 0, 0, 0⟩]⟩ ∧ coaE6 ⟨2, 2, [⟨2, 0, 0, 0⟩, ⟨2, 0, 0, 0⟩, ⟨2, 0, 0, 0⟩, ⟨1, 0, 0, 0⟩]⟩ = 0 ∧ coaG ⟨2, 2, [⟨2, 0, 0, 0⟩, ⟨2, 0, 0, 0⟩, ⟨2, 0, 0, 0⟩, ⟨1, 0, 0, 0⟩]⟩ = ⟨1, 1, [⟨7, 0, 0, 0⟩]⟩ := by decide +kernel
end Go.Sy
