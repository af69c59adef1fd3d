/- Means of blocks, densest blocks, tables. -/
import Derived.Test.YtbjgdlmiofgdnaaSpField4
import Derived.Test.YtbjgdlmiofgdnaaSpTopC
set_option linter.unusedSimpArgs false
set_option linter.unusedVariables false
set_option linter.unusedSectionVars false
namespace Go.Sy
/-! ### Cells, velocities -/
def cellsR (g : Grd) (a b : Pnt) : Int := if blkE g a b = 0 then (b.x - a.x + 1) * (b.y - a.y + 1) else 0
def velE (g : Grd) (a b : Pnt) : Int := if blkE g a b = 0 then (if massL (blk g.w g.cs a b) = 0 then 8 else 0) else blkE g a b
def velX (g : Grd) (a b : Pnt) : Rat2 := if velE g a b = 0 then ratP (eastL (blk g.w g.cs a b)) (massL (blk g.w g.cs a b)) else ⟨0, 0⟩
def velY (g : Grd) (a b : Pnt) : Rat2 := if velE g a b = 0 then ratP (northL (blk g.w g.cs a b)) (massL (blk g.w g.cs a b)) else ⟨0, 0⟩
theorem blk_sums {g : Grd} (hg : g.ok = true) {a b : Pnt} (hb : blkOk g a b) : (0 ≤ massL (blk g.w g.cs a b) ∧ massL (blk g.w g.cs a b) ≤ 20000000000000) ∧ (-20000000000000 ≤ eastL (blk g.w g.cs a b) ∧ eastL (blk g.w g.cs a b) ≤ 20000000000000) ∧ (-20000000000000 ≤ northL (blk g.w g.cs a b) ∧ northL (blk g.w g.cs a b) ≤ 20000000000000) := by
  have h := blk_bds hg hb
  have m := sumC_m (blk g.w g.cs a b)
  unfold Cel.m at m
  omega
theorem vel_ways (g : Grd) (a b : Pnt) : (g.ok = false ∧ blkE g a b = 1 ∧ velE g a b = 1 ∧ velX g a b = ⟨0, 0⟩ ∧ velY g a b = ⟨0, 0⟩ ∧ True ∧ True) ∨ (g.ok = true ∧ blkE g a b = 7 ∧ velE g a b = 7 ∧ velX g a b = ⟨0, 0⟩ ∧ velY g a b = ⟨0, 0⟩ ∧ True ∧ ¬ blkOk g a b) ∨
    (g.ok = true ∧ blkE g a b = 0 ∧ velE g a b = 8 ∧ velX g a b = ⟨0, 0⟩ ∧ velY g a b = ⟨0, 0⟩ ∧ massL (blk g.w g.cs a b) = 0 ∧ blkOk g a b) ∨
    (g.ok = true ∧ blkE g a b = 0 ∧ velE g a b = 0 ∧ velX g a b = ratP (eastL (blk g.w g.cs a b)) (massL (blk g.w g.cs a b)) ∧ velY g a b = ratP (northL (blk g.w g.cs a b)) (massL (blk g.w g.cs a b)) ∧ 0 < massL (blk g.w g.cs a b) ∧ blkOk g a b) := by
  rcases blkE_ways g a b with ⟨h1, h2⟩ | ⟨h1, h2, h3⟩ | ⟨h1, h2, h3⟩
  · have e : velE g a b = 1 := by simp [velE, h2]
    exact .inl ⟨h1, h2, e, by simp [velX, e], by simp [velY, e], trivial, trivial⟩
  · have e : velE g a b = 7 := by simp [velE, h3]
    exact .inr (.inl ⟨h1, h3, e, by simp [velX, e], by simp [velY, e], trivial, h2⟩)
  · have hs := blk_sums h1 h2
    by_cases hm : massL (blk g.w g.cs a b) = 0
    · have e : velE g a b = 8 := by simp [velE, h3, hm]
      exact .inr (.inr (.inl ⟨h1, h3, e, by simp [velX, e], by simp [velY, e], hm, h2⟩))
    · have e : velE g a b = 0 := by simp [velE, h3, hm]
      exact .inr (.inr (.inr ⟨h1, h3, e, by simp [velX, e], by simp [velY, e], by omega, h2⟩))
/-! ### The densest block -/
def denB (g : Grd) (wide high : Int) : Bst := if sidE g wide high = 0 then gridB (denK g wide high) (crnN g.w wide) (crnN g.h high) else ⟨false, 0, 0⟩
def bvl (d : Int) (F : Nat → Nat → Int) (s : Bst) : Int := if s.met then F s.y s.x else d
def bcel (g : Grd) (wide high : Int) (s : Bst) : Cel := if s.met then crnC g wide high s.x s.y else ⟨0, 0, 0, 0⟩
theorem bcel_met {g : Grd} {wide high : Int} {s : Bst} (h : s.met = true) : (bcel g wide high s).m = denK g wide high s.y s.x := by unfold bcel denK; rw [h]; rfl
theorem bcel_new (g : Grd) (wide high : Int) (i j : Nat) : bcel g wide high ⟨true, i, j⟩ = crnC g wide high i j := rfl
theorem bvl_new (d : Int) (F : Nat → Nat → Int) (i j : Nat) : bvl d F ⟨true, i, j⟩ = F j i := rfl
theorem bvl_lt {F : Nat → Nat → Int} {s : Bst} {x : Int} (h : bvl (-1) F s < x) : s.met = false ∨ F s.y s.x < x := by
  unfold bvl at h
  cases hm : s.met
  · exact .inl rfl
  · rw [hm] at h; exact .inr h
theorem bvl_ge {F : Nat → Nat → Int} {s : Bst} {x : Int} (h0 : 0 ≤ x) (h : x ≤ bvl (-1) F s) : s.met = true ∧ ¬ F s.y s.x < x := by
  unfold bvl at h
  cases hm : s.met
  · rw [hm] at h; simp only [Bool.false_eq_true, if_false] at h; omega
  · rw [hm] at h; simp only [if_true] at h; exact ⟨rfl, by omega⟩
theorem denK_eq (g : Grd) (wide high : Int) (j i : Nat) : denK g wide high j i = massL (blk g.w g.cs ⟨i, j⟩ ⟨(i : Int) + wide - 1, (j : Int) + high - 1⟩) := (sumC_m _).1
theorem denK_bd {g : Grd} (hg : g.ok = true) {wide high : Int} (hw : 1 ≤ wide) (hh : 1 ≤ high) {j i : Nat} (hj : j < crnN g.h high) (hi : i < crnN g.w wide) : 0 ≤ denK g wide high j i ∧ denK g wide high j i ≤ 20000000000000 := by
  rw [denK_eq]; exact (blk_sums hg (crn_ok hw hh hi hj)).1
theorem bvl_bd {F : Nat → Nat → Int} {lo up d : Int} {n m : Nat} (hF : ∀ j i, j < m → i < n → lo ≤ F j i ∧ F j i ≤ up) (h0 : lo ≤ d ∧ d ≤ up) {key : Nat → Nat → Int} {j i : Nat} (hj : j < m ∨ j = m ∧ i = 0) (hi : i ≤ n) : lo ≤ bvl d F (bstJ key n j i) ∧ bvl d F (bstJ key n j i) ≤ up := by
  rcases bst_in key n j i hi with ⟨h1, _⟩ | ⟨h1, h2, h3, h4⟩
  · unfold bvl; rw [h1]; exact h0
  · unfold bvl; rw [h1]; exact hF _ _ (by omega) h2
theorem bcel_bd {g : Grd} (hg : g.ok = true) {wide high : Int} (hw : 1 ≤ wide) (hh : 1 ≤ high) {key : Nat → Nat → Int} {j i : Nat} (hj : j < crnN g.h high ∨ j = crnN g.h high ∧ i = 0) (hi : i ≤ crnN g.w wide) : cbd (bcel g wide high (bstJ key (crnN g.w wide) j i)) := by
  rcases bst_in key (crnN g.w wide) j i hi with ⟨h1, _⟩ | ⟨h1, h2, h3, h4⟩
  · unfold bcel; rw [h1]; unfold cbd; simp
  · unfold bcel; rw [h1]
    have hb := blk_bds hg (crn_ok hw hh h2 (show (bstJ key (crnN g.w wide) j i).y < crnN g.h high by omega))
    simp only [if_true, crnC, cbd]
    omega
theorem den_ways (g : Grd) (wide high : Int) : (g.ok = false ∧ sidE g wide high = 1 ∧ denB g wide high = ⟨false, 0, 0⟩ ∧ True) ∨ (g.ok = true ∧ sidE g wide high = 7 ∧ denB g wide high = ⟨false, 0, 0⟩ ∧ ¬ ((1 ≤ wide ∧ wide ≤ g.w) ∧ 1 ≤ high ∧ high ≤ g.h)) ∨
    (g.ok = true ∧ sidE g wide high = 0 ∧ denB g wide high = gridB (denK g wide high) (crnN g.w wide) (crnN g.h high) ∧ (1 ≤ wide ∧ wide ≤ g.w) ∧ 1 ≤ high ∧ high ≤ g.h) := by
  rcases sid_ways g wide high with ⟨h1, h2⟩ | ⟨h1, h2, h3⟩ | ⟨h1, h2, h3⟩
  · exact .inl ⟨h1, h2, by simp [denB, h2], trivial⟩
  · exact .inr (.inl ⟨h1, h2, by simp [denB, h2], h3⟩)
  · exact .inr (.inr ⟨h1, h2, by simp [denB, h2], h3⟩)
/-! ### Tables -/
def tabF (g : Grd) (wide high : Int) (j i : Nat) : Int := (crnC g wide high ((i : Int) * wide) ((j : Int) * high)).m
def tabE (g : Grd) (wide high : Int) : Int := if sidE g wide high = 0 then (if g.w % wide = 0 ∧ g.h % high = 0 then 0 else 9) else sidE g wide high
def tabL (g : Grd) (wide high : Int) : List Int := if tabE g wide high = 0 then gridL (tabF g wide high) (g.w / wide).toNat (g.h / high).toNat else []
theorem tab_ways (g : Grd) (wide high : Int) : (g.ok = false ∧ sidE g wide high = 1 ∧ tabE g wide high = sidE g wide high ∧ tabL g wide high = [] ∧ True ∧ True) ∨ (g.ok = true ∧ sidE g wide high = 7 ∧ tabE g wide high = sidE g wide high ∧ tabL g wide high = [] ∧ True ∧ True) ∨
    (g.ok = true ∧ sidE g wide high = 0 ∧ tabE g wide high = 9 ∧ tabL g wide high = [] ∧ ((1 ≤ wide ∧ wide ≤ g.w) ∧ 1 ≤ high ∧ high ≤ g.h) ∧ ¬ (g.w % wide = 0 ∧ g.h % high = 0)) ∨
    (g.ok = true ∧ sidE g wide high = 0 ∧ tabE g wide high = 0 ∧ tabL g wide high = gridL (tabF g wide high) (g.w / wide).toNat (g.h / high).toNat ∧ ((1 ≤ wide ∧ wide ≤ g.w) ∧ 1 ≤ high ∧ high ≤ g.h) ∧ g.w % wide = 0 ∧ g.h % high = 0) := by
  rcases sid_ways g wide high with ⟨h1, h2⟩ | ⟨h1, h2, h3⟩ | ⟨h1, h2, h3⟩
  · have e : tabE g wide high = 1 := by simp [tabE, h2]
    exact .inl ⟨h1, h2, e.trans h2.symm, by simp [tabL, e], trivial, trivial⟩
  · have e : tabE g wide high = 7 := by simp [tabE, h2]
    exact .inr (.inl ⟨h1, h2, e.trans h2.symm, by simp [tabL, e], trivial, trivial⟩)
  · by_cases hq : g.w % wide = 0 ∧ g.h % high = 0
    · have e : tabE g wide high = 0 := by simp [tabE, h2, hq]
      exact .inr (.inr (.inr ⟨h1, h2, e, by simp [tabL, e], h3, hq⟩))
    · have e : tabE g wide high = 9 := by unfold tabE; rw [if_pos h2, if_neg hq]
      exact .inr (.inr (.inl ⟨h1, h2, e, by simp [tabL, e], h3, hq⟩))
/-- The table under way: blocks that begin at a multiple of the sides. -/
def tabR (F : Nat → Nat → Int) (w h j : Nat) : Nat → List Int
  | 0 => []
  | i + 1 => tabR F w h j i ++ (if i % w = 0 ∧ j % h = 0 then [F j i] else [])
def tabG (F : Nat → Nat → Int) (w h n : Nat) : Nat → List Int
  | 0 => []
  | j + 1 => tabG F w h n j ++ tabR F w h j n
def tabJ (F : Nat → Nat → Int) (w h n j i : Nat) : List Int := tabG F w h n j ++ tabR F w h j i
theorem tabJ_zero (F : Nat → Nat → Int) (w h n j : Nat) : tabJ F w h n j 0 = tabG F w h n j := by simp [tabJ, tabR]
theorem tabJ_row (F : Nat → Nat → Int) (w h n j : Nat) : tabJ F w h n j n = tabG F w h n (j + 1) := rfl
theorem tabJ_t {F : Nat → Nat → Int} {w h n j i : Nat} (q : i % w = 0 ∧ j % h = 0) : tabJ F w h n j (i + 1) = tabJ F w h n j i ++ [F j i] := by
  simp only [tabJ, tabR]; rw [if_pos q, List.append_assoc]
theorem tabJ_f {F : Nat → Nat → Int} {w h n j i : Nat} (q : ¬ (i % w = 0 ∧ j % h = 0)) : tabJ F w h n j (i + 1) = tabJ F w h n j i := by
  simp only [tabJ, tabR]; rw [if_neg q, List.append_nil]
theorem tabR_len (F : Nat → Nat → Int) (w h j : Nat) : ∀ i, (tabR F w h j i).length ≤ i
  | 0 => Nat.le_refl _
  | i + 1 => by
    have := tabR_len F w h j i
    rw [tabR, List.length_append]; split <;> simp <;> omega
theorem tabG_len (F : Nat → Nat → Int) (w h n : Nat) : ∀ j, (tabG F w h n j).length ≤ n * j
  | 0 => Nat.zero_le _
  | j + 1 => by
    have h1 := tabG_len F w h n j
    have h2 := tabR_len F w h j n
    rw [tabG, List.length_append, Nat.mul_succ]; omega
theorem tabJ_len (F : Nat → Nat → Int) (w h n : Nat) {j i : Nat} (hi : i ≤ 64) (hj : j ≤ 64) (hn : n ≤ 64) : (tabJ F w h n j i).length ≤ 5000 := by
  have h1 := tabG_len F w h n j
  have h2 := tabR_len F w h j i
  have h3 : n * j ≤ 64 * 64 := Nat.mul_le_mul hn hj
  rw [tabJ, List.length_append]; omega
theorem tabG_len5 (F : Nat → Nat → Int) (w h n : Nat) {j : Nat} (hj : j ≤ 64) (hn : n ≤ 64) : (tabG F w h n j).length ≤ 5000 := by
  have h1 := tabJ_len F w h n (i := 0) (by omega) hj hn
  rwa [tabJ_zero] at h1
/-- How many multiples there are. -/
theorem cl_dvd {w i : Nat} (hw : 0 < w) (h : i % w = 0) : (i + w) / w = (i + w - 1) / w + 1 ∧ (i + w - 1) / w * w = i := by
  obtain ⟨a, rfl⟩ := Nat.dvd_of_mod_eq_zero h
  have e1 : (w * a + w) / w = a + 1 := by rw [Nat.add_div_right _ hw, Nat.mul_div_cancel_left _ hw]
  have e2 : (w * a + w - 1) / w = a := by
    rw [show w * a + w - 1 = w * a + (w - 1) by omega, Nat.mul_add_div hw, Nat.div_eq_of_lt (by omega)]; rfl
  rw [e1, e2, Nat.mul_comm]; exact ⟨rfl, rfl⟩
theorem cl_not {w i : Nat} (hw : 0 < w) (h : i % w ≠ 0) : (i + w) / w = (i + w - 1) / w := by
  have e := Nat.div_add_mod i w
  have hl := Nat.mod_lt i hw
  have e1 : (i + w) / w = i / w + 1 := Nat.add_div_right _ hw
  have e2 : (i + w - 1) / w = i / w + 1 := by
    have e3 : i + w - 1 = w * (i / w + 1) + (i % w - 1) := by rw [Nat.mul_succ]; omega
    have e4 : (i % w - 1) / w = 0 := Nat.div_eq_of_lt (by have := Nat.sub_le (i % w) 1; exact Nat.lt_of_le_of_lt this hl)
    rw [e3, Nat.mul_add_div hw, e4]
  rw [e1, e2]
theorem tabR_eq (F : Nat → Nat → Int) {w h j : Nat} (hw : 0 < w) (hj : j % h = 0) : ∀ i, tabR F w h j i = (List.range ((i + w - 1) / w)).map fun k => F j (k * w)
  | 0 => by rw [Nat.zero_add, Nat.div_eq_of_lt (by omega)]; rfl
  | i + 1 => by
    rw [tabR, tabR_eq F hw hj i, show i + 1 + w - 1 = i + w by omega]
    by_cases hi : i % w = 0
    · obtain ⟨e1, e2⟩ := cl_dvd hw hi
      rw [if_pos ⟨hi, hj⟩, e1, List.range_succ, List.map_append, List.map_singleton, e2]
    · rw [if_neg (fun q => hi q.1), cl_not hw hi, List.append_nil]
theorem tabR_nil (F : Nat → Nat → Int) {w h j : Nat} (hj : j % h ≠ 0) : ∀ i, tabR F w h j i = []
  | 0 => rfl
  | i + 1 => by rw [tabR, tabR_nil F hj i, if_neg (fun q => hj q.2)]; rfl
theorem tabG_eq (F : Nat → Nat → Int) {w h : Nat} (n : Nat) (hw : 0 < w) (hh : 0 < h) : ∀ j, tabG F w h n j = gridL (fun b k => F (b * h) (k * w)) ((n + w - 1) / w) ((j + h - 1) / h)
  | 0 => by rw [Nat.zero_add, Nat.div_eq_of_lt (show h - 1 < h by omega)]; rfl
  | j + 1 => by
    rw [tabG, tabG_eq F n hw hh j, show j + 1 + h - 1 = j + h by omega]
    by_cases hj : j % h = 0
    · obtain ⟨e1, e2⟩ := cl_dvd hh hj
      rw [tabR_eq F hw hj, e1, gridL]
      simp only [e2]
    · rw [tabR_nil F hj, cl_not hh hj, List.append_nil]
theorem gridL_congr {α : Type} {F G : Nat → Nat → α} {n : Nat} : ∀ {m : Nat}, (∀ j i, j < m → i < n → F j i = G j i) → gridL F n m = gridL G n m
  | 0, _ => rfl
  | m + 1, h => by
    rw [gridL, gridL, gridL_congr (m := m) fun j i hj hi => h j i (by omega) hi]
    congr 1
    exact List.map_congr_left fun i hi => h m i (by omega) (List.mem_range.1 hi)
theorem tab_end {g : Grd} (hg : g.ok = true) {wide high : Int} (hs : (1 ≤ wide ∧ wide ≤ g.w) ∧ 1 ≤ high ∧ high ≤ g.h) (hz : g.w % wide = 0 ∧ g.h % high = 0) : tabG (denK g wide high) wide.toNat high.toNat (crnN g.w wide) (crnN g.h high) = gridL (tabF g wide high) (g.w / wide).toNat (g.h / high).toNat := by
  obtain ⟨W, hW⟩ : ∃ W : Nat, wide = W := ⟨wide.toNat, by omega⟩
  obtain ⟨H, hH⟩ : ∃ H : Nat, high = H := ⟨high.toNat, by omega⟩
  obtain ⟨A, hA⟩ : ∃ A : Nat, g.w = A := ⟨g.w.toNat, by omega⟩
  obtain ⟨B, hB⟩ : ∃ B : Nat, g.h = B := ⟨g.h.toNat, by omega⟩
  rw [tabG_eq _ _ (by omega) (by omega)]
  have n1 : (crnN g.w wide + wide.toNat - 1) / wide.toNat = (g.w / wide).toNat := by
    unfold crnN; rw [hA, hW, ← Int.natCast_ediv, Int.toNat_natCast, Int.toNat_natCast]; congr 1; omega
  have n2 : (crnN g.h high + high.toNat - 1) / high.toNat = (g.h / high).toNat := by
    unfold crnN; rw [hB, hH, ← Int.natCast_ediv, Int.toNat_natCast, Int.toNat_natCast]; congr 1; omega
  rw [n1, n2]
  refine gridL_congr fun j i _ _ => ?_
  unfold denK tabF
  rw [Int.natCast_mul, Int.natCast_mul, Int.toNat_of_nonneg (by omega), Int.toNat_of_nonneg (by omega)]
/-- Multiples below the side. -/
theorem mul_lt_side {a n q : Int} (hn : 1 ≤ n) (hq : a % n = 0) (j : Nat) : ((j : Int) * n < a ↔ j < (a / n).toNat) ∧ (((j + 1 : Nat) : Int) * n = (j : Int) * n + n) := by
  have e : a = n * (a / n) := by have := Int.mul_ediv_add_emod a n; omega
  refine ⟨?_, by rw [show ((j + 1 : Nat) : Int) = (j : Int) + 1 by omega, Int.add_mul, Int.one_mul]⟩
  constructor
  · intro h
    have h2 : (j : Int) < a / n := by
      rcases (show (j : Int) < a / n ∨ a / n ≤ (j : Int) by omega) with h3 | h3
      · exact h3
      · have h4 : n * (a / n) ≤ n * j := Int.mul_le_mul_of_nonneg_left h3 (by omega)
        rw [Int.mul_comm] at h
        omega
    omega
  · intro h
    have h4 : n * ((j : Int) + 1) ≤ n * (a / n) := Int.mul_le_mul_of_nonneg_left (by omega) (by omega)
    rw [Int.mul_add, Int.mul_one] at h4
    rw [Int.mul_comm]
    omega
theorem tab_in {g : Grd} {wide high : Int} (hs : (1 ≤ wide ∧ wide ≤ g.w) ∧ 1 ≤ high ∧ high ≤ g.h) (hz : g.w % wide = 0 ∧ g.h % high = 0) {j i : Nat} (hj : j < (g.h / high).toNat) (hi : i < (g.w / wide).toNat) : (0 ≤ (i : Int) * wide ∧ (i : Int) * wide + wide ≤ g.w) ∧ 0 ≤ (j : Int) * high ∧ (j : Int) * high + high ≤ g.h := by
  have a1 := mul_lt_side (q := 0) hs.1.1 hz.1
  have a2 := mul_lt_side (q := 0) hs.2.1 hz.2
  have ew : g.w = wide * (g.w / wide) := by have := Int.mul_ediv_add_emod g.w wide; omega
  have eh : g.h = high * (g.h / high) := by have := Int.mul_ediv_add_emod g.h high; omega
  have m1 : wide * ((i : Int) + 1) ≤ wide * (g.w / wide) := Int.mul_le_mul_of_nonneg_left (by omega) (by omega)
  have m2 : high * ((j : Int) + 1) ≤ high * (g.h / high) := Int.mul_le_mul_of_nonneg_left (by omega) (by omega)
  rw [Int.mul_add, Int.mul_one, Int.mul_comm] at m1 m2
  have z1 : 0 ≤ (i : Int) * wide := Int.mul_nonneg (by omega) (by omega)
  have z2 : 0 ≤ (j : Int) * high := Int.mul_nonneg (by omega) (by omega)
  omega
theorem tab_ok {g : Grd} (hg : g.ok = true) {wide high : Int} (hs : (1 ≤ wide ∧ wide ≤ g.w) ∧ 1 ≤ high ∧ high ≤ g.h) (hz : g.w % wide = 0 ∧ g.h % high = 0) {j i : Nat} (hj : j < (g.h / high).toNat) (hi : i < (g.w / wide).toNat) : blkOk g ⟨(i : Int) * wide, (j : Int) * high⟩ ⟨(i : Int) * wide + wide - 1, (j : Int) * high + high - 1⟩ := by
  have h := tab_in hs hz hj hi
  have hb := gok_bds hg
  unfold blkOk onB
  simp only
  omega
theorem tabF_eq (g : Grd) (wide high : Int) (j i : Nat) : tabF g wide high j i = massL (blk g.w g.cs ⟨(i : Int) * wide, (j : Int) * high⟩ ⟨(i : Int) * wide + wide - 1, (j : Int) * high + high - 1⟩) := (sumC_m _).1
theorem tab_side {g : Grd} (hg : g.ok = true) {wide high : Int} (hs : (1 ≤ wide ∧ wide ≤ g.w) ∧ 1 ≤ high ∧ high ≤ g.h) : (g.w / wide).toNat ≤ 64 ∧ (g.h / high).toNat ≤ 64 := by
  have hb := gok_bds hg
  have h1 : g.w / wide ≤ g.w := Int.ediv_le_self _ (by omega)
  have h2 : g.h / high ≤ g.h := Int.ediv_le_self _ (by omega)
  omega
/-! Profiles are tables; they add up to the mass. -/
theorem prof_tab {g : Grd} (hg : g.ok = true) : (tabE g 1 g.h = 0 ∧ tabL g 1 g.h = profL g 0) ∧ tabE g g.w 1 = 0 ∧ tabL g g.w 1 = profL g 1 := by
  have hb := gok_bds hg
  have q0 : profE g 0 = 0 := by simp [profE, hg]
  have q1 : profE g 1 = 0 := by simp [profE, hg]
  have e0 : tabE g 1 g.h = 0 := by
    have : sidE g 1 g.h = 0 := by unfold sidE; rw [hg, if_pos rfl, if_pos (by omega)]
    unfold tabE; rw [if_pos this, if_pos ⟨Int.emod_one _, Int.emod_self⟩]
  have e1 : tabE g g.w 1 = 0 := by
    have : sidE g g.w 1 = 0 := by unfold sidE; rw [hg, if_pos rfl, if_pos (by omega)]
    unfold tabE; rw [if_pos this, if_pos ⟨Int.emod_self, Int.emod_one _⟩]
  refine ⟨⟨e0, ?_⟩, e1, ?_⟩
  · unfold tabL profL
    rw [if_pos e0, if_pos q0]
    simp only [axW, axH, Int.zero_ne_one, if_false]
    rw [Int.ediv_one, Int.ediv_self (by omega), show crnN g.w 1 = g.w.toNat by unfold crnN; omega, show crnN g.h g.h = 1 by unfold crnN; omega]
    refine gridL_congr fun j i hj _ => ?_
    have : j = 0 := by omega
    subst this
    unfold tabF profF
    simp only [axW, axH, Int.zero_ne_one, if_false, Int.mul_one, Int.natCast_zero, Int.zero_mul]
  · unfold tabL profL
    rw [if_pos e1, if_pos q1]
    simp only [axW, axH, if_true]
    rw [Int.ediv_one, Int.ediv_self (by omega), show crnN g.h 1 = g.h.toNat by unfold crnN; omega, show crnN g.w g.w = 1 by unfold crnN; omega]
    refine gridL_congr fun j i _ hi => ?_
    have : i = 0 := by omega
    subst this
    unfold tabF profF
    simp only [axW, axH, if_true, Int.mul_one, Int.natCast_zero, Int.zero_mul]
theorem sum_swap (F : Nat → Nat → Int) (m : Nat) : ∀ n : Nat, sumI ((List.range n).map fun i => sumI ((List.range m).map fun j => F i j)) = sumI ((List.range m).map fun j => sumI ((List.range n).map fun i => F i j))
  | 0 => by
    have : ∀ k : Nat, sumI ((List.range k).map fun _ : Nat => (0 : Int)) = 0 := fun k => by
      induction k with
      | zero => rfl
      | succ k ih => rw [sumI_range_succ (fun _ => 0), ih]; rfl
    simp only [List.range_zero, List.map_nil, sumI, this]
  | n + 1 => by
    rw [sumI_range_succ (fun i => sumI ((List.range m).map fun j => F i j)), sum_swap F m n]
    have : ∀ k : Nat, sumI ((List.range k).map fun j => sumI ((List.range n).map fun i => F i j)) + sumI ((List.range k).map fun j => F n j) = sumI ((List.range k).map fun j => sumI ((List.range (n + 1)).map fun i => F i j)) := fun k => by
      induction k with
      | zero => rfl
      | succ k ih =>
        rw [sumI_range_succ (fun j => sumI ((List.range n).map fun i => F i j)), sumI_range_succ (fun j => F n j), sumI_range_succ (fun j => sumI ((List.range (n + 1)).map fun i => F i j)), ← ih, sumI_range_succ (fun i => F i k)]
        omega
    exact this m
/-- All lines added up. -/
theorem lines_sum {g : Grd} (hg : g.ok = true) {axis : Int} (ha : axis = 0 ∨ axis = 1) (f : Cel → Int) : sumI ((List.range (sideN g axis).toNat).map fun i : Nat => lineS g axis i f) = sumP f g.cs := by
  have hb := gok_bds hg
  have e : sumP f g.cs = sumI ((List.range g.h.toNat).map fun j : Nat => sumI ((List.range g.w.toNat).map fun i : Nat => f (atP g.w g.cs (i : Int) (j : Int)))) := by
    have e0 := congrArg (sumP f) (blk_all hg).1
    unfold blk at e0
    rw [sumP_blk, show (g.w - 1 - 0 + 1).toNat = g.w.toNat by omega, show (g.h - 1 - 0 + 1).toNat = g.h.toNat by omega] at e0
    rw [← e0]
    simp only [Int.zero_add]
  rw [e]
  rcases ha with rfl | rfl
  · simp only [sideN, lineS, if_true]
    exact sum_swap (fun i j => f (atP g.w g.cs (i : Int) (j : Int))) g.h.toNat g.w.toNat
  · simp only [sideN, lineS, Int.one_ne_zero, if_false]
theorem massL_P : ∀ cs : List Cel, massL cs = sumP (·.m) cs
  | [] => rfl
  | c :: cs => by rw [massL, massL_P cs]; rfl
theorem lineC_m (g : Grd) (axis i : Int) : (lineC g axis i).m = lineS g axis i (·.m) := by
  rw [← line_sum, ← massL_P]; exact (sumC_m _).1
theorem prof_eq {g : Grd} (hg : g.ok = true) {axis : Int} (ha : axis = 0 ∨ axis = 1) : profL g axis = (List.range (sideN g axis).toNat).map fun i : Nat => lineS g axis i (·.m) := by
  have hl := (prof_len hg ha).1
  refine List.ext_getElem (by rw [List.length_map, List.length_range]; omega) fun i h1 h2 => ?_
  have := prof_at hg ha (i := i) (by omega)
  rw [List.getElem_map, List.getElem_range, ← lineC_m, ← this, List.getD_eq_getElem?_getD, List.getElem?_eq_getElem h1]
  rfl
theorem prof_sum {g : Grd} (hg : g.ok = true) {axis : Int} (ha : axis = 0 ∨ axis = 1) : sumI (profL g axis) = massL g.cs := by
  rw [prof_eq hg ha, lines_sum hg ha, massL_P]
theorem sumI_take (l : List Int) {k : Nat} (hk : k < l.length) : sumI (l.take (k + 1)) = sumI (l.take k) + l.getD k 0 := by
  rw [take_snoc l 0 hk, sumI_app]; simp [sumI]
theorem sumI_all (l : List Int) {k : Nat} (hk : l.length ≤ k) : sumI (l.take k) = sumI l := by rw [List.take_of_length_le hk]
/-! Remainders, lists of numbers. -/
theorem tmod_nat {n : Int} (hn : 1 ≤ n) (i : Nat) : (i : Int).tmod n = ((i % n.toNat : Nat) : Int) := by
  obtain ⟨m, rfl⟩ : ∃ m : Nat, n = m := ⟨n.toNat, by omega⟩
  rw [Int.tmod_eq_emod_of_nonneg (by omega), Int.toNat_natCast, Int.natCast_emod]
theorem isam_f2 {a b : List Int} {k : Nat} (ha : k < a.length) (hb : k < b.length) (h : a.getD k default ≠ b.getD k default) : decide (a = b) = false := decide_eq_false fun e => h (by rw [e])
theorem isam_next {a b : List Int} {k : Nat} (ha : k < a.length) (hb : k < b.length) (h : a.take k = b.take k) (he : a.getD k default = b.getD k default) : a.take (k + 1) = b.take (k + 1) := by
  rw [take_snoc a default ha, take_snoc b default hb, h, he]
/-! The ways of the law of means. -/
theorem sumI_nn : ∀ {l : List Int}, (∀ x ∈ l, 0 ≤ x) → 0 ≤ sumI l
  | [], _ => by simp [sumI]
  | x :: l, h => by
    have h1 := h x (by simp)
    have h2 := sumI_nn (l := l) fun y hy => h y (by simp [hy])
    simp only [sumI]; omega
theorem sumI_drop (l : List Int) (k : Nat) : sumI l = sumI (l.take k) + sumI (l.drop k) := by rw [← sumI_app, List.take_append_drop]
theorem prof_nn {g : Grd} (hg : g.ok = true) {axis : Int} (ha : axis = 0 ∨ axis = 1) : ∀ x ∈ profL g axis, 0 ≤ x := by
  intro x hx
  obtain ⟨i, hi, rfl⟩ := List.getElem_of_mem hx
  have hl := (prof_len hg ha).1
  have h := prof_at hg ha (i := i) (by omega)
  rw [List.getD_eq_getElem?_getD, List.getElem?_eq_getElem hi] at h
  simp only [Option.getD_some] at h
  rw [h]
  have hb := lineC_bd hg ha (i := i) (by omega)
  unfold Cel.m
  omega
theorem meanW (g : Grd) (axis : Int) : (decide (big8 g) = true ∧ True ∧ True) ∨ (decide (big8 g) = false ∧ g.cs.length ≤ 1100 ∧ ¬ profE g axis = 0) ∨
    (decide (big8 g) = false ∧ g.cs.length ≤ 1100 ∧ profE g axis = 0 ∧ g.ok = true ∧ g.mass = massL g.cs ∧ g.err = 0 ∧ (∀ k : Nat, 0 ≤ sumI ((profL g axis).take k) ∧ sumI ((profL g axis).take k) ≤ 1000000000) ∧ sumI (profL g axis) = massL g.cs) := by
  by_cases hb : big8 g
  · exact .inl ⟨decide_eq_true hb, trivial, trivial⟩
  · have hl : g.cs.length ≤ 1100 := by unfold big8 at hb; omega
    by_cases he : profE g axis = 0
    · have hv : g.ok = true := by
        cases hq : g.ok
        · unfold profE at he; rw [hq] at he; simp at he
        · rfl
      have ha : axis = 0 ∨ axis = 1 := by
        unfold profE at he
        rw [hv, if_pos rfl] at he
        by_cases h : 0 ≤ axis ∧ axis ≤ 1
        · omega
        · rw [if_neg h] at he; omega
      have ht := Grd.tell_t hv
      have hs := prof_sum hv ha
      have hg := gok_bds hv
      refine .inr (.inr ⟨decide_eq_false hb, hl, he, hv, ht.2.1, ht.1, fun k => ?_, hs⟩)
      have h0 := sumI_drop (profL g axis) k
      have h1 := sumI_nn (l := (profL g axis).take k) fun x hx => prof_nn hv ha x (List.mem_of_mem_take hx)
      have h2 := sumI_nn (l := (profL g axis).drop k) fun x hx => prof_nn hv ha x (List.mem_of_mem_drop hx)
      omega
    · exact .inr (.inl ⟨decide_eq_false hb, hl, he⟩)
theorem tabJ_tt {F : Nat → Nat → Int} {wide high : Int} {n i j : Nat} (hw : 1 ≤ wide) (hh : 1 ≤ high) (hi : (i : Int).tmod wide = 0) (hj : (j : Int).tmod high = 0) : tabJ F wide.toNat high.toNat n j (i + 1) = tabJ F wide.toNat high.toNat n j i ++ [F j i] :=
  tabJ_t (by rw [tmod_nat hw] at hi; rw [tmod_nat hh] at hj; omega)
theorem tabJ_f1 {F : Nat → Nat → Int} {wide high : Int} {n i j : Nat} (hw : 1 ≤ wide) (hi : (i : Int).tmod wide ≠ 0) : tabJ F wide.toNat high.toNat n j (i + 1) = tabJ F wide.toNat high.toNat n j i :=
  tabJ_f (by rw [tmod_nat hw] at hi; omega)
theorem tabJ_f2 {F : Nat → Nat → Int} {wide high : Int} {n i j : Nat} (hh : 1 ≤ high) (hj : (j : Int).tmod high ≠ 0) : tabJ F wide.toNat high.toNat n j (i + 1) = tabJ F wide.toNat high.toNat n j i :=
  tabJ_f (by rw [tmod_nat hh] at hj; omega)
end Go.Sy
