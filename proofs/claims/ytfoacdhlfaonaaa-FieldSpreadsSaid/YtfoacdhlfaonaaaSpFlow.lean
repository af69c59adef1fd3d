/- Places on a grid, moved round its sides; cells that stream. -/
import Derived.Test.YtfoacdhlfaonaaaSpPhase
set_option linter.unusedSimpArgs false
set_option linter.unusedVariables false
set_option linter.unusedSectionVars false
namespace Go.Sy

/-! ### Places, moved -/
def shp (w h a b : Int) (i : Nat) : Nat := ((((i : Int) % w + a) % w) + w * (((i : Int) / w + b) % h)).toNat
section
variable {w h : Int} (hw : 0 < w) (hh : 0 < h)
include hw hh
theorem shp_int (a b : Int) (i : Nat) : (shp w h a b i : Int) = (((i : Int) % w + a) % w) + w * (((i : Int) / w + b) % h) := by
  have h1 := Int.emod_nonneg ((i : Int) % w + a) (show w ≠ 0 by omega)
  have h2 := Int.emod_nonneg ((i : Int) / w + b) (show h ≠ 0 by omega)
  have h3 := Int.mul_nonneg (show 0 ≤ w by omega) h2
  unfold shp
  rw [Int.toNat_of_nonneg (by omega)]
theorem shp_x (a b : Int) (i : Nat) : (shp w h a b i : Int) % w = ((i : Int) % w + a) % w := by
  rw [shp_int hw hh, Int.add_mul_emod_self_left, Int.emod_emod_of_dvd _ (Int.dvd_refl w)]
theorem shp_y (a b : Int) (i : Nat) : (shp w h a b i : Int) / w = ((i : Int) / w + b) % h := by
  rw [shp_int hw hh, Int.add_mul_ediv_left _ _ (show w ≠ 0 by omega),
    Int.ediv_eq_zero_of_lt (Int.emod_nonneg _ (show w ≠ 0 by omega)) (Int.emod_lt_of_pos _ hw), Int.zero_add]
theorem shp_lt (a b : Int) (i : Nat) : (shp w h a b i : Int) < w * h := by
  rw [shp_int hw hh]
  have h1 := Int.emod_lt_of_pos ((i : Int) % w + a) hw
  have h2 := Int.emod_lt_of_pos ((i : Int) / w + b) hh
  have h3 : w * (((i : Int) / w + b) % h) ≤ w * (h - 1) := Int.mul_le_mul_of_nonneg_left (by omega) (by omega)
  rw [Int.mul_sub, Int.mul_one] at h3
  omega
theorem shp_eq_iff {i j : Nat} (e1 : (i : Int) % w = (j : Int) % w) (e2 : (i : Int) / w = (j : Int) / w) : i = j := by
  have h1 := Int.emod_add_mul_ediv (i : Int) w
  have h2 := Int.emod_add_mul_ediv (j : Int) w
  rw [e1, e2, h2] at h1
  omega
theorem shp_shp (a b c d : Int) (i : Nat) : shp w h a b (shp w h c d i) = shp w h (c + a) (d + b) i := by
  refine shp_eq_iff hw hh ?_ ?_
  · rw [shp_x hw hh, shp_x hw hh, shp_x hw hh, Int.emod_add_emod, Int.add_assoc]
  · rw [shp_y hw hh, shp_y hw hh, shp_y hw hh, Int.emod_add_emod, Int.add_assoc]
theorem shp_zero {i : Nat} (hi : (i : Int) < w * h) : shp w h 0 0 i = i := by
  refine shp_eq_iff hw hh ?_ ?_
  · rw [shp_x hw hh, Int.add_zero, Int.emod_emod_of_dvd _ (Int.dvd_refl w)]
  · rw [shp_y hw hh, Int.add_zero]
    refine Int.emod_eq_of_lt (Int.ediv_nonneg (by omega) (by omega)) (Int.ediv_lt_of_lt_mul hw ?_)
    rw [Int.mul_comm]; exact hi
theorem shp_inv {a b : Int} {i j : Nat} (hi : (i : Int) < w * h) (hj : (j : Int) < w * h) : shp w h a b i = j ↔ shp w h (-a) (-b) j = i := by
  constructor
  · rintro rfl; rw [shp_shp hw hh, show a + -a = 0 by omega, show b + -b = 0 by omega, shp_zero hw hh hi]
  · rintro rfl; rw [shp_shp hw hh, show -a + a = 0 by omega, show -b + b = 0 by omega, shp_zero hw hh hj]
theorem shp_inj {a b : Int} {i j : Nat} (hi : (i : Int) < w * h) (hj : (j : Int) < w * h) (e : shp w h a b i = shp w h a b j) : i = j := by
  have h1 := (shp_inv hw hh (a := a) (b := b) hi (shp_lt hw hh a b i)).1 rfl
  have h2 := (shp_inv hw hh (a := a) (b := b) hj (shp_lt hw hh a b j)).1 rfl
  rw [← h1, e, h2]
end

/-! ### Lists told by their places -/
def tab (n : Nat) (f : Nat → Cel) : List Cel := (List.range n).map f
theorem tab_self (cs : List Cel) : tab cs.length (fun i => cs.getD i default) = cs := by
  apply List.ext_getElem?
  intro i
  by_cases h : i < cs.length
  · simp [tab, h]
  · simp [tab, h]
/-! ### Cells that stream -/
/-- Each cell gets what was so many places back in each direction. -/
def flow (w h p : Int) (cs : List Cel) : List Cel := tab cs.length fun j => ⟨(cs.getD (shp w h (-p) 0 j) default).e, (cs.getD (shp w h 0 (-p) j) default).n, (cs.getD (shp w h p 0 j) default).w, (cs.getD (shp w h 0 p j) default).s⟩
section
variable {w h : Int} (hw : 0 < w) (hh : 0 < h) {cs : List Cel} (hl : (cs.length : Int) = w * h)
include hw hh hl
end

/-! ### Laws of streaming -/
section
variable {w h : Int} (hw : 0 < w) (hh : 0 < h) {cs : List Cel} (hl : (cs.length : Int) = w * h)
include hw hh hl
end
/-! ### Numbers round the sides -/
section
variable {w h : Int} (hw : 0 < w) (hh : 0 < h)
include hw hh
end
def atI (w h x y : Int) : Nat := (x % w + w * (y % h)).toNat
theorem at_bd {w h : Int} (x y : Int) (hw : 0 < w) (hh : 0 < h) : 0 ≤ x % w + w * (y % h) ∧ x % w + w * (y % h) < w * h ∧ 0 ≤ w * (y % h) ∧ w * (y % h) ≤ w * h ∧ 0 ≤ x % w ∧ x % w < w := by
  have h1 := Int.emod_nonneg x (show w ≠ 0 by omega)
  have h2 := Int.emod_lt_of_pos x hw
  have h3 := Int.emod_nonneg y (show h ≠ 0 by omega)
  have h4 := Int.emod_lt_of_pos y hh
  have h5 := Int.mul_nonneg (show 0 ≤ w by omega) h3
  have h6 : w * (y % h) ≤ w * (h - 1) := Int.mul_le_mul_of_nonneg_left (by omega) (by omega)
  rw [Int.mul_sub, Int.mul_one] at h6
  omega
theorem at_lt {w h x y : Int} (hw : 0 < w) (hh : 0 < h) {n : Nat} (hn : (n : Int) = w * h) : atI w h x y < n := by
  have := at_bd x y hw hh
  unfold atI; omega
/-! ### Within bounds -/
section
variable {w h : Int} (hw : 0 < w) (hh : 0 < h) {cs : List Cel} (hl : (cs.length : Int) = w * h)
include hw hh hl
end
/-! ### Cells that are told one after the other -/
section
variable {w h p a b : Int} {cs : List Cel} {k : Nat} (hk : k < cs.length)
include hk
end
end Go.Sy
