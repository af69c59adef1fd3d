/- Blocks of a grid: their cells, sums, fractions in lowest terms. -/
import Derived.Test.YtkaebgfhbgicfaaSpStep
import Derived.Test.YtkaebgfhbgicfaaSpRun
set_option linter.unusedSimpArgs false
set_option linter.unusedVariables false
set_option linter.unusedSectionVars false
namespace Go.Sy
/-! ### The cells of a block, row by row -/
def atP (w : Int) (cs : List Cel) (x y : Int) : Cel := cs.getD (x + w * y).toNat default
def rowK (w : Int) (cs : List Cel) (ax y : Int) : Nat → List Cel
  | 0 => []
  | k + 1 => rowK w cs ax y k ++ [atP w cs (ax + k) y]
def blkK (w : Int) (cs : List Cel) (ax ay : Int) (n : Nat) : Nat → List Cel
  | 0 => []
  | k + 1 => blkK w cs ax ay n k ++ rowK w cs ax (ay + k) n
def blk (w : Int) (cs : List Cel) (a b : Pnt) : List Cel := blkK w cs a.x a.y (b.x - a.x + 1).toNat (b.y - a.y + 1).toNat
/-- All cells added up. -/
def sumC (l : List Cel) : Cel := ⟨sumP (·.e) l, sumP (·.n) l, sumP (·.w) l, sumP (·.s) l⟩
theorem sumI_app : ∀ (l m : List Int), sumI (l ++ m) = sumI l + sumI m
  | [], m => by simp [sumI]
  | x :: l, m => by simp only [List.cons_append, sumI, sumI_app l m]; omega
theorem sumP_app (f : Cel → Int) (l m : List Cel) : sumP f (l ++ m) = sumP f l + sumP f m := by unfold sumP; rw [List.map_append, sumI_app]
theorem sumC_app (l m : List Cel) : sumC (l ++ m) = (sumC l).add (sumC m) := by simp only [sumC, sumP_app, Cel.add]
theorem sumC_one (c : Cel) : sumC [c] = c := by simp [sumC, sumP, sumI]
theorem sumC_snoc (l : List Cel) (c : Cel) : sumC (l ++ [c]) = ⟨(sumC l).e + c.e, (sumC l).n + c.n, (sumC l).w + c.w, (sumC l).s + c.s⟩ := by rw [sumC_app, sumC_one]; rfl
theorem sumC_m (l : List Cel) : (sumC l).m = massL l ∧ (sumC l).e - (sumC l).w = eastL l ∧ (sumC l).n - (sumC l).s = northL l := by
  have := sums_eq l
  simp only [sumC, Cel.m]
  omega
/-! Bounds. -/
def bd9 (c : Cel) : Prop := (0 ≤ c.e ∧ c.e ≤ 1000000000) ∧ (0 ≤ c.n ∧ c.n ≤ 1000000000) ∧ (0 ≤ c.w ∧ c.w ≤ 1000000000) ∧ 0 ≤ c.s ∧ c.s ≤ 1000000000
theorem okL_bd9 {cs : List Cel} (h : okL cs = true) (i : Nat) : bd9 (cs.getD i default) := by
  by_cases hi : i < cs.length
  · have := Cel.ok_iff.1 (okL_iff.1 h _ (getD_mem default hi))
    unfold bd9; omega
  · rw [show cs.getD i default = default by simp [List.getD, List.getElem?_eq_none (show cs.length ≤ i by omega)]]
    show bd9 ⟨0, 0, 0, 0⟩
    unfold bd9; simp
/-- Corners of a block on a grid. -/
def onB (g : Grd) (p : Pnt) : Prop := 0 ≤ p.x ∧ p.x ≤ g.w - 1 ∧ 0 ≤ p.y ∧ p.y ≤ g.h - 1
def blkOk (g : Grd) (a b : Pnt) : Prop := onB g a ∧ onB g b ∧ a.x ≤ b.x ∧ a.y ≤ b.y
instance (g : Grd) (p : Pnt) : Decidable (onB g p) := by unfold onB; infer_instance
instance (g : Grd) (a b : Pnt) : Decidable (blkOk g a b) := by unfold blkOk; infer_instance
/-- A place within a grid has an index. -/
theorem idx_in {g : Grd} (hg : g.ok = true) {x y : Int} (hx : 0 ≤ x ∧ x ≤ g.w - 1) (hy : 0 ≤ y ∧ y ≤ g.h - 1) : 0 ≤ x + g.w * y ∧ x + g.w * y < g.cs.length ∧ 0 ≤ g.w * y ∧ g.w * y ≤ 4096 := by
  have hb := gok_bds hg
  have h1 : 0 ≤ g.w * y := Int.mul_nonneg (by omega) hy.1
  have h2 : g.w * y ≤ g.w * (g.h - 1) := Int.mul_le_mul_of_nonneg_left hy.2 (by omega)
  rw [Int.mul_sub, Int.mul_one] at h2
  refine ⟨by omega, by omega, h1, ?_⟩
  omega
/-- Parts that are far from the end of all numbers. -/
def cbd (c : Cel) : Prop := (-9000000000000 ≤ c.e ∧ c.e ≤ 9000000000000) ∧ (-9000000000000 ≤ c.n ∧ c.n ≤ 9000000000000) ∧ (-9000000000000 ≤ c.w ∧ c.w ≤ 9000000000000) ∧ -9000000000000 ≤ c.s ∧ c.s ≤ 9000000000000
/-! ### Fractions in lowest terms -/
/-! ### Lists told row by row -/
end Go.Sy

/- Profiles, crossings; what a line gains when a grid streams. -/
set_option linter.unusedSimpArgs false
set_option linter.unusedVariables false
set_option linter.unusedSectionVars false
namespace Go.Sy
/-! Crossings. -/
def crossOk (g : Grd) (axis at_ : Int) : Prop := (axis = 0 ∧ 0 ≤ at_ ∧ at_ ≤ g.w - 1) ∨ (axis = 1 ∧ 0 ≤ at_ ∧ at_ ≤ g.h - 1)
instance (g : Grd) (axis at_ : Int) : Decidable (crossOk g axis at_) := by unfold crossOk; infer_instance
end Go.Sy

/- What crosses the lines of a grid that streams: the law's facts. -/
set_option linter.unusedSimpArgs false
set_option linter.unusedVariables false
set_option linter.unusedSectionVars false
namespace Go.Sy
/-! ### The whole grid as a block -/
end Go.Sy

/- Loops round blocks, paths. -/
set_option linter.unusedSimpArgs false
set_option linter.unusedVariables false
set_option linter.unusedSectionVars false
namespace Go.Sy
/-! ### Circulation -/
/-! Parts of lines. -/
/-! ### Lists of points -/
/-! ### The next cell of a path -/
/-! ### The grid that is looked at first -/
/-! ### Blocks that are joined -/
def big8 (g : Grd) : Prop := 100 < g.cs.length ∧ g.cs.length ≤ 1024 ∨ 1100 < g.cs.length
instance (g : Grd) : Decidable (big8 g) := by unfold big8; exact inferInstance
end Go.Sy

/- Joined blocks: the ways, told for the walk. -/
namespace Go.Sy
end Go.Sy

/- Cells of a block told one by one; the place of the greatest value; grids whose cells are alike. -/
set_option linter.unusedSimpArgs false
set_option linter.unusedVariables false
set_option linter.unusedSectionVars false
namespace Go.Sy
/-! ### Cells of a block, under way -/
/-! ### Sides -/
/-! ### The first place with the greatest value -/
structure Bst where
  met : Bool
  x : Nat
  y : Nat
/-! Vortices. -/
/-! ### Grids whose cells are alike -/
/-! The ways of the law of loops. -/
end Go.Sy
