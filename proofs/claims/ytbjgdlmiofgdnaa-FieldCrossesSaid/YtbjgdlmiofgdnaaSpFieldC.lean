import Derived.Test.YtbjgdlmiofgdnaaSpRuns
import Derived.Test.YtbjgdlmiofgdnaaSpField5
/- What shifting, turning, mirroring a grid tell. -/
set_option linter.unusedSimpArgs false
set_option linter.unusedVariables false
set_option linter.unusedSectionVars false
namespace Go.Sy
end Go.Sy

/- Runs put together and undone; steps kept. -/
set_option linter.unusedSimpArgs false
set_option linter.unusedVariables false
set_option linter.unusedSectionVars false
namespace Go.Sy
theorem run_len (g : Grd) (l : List Rul) (t n : Int) : (runG g l t n).cs.length ≤ g.cs.length ∧ (undoG g l t n).cs.length ≤ g.cs.length := by
  constructor
  · unfold runG; split
    · exact Nat.le_of_eq (runC_length ..)
    · exact Nat.zero_le _
  · unfold undoG; split
    · exact Nat.le_of_eq (bakC_length ..)
    · exact Nat.zero_le _
theorem runE_zero {g : Grd} {l : List Rul} {t n : Int} (h : runE g l t n = 0) : g.ok = true ∧ rulesB l = true ∧ timesP t n := by
  unfold runE at h
  cases hg : g.ok
  · simp [hg] at h
  · cases hr : rulesB l
    · simp [hr] at h
    · by_cases ht : timesP t n
      · exact ⟨rfl, rfl, ht⟩
      · simp only [hg, hr, Bool.and_true, if_true, if_neg ht] at h; omega
theorem runG_eq {g : Grd} {l : List Rul} {t n : Int} (h : runE g l t n = 0) : runG g l t n = ⟨g.w, g.h, runC g.w g.h (rho l t) g.cs n.toNat⟩ := if_pos h
theorem runG_ok {g : Grd} {l : List Rul} {t n : Int} (h : runE g l t n = 0) : (runG g l t n).ok = true := by
  obtain ⟨h1, h2, h3⟩ := runE_zero h
  rw [runG_eq h]
  exact runC_ok h1 (fun k => (rho_ok h2 h3.1.1 k).1) _
/-! ### Streamed back by the machine's own steps -/
/-! ### Steps and movements change places -/
section
variable {w h : Int} (hw : 0 < w) (hh : 0 < h) {cs : List Cel} (hl : (cs.length : Int) = w * h)
end
end Go.Sy

/- Crossings told cell by cell, rows, parities; what crosses all lines, what a step does to parities. -/
set_option linter.unusedSimpArgs false
set_option linter.unusedVariables false
set_option linter.unusedSectionVars false
namespace Go.Sy
/-! ### Cells that are picked out -/
def selS (P : Nat → Bool) (f : Cel → Int) (cs : List Cel) (k : Nat) : Int := sumI ((List.range k).map fun i => if P i then f (cs.getD i default) else 0)
theorem selS_zero (P : Nat → Bool) (f : Cel → Int) (cs : List Cel) : selS P f cs 0 = 0 := rfl
theorem selS_t {P : Nat → Bool} {f : Cel → Int} {cs : List Cel} {k : Nat} (h : P k = true) : selS P f cs (k + 1) = selS P f cs k + f (cs.getD k default) := by
  unfold selS; rw [sumI_range_succ (fun i => if P i then f (cs.getD i default) else 0), h]; simp
theorem selS_f {P : Nat → Bool} {f : Cel → Int} {cs : List Cel} {k : Nat} (h : P k = false) : selS P f cs (k + 1) = selS P f cs k := by
  unfold selS; rw [sumI_range_succ (fun i => if P i then f (cs.getD i default) else 0), h]; simp
theorem selS_bd {P : Nat → Bool} {f : Cel → Int} {cs : List Cel} (hf : ∀ i, 0 ≤ f (cs.getD i default) ∧ f (cs.getD i default) ≤ 4000000000) : ∀ k : Nat, 0 ≤ selS P f cs k ∧ selS P f cs k ≤ 4000000000 * k
  | 0 => by simp [selS_zero]
  | k + 1 => by
    have ih := selS_bd (P := P) hf k
    have h := hf k
    cases hp : P k
    · rw [selS_f hp]; omega
    · rw [selS_t hp]; omega
theorem range_cut (G : Nat → Int) (a : Nat) : ∀ b : Nat, sumI ((List.range (a + b)).map G) = sumI ((List.range a).map G) + sumI ((List.range b).map fun x => G (a + x))
  | 0 => by simp [sumI]
  | b + 1 => by rw [← Nat.add_assoc, sumI_range_succ, range_cut G a b, sumI_range_succ (fun x => G (a + x))]; omega
theorem range_grid (G : Nat → Int) (w : Nat) : ∀ m : Nat, sumI ((List.range (w * m)).map G) = sumI ((List.range m).map fun y => sumI ((List.range w).map fun x => G (w * y + x)))
  | 0 => by simp [sumI]
  | m + 1 => by rw [Nat.mul_succ, range_cut, range_grid G w m, sumI_range_succ (fun y => sumI ((List.range w).map fun x => G (w * y + x)))]
theorem sel_grid {g : Grd} (hg : g.ok = true) (P : Int → Int → Bool) (f : Cel → Int) : selS (fun i : Nat => P ((i : Int) % g.w) ((i : Int) / g.w)) f g.cs g.cs.length =
    sumI ((List.range g.h.toNat).map fun y : Nat => sumI ((List.range g.w.toNat).map fun x : Nat => if P (x : Int) (y : Int) then f (atP g.w g.cs (x : Int) (y : Int)) else 0)) := by
  have hb := gok_bds hg
  have hl : g.cs.length = g.w.toNat * g.h.toNat := by
    have : ((g.w.toNat * g.h.toNat : Nat) : Int) = g.w * g.h := by rw [Int.natCast_mul, Int.toNat_of_nonneg (by omega), Int.toNat_of_nonneg (by omega)]
    omega
  unfold selS
  rw [hl, range_grid]
  refine congrArg sumI (List.map_congr_left fun y hy => congrArg sumI (List.map_congr_left fun x hx => ?_))
  have hx' := List.mem_range.1 hx
  have e : ((g.w.toNat * y + x : Nat) : Int) = (x : Int) + g.w * (y : Int) := by rw [Int.natCast_add, Int.natCast_mul, Int.toNat_of_nonneg (by omega)]; omega
  have em : ((x : Int) + g.w * (y : Int)) % g.w = x := by rw [Int.add_mul_emod_self_left]; exact Int.emod_eq_of_lt (by omega) (by omega)
  have ed : ((x : Int) + g.w * (y : Int)) / g.w = y := by rw [Int.add_mul_ediv_left _ _ (show g.w ≠ 0 by omega), Int.ediv_eq_zero_of_lt (by omega) (by omega), Int.zero_add]
  simp only [e, em, ed]
  unfold atP
  rw [← e, Int.toNat_natCast]
theorem sum_zero (n : Nat) : sumI ((List.range n).map fun _ : Nat => (0 : Int)) = 0 := by
  induction n with
  | zero => rfl
  | succ n ih => rw [sumI_range_succ (fun _ => 0), ih]; rfl
theorem sum_pick (F : Nat → Int) (c : Nat) : ∀ n : Nat, sumI ((List.range n).map fun x : Nat => if ((x : Int) == (c : Int)) then F x else 0) = if c < n then F c else 0
  | 0 => by simp [sumI]
  | n + 1 => by
    rw [sumI_range_succ (fun x : Nat => if ((x : Int) == (c : Int)) then F x else 0), sum_pick F c n]
    by_cases h : n = c
    · subst h; simp
    · have h1 : ((n : Int) == (c : Int)) = false := by rw [beq_eq_false_iff_ne]; omega
      rw [h1]
      simp only [Bool.false_eq_true, if_false, Int.add_zero]
      by_cases h2 : c < n
      · rw [if_pos h2, if_pos (by omega)]
      · rw [if_neg h2, if_neg (by omega)]
theorem sel_col {g : Grd} (hg : g.ok = true) (f : Cel → Int) {c : Int} (hc : 0 ≤ c ∧ c ≤ g.w - 1) : selS (fun i : Nat => ((i : Int) % g.w == c)) f g.cs g.cs.length = lineS g 0 c f := by
  rw [sel_grid hg (fun x _ => x == c) f]
  obtain ⟨d, rfl⟩ : ∃ d : Nat, c = d := ⟨c.toNat, by omega⟩
  simp only [lineS, if_true]
  refine congrArg sumI (List.map_congr_left fun y _ => ?_)
  rw [sum_pick (fun x => f (atP g.w g.cs (x : Int) (y : Int))) d, if_pos (by omega)]
theorem sel_row {g : Grd} (hg : g.ok = true) (f : Cel → Int) {c : Int} (hc : 0 ≤ c ∧ c ≤ g.h - 1) : selS (fun i : Nat => ((i : Int) / g.w == c)) f g.cs g.cs.length = lineS g 1 c f := by
  rw [sel_grid hg (fun _ y => y == c) f]
  obtain ⟨d, rfl⟩ : ∃ d : Nat, c = d := ⟨c.toNat, by omega⟩
  simp only [lineS, Int.one_ne_zero, if_false]
  have h := sum_pick (fun y => sumI ((List.range g.w.toNat).map fun x : Nat => f (atP g.w g.cs (x : Int) (y : Int)))) d g.h.toNat
  rw [if_pos (by omega)] at h
  rw [← h]
  refine congrArg sumI (List.map_congr_left fun y _ => ?_)
  by_cases hy : ((y : Int) == (d : Int)) = true
  · simp only [hy, if_true]
  · simp only [hy, if_false]; exact sum_zero _
/-- Before the line. -/
theorem before_iff {n k a : Int} (hk : 0 ≤ k ∧ k ≤ n - 1) (ha : 0 ≤ a ∧ a ≤ n - 1) : ((k + 1) % n == a) = (k == (a + -1) % n) := by
  rw [Bool.eq_iff_iff, beq_iff_eq, beq_iff_eq]
  by_cases h1 : k = n - 1
  · rw [h1, show n - 1 + 1 = n by omega, Int.emod_self]
    by_cases h2 : a = 0
    · subst h2
      have : (0 + -1) % n = n - 1 := by rw [show (0 : Int) + -1 = (n - 1) + n * (-1) by omega, Int.add_mul_emod_self_left]; exact Int.emod_eq_of_lt (by omega) (by omega)
      omega
    · have : (a + -1) % n = a + -1 := Int.emod_eq_of_lt (by omega) (by omega)
      omega
  · rw [Int.emod_eq_of_lt (show 0 ≤ k + 1 by omega) (by omega)]
    by_cases h2 : a = 0
    · subst h2
      have : (0 + -1) % n = n - 1 := by rw [show (0 : Int) + -1 = (n - 1) + n * (-1) by omega, Int.add_mul_emod_self_left]; exact Int.emod_eq_of_lt (by omega) (by omega)
      omega
    · have : (a + -1) % n = a + -1 := Int.emod_eq_of_lt (by omega) (by omega)
      omega
theorem selS_congr {P Q : Nat → Bool} {f : Cel → Int} {cs : List Cel} {n : Nat} (h : ∀ i, i < n → P i = Q i) : selS P f cs n = selS Q f cs n := by
  unfold selS
  refine congrArg sumI (List.map_congr_left fun i hi => ?_)
  rw [h i (List.mem_range.1 hi)]
theorem col_in {g : Grd} (hg : g.ok = true) {i : Nat} (hi : i < g.cs.length) : (0 ≤ (i : Int) % g.w ∧ (i : Int) % g.w ≤ g.w - 1) ∧ 0 ≤ (i : Int) / g.w ∧ (i : Int) / g.w ≤ g.h - 1 := by
  have h := next_bd hg (k := (i : Int)) (by omega) (by omega)
  omega
/-- What the reference counts. -/
def cfP (g : Grd) (axis at_ : Int) (i : Nat) : Bool := if axis = 0 then (((i : Int) % g.w + 1) % g.w == at_) else (((i : Int) / g.w + 1) % g.h == at_)
def cbP (g : Grd) (axis at_ : Int) (i : Nat) : Bool := if axis = 0 then ((i : Int) % g.w == at_) else ((i : Int) / g.w == at_)
theorem cross_sel0 {g : Grd} (hg : g.ok = true) {a : Int} (ha : 0 ≤ a ∧ a ≤ g.w - 1) : crossF g 0 a = selS (cfP g 0 a) (·.e) g.cs g.cs.length ∧ crossB g 0 a = selS (cbP g 0 a) (·.w) g.cs g.cs.length := by
  have hc := crossE_ok hg (axis := 0) (i := a) (.inl rfl) (by simp only [sideN, if_true]; exact ha)
  have hb := gok_bds hg
  have hm := mod_line (n := g.w) (by omega) ha
  unfold crossF crossB
  rw [if_pos hc, if_pos hc]
  simp only [sideN, if_true]
  rw [lineC_eq, lineC_eq]
  simp only
  constructor
  · rw [← sel_col hg (·.e) (c := (a + -1) % g.w) ⟨hm.1, hm.2.1⟩]
    refine (selS_congr fun i hi => ?_).symm
    simp only [cfP, if_true]
    exact before_iff (col_in hg hi).1 ha
  · rw [← sel_col hg (·.w) ha]; rfl
theorem cross_sel1 {g : Grd} (hg : g.ok = true) {a : Int} (ha : 0 ≤ a ∧ a ≤ g.h - 1) : crossF g 1 a = selS (cfP g 1 a) (·.n) g.cs g.cs.length ∧ crossB g 1 a = selS (cbP g 1 a) (·.s) g.cs g.cs.length := by
  have hc := crossE_ok hg (axis := 1) (i := a) (.inr rfl) (by simp only [sideN, Int.one_ne_zero, if_false]; exact ha)
  have hb := gok_bds hg
  have hm := mod_line (n := g.h) (by omega) ha
  unfold crossF crossB
  rw [if_pos hc, if_pos hc]
  simp only [sideN, Int.one_ne_zero, if_false]
  rw [lineC_eq, lineC_eq]
  simp only
  constructor
  · rw [← sel_row hg (·.n) (c := (a + -1) % g.h) ⟨hm.1, hm.2.1⟩]
    refine (selS_congr fun i hi => ?_).symm
    simp only [cfP, Int.one_ne_zero, if_false]
    exact before_iff (col_in hg hi).2 ha
  · rw [← sel_row hg (·.s) ha]; rfl
/-! ### Rows -/
def rowG (g : Grd) (j i : Nat) : Int := (crnC g g.w 1 i j).e - (crnC g g.w 1 i j).w
def rowsL (g : Grd) : List Int := if g.ok then gridL (rowG g) (crnN g.w g.w) (crnN g.h 1) else []
def rowT (g : Grd) (j : Nat) : Int := eastL (blk g.w g.cs ⟨0, (j : Int)⟩ ⟨g.w - 1, (j : Int)⟩)
theorem rows_end {g : Grd} (hg : g.ok = true) : gridL (rowG g) (crnN g.w g.w) (crnN g.h 1) = (List.range g.h.toNat).map (rowT g) := by
  have hb := gok_bds hg
  rw [show crnN g.w g.w = 1 by unfold crnN; omega, show crnN g.h 1 = g.h.toNat by unfold crnN; omega, gridL_one]
  refine List.map_congr_left fun j _ => ?_
  unfold rowG rowT crnC
  rw [(sumC_m _).2.1]
  simp only [Int.natCast_zero, Int.zero_add, show (j : Int) + 1 - 1 = j by omega]
theorem rowT_app (g : Grd) (j : Nat) {x : Int} (hx : x = rowT g j) : Cts.ix ((List.range j).map (rowT g) ++ [x]) = Cts.ix ((List.range (j + 1)).map (rowT g)) := by
  subst hx; rw [List.range_succ, List.map_append]; rfl
theorem row_ok {g : Grd} (hg : g.ok = true) {j : Nat} (hj : (j : Int) < g.h) : blkOk g ⟨0, (j : Int)⟩ ⟨g.w - 1, (j : Int)⟩ := by
  have hb := gok_bds hg
  unfold blkOk onB; simp only; omega
/-! ### Parities -/
def parP (w : Int) (p : Int) (i : Nat) : Bool := (((i : Int) % w + (i : Int) / w) % 2 == p)
def parV (g : Grd) (p : Int) : Int := if g.ok then selS (parP g.w p) (·.m) g.cs g.cs.length else 0
theorem par_t {w p : Int} {i : Nat} (h : ((i : Int) % w + (i : Int) / w) % 2 = p) : parP w p i = true := by unfold parP; rw [h]; simp
theorem par_f {w p : Int} {i : Nat} (h : ((i : Int) % w + (i : Int) / w) % 2 ≠ p) : parP w p i = false := by unfold parP; rw [beq_eq_false_iff_ne]; exact h
theorem par_ways (g : Grd) : (g.ok = false ∧ g.err = 1 ∧ parV g 0 = 0 ∧ parV g 1 = 0 ∧ True) ∨ (g.ok = true ∧ g.err = 0 ∧ parV g 0 = selS (parP g.w 0) (·.m) g.cs g.cs.length ∧ parV g 1 = selS (parP g.w 1) (·.m) g.cs g.cs.length ∧ (∀ p k, 0 ≤ selS (parP g.w p) (·.m) g.cs k ∧ selS (parP g.w p) (·.m) g.cs k ≤ 4000000000 * k)) := by
  unfold parV Grd.err
  cases hg : g.ok
  · exact .inl ⟨rfl, rfl, rfl, rfl, trivial⟩
  · refine .inr ⟨rfl, rfl, rfl, rfl, fun p k => selS_bd (fun i => ?_) k⟩
    have h := okL_bd9 (gok_okL hg) i
    unfold bd9 at h
    unfold Cel.m
    omega
/-- The sums of what crosses. -/
def crT (g : Grd) (axis : Int) (k : Nat) : Int := sumI ((List.range k).map fun i : Nat => crossF g axis (i : Int) - crossB g axis (i : Int))
theorem crT_next (g : Grd) (axis : Int) (k : Nat) : crT g axis (k + 1) = crT g axis k + (crossF g axis (k : Int) - crossB g axis (k : Int)) := sumI_range_succ (fun i : Nat => crossF g axis (i : Int) - crossB g axis (i : Int)) k
theorem crT_bd {g : Grd} (hg : g.ok = true) {axis : Int} (ha : axis = 0 ∨ axis = 1) : ∀ k : Nat, (k : Int) ≤ sideN g axis → -5000000000000 * k ≤ crT g axis k ∧ crT g axis k ≤ 5000000000000 * k
  | 0, _ => by simp [crT, sumI]
  | k + 1, h => by
    have ih := crT_bd hg ha k (by omega)
    have hc := cross_bd hg ha (i := (k : Int)) (by omega)
    rw [crT_next]; omega
theorem sumI_sub (F G : Nat → Int) : ∀ n : Nat, sumI ((List.range n).map fun i => F i - G i) = sumI ((List.range n).map F) - sumI ((List.range n).map G)
  | 0 => rfl
  | n + 1 => by rw [sumI_range_succ (fun i => F i - G i), sumI_sub F G n, sumI_range_succ F, sumI_range_succ G]; omega
theorem crT_all {g : Grd} (hg : g.ok = true) : crT g 0 g.w.toNat = eastL g.cs ∧ crT g 1 g.h.toNat = northL g.cs := by
  have hb := gok_bds hg
  have hs := sums_eq g.cs
  constructor
  · have hE : sumI ((List.range g.w.toNat).map fun i : Nat => crossF g 0 (i : Int)) = sumP (·.e) g.cs := by
      rw [← lines_sum hg (axis := 0) (.inl rfl) (·.e)]
      simp only [sideN, if_true]
      have hr := ring_sum (fun x => lineS g 0 x (·.e)) (n := g.w.toNat) (by omega) (-1)
      rw [← hr]
      refine congrArg sumI (List.map_congr_left fun i hi => ?_)
      have hi' := List.mem_range.1 hi
      have hc := crossE_ok hg (axis := 0) (i := (i : Int)) (.inl rfl) (by simp only [sideN, if_true]; omega)
      unfold crossF
      rw [if_pos hc]
      simp only [sideN, if_true, lineC_eq, Int.toNat_of_nonneg (show 0 ≤ g.w by omega)]
    have hW : sumI ((List.range g.w.toNat).map fun i : Nat => crossB g 0 (i : Int)) = sumP (·.w) g.cs := by
      rw [← lines_sum hg (axis := 0) (.inl rfl) (·.w)]
      simp only [sideN, if_true]
      refine congrArg sumI (List.map_congr_left fun i hi => ?_)
      have hi' := List.mem_range.1 hi
      have hc := crossE_ok hg (axis := 0) (i := (i : Int)) (.inl rfl) (by simp only [sideN, if_true]; omega)
      unfold crossB
      rw [if_pos hc]
      simp only [if_true, lineC_eq]
    unfold crT
    rw [sumI_sub, hE, hW]; omega
  · have hE : sumI ((List.range g.h.toNat).map fun i : Nat => crossF g 1 (i : Int)) = sumP (·.n) g.cs := by
      rw [← lines_sum hg (axis := 1) (.inr rfl) (·.n)]
      simp only [sideN, Int.one_ne_zero, if_false]
      have hr := ring_sum (fun x => lineS g 1 x (·.n)) (n := g.h.toNat) (by omega) (-1)
      rw [← hr]
      refine congrArg sumI (List.map_congr_left fun i hi => ?_)
      have hi' := List.mem_range.1 hi
      have hc := crossE_ok hg (axis := 1) (i := (i : Int)) (.inr rfl) (by simp only [sideN, Int.one_ne_zero, if_false]; omega)
      unfold crossF
      rw [if_pos hc]
      simp only [sideN, Int.one_ne_zero, if_false, lineC_eq, Int.toNat_of_nonneg (show 0 ≤ g.h by omega)]
    have hW : sumI ((List.range g.h.toNat).map fun i : Nat => crossB g 1 (i : Int)) = sumP (·.s) g.cs := by
      rw [← lines_sum hg (axis := 1) (.inr rfl) (·.s)]
      simp only [sideN, Int.one_ne_zero, if_false]
      refine congrArg sumI (List.map_congr_left fun i hi => ?_)
      have hi' := List.mem_range.1 hi
      have hc := crossE_ok hg (axis := 1) (i := (i : Int)) (.inr rfl) (by simp only [sideN, Int.one_ne_zero, if_false]; omega)
      unfold crossB
      rw [if_pos hc]
      simp only [Int.one_ne_zero, if_false, lineC_eq]
    unfold crT
    rw [sumI_sub, hE, hW]; omega
/-! A step changes parities. -/
def parQ (p x y : Int) : Bool := ((x + y) % 2 == p)
def par2 (g : Grd) (cs : List Cel) (p : Int) (f : Cel → Int) : Int := sumI ((List.range g.h.toNat).map fun y : Nat => sumI ((List.range g.w.toNat).map fun x : Nat => if parQ p (x : Int) (y : Int) then f (atP g.w cs (x : Int) (y : Int)) else 0))
theorem par_grid {g : Grd} (hg : g.ok = true) (p : Int) (f : Cel → Int) : selS (parP g.w p) f g.cs g.cs.length = par2 g g.cs p f := sel_grid hg (fun x y => parQ p x y) f
theorem sum_sum (F G : Nat → Int) : ∀ n : Nat, sumI ((List.range n).map fun i => F i + G i) = sumI ((List.range n).map F) + sumI ((List.range n).map G)
  | 0 => rfl
  | n + 1 => by rw [sumI_range_succ (fun i => F i + G i), sum_sum F G n, sumI_range_succ F, sumI_range_succ G]; omega
/-- Places moved along a row: the parity changes. -/
theorem ring_par {n : Int} (hn : 1 ≤ n) (he : n % 2 = 0) {x y b : Int} (hb : b = 1 ∨ b = -1) (hx : 0 ≤ x ∧ x ≤ n - 1) {p : Int} (hp : p = 0 ∨ p = 1) : parQ p x y = parQ (1 - p) ((x + b) % n) y ∧ parQ p y x = parQ (1 - p) y ((x + b) % n) := by
  have hm : ((x + b) % n) % 2 = (x + b) % 2 := Int.emod_emod_of_dvd _ (Int.dvd_of_emod_eq_zero he)
  unfold parQ
  constructor <;> (rw [Bool.eq_iff_iff, beq_iff_eq, beq_iff_eq]; omega)
theorem par_flow {g : Grd} (hg : g.ok = true) (hw : g.w % 2 = 0) (hh : g.h % 2 = 0) {p : Int} (hp : p = 0 ∨ p = 1) : par2 g (flow g.w g.h 1 g.cs) p (·.m) = par2 g g.cs (1 - p) (·.m) := by
  have hb := gok_bds hg
  have nw : ((g.w.toNat : Nat) : Int) = g.w := Int.toNat_of_nonneg (by omega)
  have nh : ((g.h.toNat : Nat) : Int) = g.h := Int.toNat_of_nonneg (by omega)
  -- along rows
  have hx : ∀ (f : Cel → Int) (b : Int), (b = 1 ∨ b = -1) → sumI ((List.range g.h.toNat).map fun y : Nat => sumI ((List.range g.w.toNat).map fun x : Nat => if parQ p (x : Int) (y : Int) then f (atP g.w g.cs (((x : Int) + b) % g.w) (y : Int)) else 0)) = par2 g g.cs (1 - p) f := fun f b hb' => by
    refine congrArg sumI (List.map_congr_left fun y hy => ?_)
    have hr := ring_sum (fun x => if parQ (1 - p) x (y : Int) then f (atP g.w g.cs x (y : Int)) else 0) (n := g.w.toNat) (by omega) b
    rw [nw] at hr
    rw [← hr]
    refine congrArg sumI (List.map_congr_left fun x hx => ?_)
    have hx' := List.mem_range.1 hx
    rw [(ring_par (n := g.w) (by omega) hw (x := (x : Int)) (y := (y : Int)) hb' (by omega) hp).1]
  have hy : ∀ (f : Cel → Int) (b : Int), (b = 1 ∨ b = -1) → sumI ((List.range g.h.toNat).map fun y : Nat => sumI ((List.range g.w.toNat).map fun x : Nat => if parQ p (x : Int) (y : Int) then f (atP g.w g.cs (x : Int) (((y : Int) + b) % g.h)) else 0)) = par2 g g.cs (1 - p) f := fun f b hb' => by
    have hr := ring_sum (fun y => sumI ((List.range g.w.toNat).map fun x : Nat => if parQ (1 - p) (x : Int) y then f (atP g.w g.cs (x : Int) y) else 0)) (n := g.h.toNat) (by omega) b
    rw [nh] at hr
    unfold par2
    rw [← hr]
    refine congrArg sumI (List.map_congr_left fun y hy => congrArg sumI (List.map_congr_left fun x hx => ?_))
    have hy' := List.mem_range.1 hy
    rw [(ring_par (n := g.h) (by omega) hh (x := (y : Int)) (y := (x : Int)) hb' (by omega) hp).2]
  have split : ∀ (F : Nat → Nat → Cel), sumI ((List.range g.h.toNat).map fun y : Nat => sumI ((List.range g.w.toNat).map fun x : Nat => if parQ p (x : Int) (y : Int) then (F y x).m else 0)) =
      sumI ((List.range g.h.toNat).map fun y : Nat => sumI ((List.range g.w.toNat).map fun x : Nat => if parQ p (x : Int) (y : Int) then (F y x).e else 0)) + sumI ((List.range g.h.toNat).map fun y : Nat => sumI ((List.range g.w.toNat).map fun x : Nat => if parQ p (x : Int) (y : Int) then (F y x).n else 0)) +
      (sumI ((List.range g.h.toNat).map fun y : Nat => sumI ((List.range g.w.toNat).map fun x : Nat => if parQ p (x : Int) (y : Int) then (F y x).w else 0)) + sumI ((List.range g.h.toNat).map fun y : Nat => sumI ((List.range g.w.toNat).map fun x : Nat => if parQ p (x : Int) (y : Int) then (F y x).s else 0))) := fun F => by
    rw [← sum_sum, ← sum_sum, ← sum_sum]
    refine congrArg sumI (List.map_congr_left fun y _ => ?_)
    rw [← sum_sum, ← sum_sum, ← sum_sum]
    refine congrArg sumI (List.map_congr_left fun x _ => ?_)
    unfold Cel.m
    cases parQ p (x : Int) (y : Int) <;> simp <;> omega
  have e1 : par2 g (flow g.w g.h 1 g.cs) p (·.m) = sumI ((List.range g.h.toNat).map fun y : Nat => sumI ((List.range g.w.toNat).map fun x : Nat => if parQ p (x : Int) (y : Int) then (⟨(atP g.w g.cs (((x : Int) + -1) % g.w) (y : Int)).e, (atP g.w g.cs (x : Int) (((y : Int) + -1) % g.h)).n, (atP g.w g.cs (((x : Int) + 1) % g.w) (y : Int)).w, (atP g.w g.cs (x : Int) (((y : Int) + 1) % g.h)).s⟩ : Cel).m else 0)) := by
    refine congrArg sumI (List.map_congr_left fun y hy => congrArg sumI (List.map_congr_left fun x hx => ?_))
    have hy' := List.mem_range.1 hy
    have hx' := List.mem_range.1 hx
    rw [flowP_at hg (by omega) (by omega)]
  rw [e1, split (fun y x => ⟨(atP g.w g.cs (((x : Int) + -1) % g.w) (y : Int)).e, (atP g.w g.cs (x : Int) (((y : Int) + -1) % g.h)).n, (atP g.w g.cs (((x : Int) + 1) % g.w) (y : Int)).w, (atP g.w g.cs (x : Int) (((y : Int) + 1) % g.h)).s⟩)]
  simp only
  rw [hx (·.e) (-1) (.inr rfl), hy (·.n) (-1) (.inr rfl), hx (·.w) 1 (.inl rfl), hy (·.s) 1 (.inl rfl)]
  unfold par2
  rw [← sum_sum, ← sum_sum, ← sum_sum]
  refine congrArg sumI (List.map_congr_left fun y _ => ?_)
  rw [← sum_sum, ← sum_sum, ← sum_sum]
  refine congrArg sumI (List.map_congr_left fun x _ => ?_)
  unfold Cel.m
  cases parQ (1 - p) (x : Int) (y : Int) <;> simp <;> omega
theorem par_aft (g : Grd) (r : Rul) (p : Int) : par2 g (aft r g.cs) p (·.m) = par2 g g.cs p (·.m) := by
  refine congrArg sumI (List.map_congr_left fun y hy => congrArg sumI (List.map_congr_left fun x hx => ?_))
  have e : (atP g.w (aft r g.cs) (x : Int) (y : Int)).m = (atP g.w g.cs (x : Int) (y : Int)).m := by
    unfold atP aft
    by_cases h : ((x : Int) + g.w * (y : Int)).toNat < g.cs.length
    · have : ((g.cs.map fun c => c.after r).getD ((x : Int) + g.w * (y : Int)).toNat default) = (g.cs.getD ((x : Int) + g.w * (y : Int)).toNat default).after r := by
        simp [List.getD_eq_getElem?_getD, List.getElem?_map, List.getElem?_eq_getElem h]
      rw [this]; exact (Cel.after_m r).1
    · rw [show (g.cs.map fun c => c.after r).getD ((x : Int) + g.w * (y : Int)).toNat default = default by simp [List.getD, List.getElem?_eq_none (show g.cs.length ≤ ((x : Int) + g.w * (y : Int)).toNat by omega)], show g.cs.getD ((x : Int) + g.w * (y : Int)).toNat default = default by simp [List.getD, List.getElem?_eq_none (show g.cs.length ≤ ((x : Int) + g.w * (y : Int)).toNat by omega)]]
  show (if parQ p (x : Int) (y : Int) = true then (atP g.w (aft r g.cs) (x : Int) (y : Int)).m else 0) = _
  rw [e]
theorem par_step {g : Grd} {l : List Rul} {t : Int} (h : runE g l t 1 = 0) (hw : g.w % 2 = 0) (hh : g.h % 2 = 0) : (runG g l t 1).err = 0 ∧ parV (runG g l t 1) 0 = parV g 1 ∧ parV (runG g l t 1) 1 = parV g 0 := by
  obtain ⟨h1, h2, h3⟩ := runE_zero h
  have ho := runG_ok h
  have hr := (rho_ok h2 h3.1.1 0).1
  have ha := gok_aft hr h1
  have e : runG g l t 1 = ⟨g.w, g.h, flow g.w g.h 1 (aft (rho l t 0) g.cs)⟩ := by rw [runG_eq h]; rfl
  have q : ∀ p : Int, p = 0 ∨ p = 1 → parV (runG g l t 1) p = parV g (1 - p) := fun p hp => by
    unfold parV
    rw [if_pos ho, if_pos h1, par_grid ho, par_grid h1, e]
    have f := par_flow ha hw hh hp
    exact f.trans (par_aft g (rho l t 0) (1 - p))
  exact ⟨(Grd.tell_t ho).1, q 0 (.inl rfl), q 1 (.inr rfl)⟩
/-- The ways of the law of crossings. -/
theorem crsW (g : Grd) (l : List Rul) (t : Int) : (decide (big8 g) = true ∧ True ∧ True ∧ True ∧ True) ∨ (decide (big8 g) = false ∧ g.err = 1 ∧ g.cs.length ≤ 1100 ∧ True ∧ True) ∨
    (decide (big8 g) = false ∧ g.err = 0 ∧ g.cs.length ≤ 1100 ∧ (g.w.tmod 2 = g.w % 2) ∧ (g.h.tmod 2 = g.h % 2) ∧ g.ok = true ∧ g.east = eastL g.cs ∧ g.north = northL g.cs ∧ (∀ k : Nat, (k : Int) < g.w → crossE g 0 (k : Int) = 0) ∧ (∀ k : Nat, (k : Int) < g.h → crossE g 1 (k : Int) = 0) ∧
      (∀ k : Nat, (k : Int) ≤ g.w → -5000000000000 * k ≤ crT g 0 k ∧ crT g 0 k ≤ 5000000000000 * k) ∧ (∀ k : Nat, (k : Int) ≤ g.h → -5000000000000 * k ≤ crT g 1 k ∧ crT g 1 k ≤ 5000000000000 * k) ∧ (∀ k : Nat, (k : Int) = g.w → crT g 0 k = eastL g.cs) ∧ (∀ k : Nat, (k : Int) = g.h → crT g 1 k = northL g.cs) ∧
      (-1000000000 ≤ eastL g.cs ∧ eastL g.cs ≤ 1000000000 ∧ -1000000000 ≤ northL g.cs ∧ northL g.cs ≤ 1000000000) ∧ (runE g l t 1 = 0 → g.w % 2 = 0 → g.h % 2 = 0 → (runG g l t 1).err = 0 ∧ parV (runG g l t 1) 0 = parV g 1 ∧ parV (runG g l t 1) 1 = parV g 0)) := by
  by_cases hb : big8 g
  · exact .inl ⟨decide_eq_true hb, trivial, trivial, trivial, trivial⟩
  · have hl : g.cs.length ≤ 1100 := by unfold big8 at hb; omega
    cases hg : g.ok
    · exact .inr (.inl ⟨decide_eq_false hb, (Grd.tell_f hg).1, hl, trivial, trivial⟩)
    · have ht := Grd.tell_t hg
      have hgb := gok_bds hg
      have hm := mom_bd (okL_iff.1 (gok_okL hg))
      have ha := crT_all hg
      refine .inr (.inr ⟨decide_eq_false hb, ht.1, hl, Int.tmod_eq_emod_of_nonneg (by omega), Int.tmod_eq_emod_of_nonneg (by omega), rfl, ht.2.2.1, ht.2.2.2, fun k hk => crossE_ok hg (.inl rfl) (by simp only [sideN, if_true]; omega), fun k hk => crossE_ok hg (.inr rfl) (by simp only [sideN, Int.one_ne_zero, if_false]; omega), fun k hk => crT_bd hg (.inl rfl) k (by simp only [sideN, if_true]; omega), fun k hk => crT_bd hg (.inr rfl) k (by simp only [sideN, Int.one_ne_zero, if_false]; omega), fun k hk => ?_, fun k hk => ?_, by omega, fun h hw hh => par_step h hw hh⟩)
      · rw [show k = g.w.toNat by omega]; exact ha.1
      · rw [show k = g.h.toNat by omega]; exact ha.2
/-! The reference's crossings, told for the walk. -/
def crsA (axis : Int) (c : Cel) : Int := if axis = 0 then c.e else c.n
def crsZ (axis : Int) (c : Cel) : Int := if axis = 0 then c.w else c.s
theorem crs_bd {g : Grd} (hg : g.ok = true) (axis : Int) (P : Nat → Bool) (k : Nat) : (0 ≤ selS P (crsA axis) g.cs k ∧ selS P (crsA axis) g.cs k ≤ 4000000000 * k) ∧ 0 ≤ selS P (crsZ axis) g.cs k ∧ selS P (crsZ axis) g.cs k ≤ 4000000000 * k := by
  refine ⟨selS_bd (fun i => ?_) k, selS_bd (fun i => ?_) k⟩ <;> (have h := okL_bd9 (gok_okL hg) i; unfold bd9 at h; first | unfold crsA | unfold crsZ) <;> split <;> omega
theorem k_div {g : Grd} (hg : g.ok = true) {k : Nat} (hk : k < g.cs.length) : (k : Int).tmod g.w = (k : Int) % g.w ∧ (k : Int).tdiv g.w = (k : Int) / g.w ∧ ((k : Int) % g.w + 1).tmod g.w = ((k : Int) % g.w + 1) % g.w ∧ ((k : Int) / g.w + 1).tmod g.h = ((k : Int) / g.w + 1) % g.h ∧ ((k : Int) % g.w + (k : Int) / g.w).tmod 2 = ((k : Int) % g.w + (k : Int) / g.w) % 2 ∧ (0 ≤ (k : Int) % g.w ∧ (k : Int) % g.w ≤ 63) ∧ 0 ≤ (k : Int) / g.w ∧ (k : Int) / g.w ≤ 63 := by
  have hc := col_in hg hk
  have hb := gok_bds hg
  exact ⟨Int.tmod_eq_emod_of_nonneg (by omega), Int.tdiv_eq_ediv_of_nonneg (by omega), Int.tmod_eq_emod_of_nonneg (by omega), Int.tmod_eq_emod_of_nonneg (by omega), Int.tmod_eq_emod_of_nonneg (by omega), by omega, by omega⟩
theorem cf0 {g : Grd} (hg : g.ok = true) {a : Int} {k : Nat} (hk : k < g.cs.length) : cfP g 0 a k = decide (((k : Int).tmod g.w + 1).tmod g.w = a) := by
  have h := k_div hg hk
  rw [h.1, h.2.2.1]; simp only [cfP, if_true]; rw [Bool.eq_iff_iff]; simp
theorem cb0 {g : Grd} (hg : g.ok = true) {a : Int} {k : Nat} (hk : k < g.cs.length) : cbP g 0 a k = decide ((k : Int).tmod g.w = a) := by
  have h := k_div hg hk
  rw [h.1]; simp only [cbP, if_true]; rw [Bool.eq_iff_iff]; simp
theorem cf1 {g : Grd} (hg : g.ok = true) {a : Int} {k : Nat} (hk : k < g.cs.length) : cfP g 1 a k = decide (((k : Int).tdiv g.w + 1).tmod g.h = a) := by
  have h := k_div hg hk
  rw [h.2.1, h.2.2.2.1]; simp only [cfP, Int.one_ne_zero, if_false]; rw [Bool.eq_iff_iff]; simp
theorem cb1 {g : Grd} (hg : g.ok = true) {a : Int} {k : Nat} (hk : k < g.cs.length) : cbP g 1 a k = decide ((k : Int).tdiv g.w = a) := by
  have h := k_div hg hk
  rw [h.2.1]; simp only [cbP, Int.one_ne_zero, if_false]; rw [Bool.eq_iff_iff]; simp
theorem pr0 {g : Grd} (hg : g.ok = true) {k : Nat} (hk : k < g.cs.length) : parP g.w 0 k = decide (((k : Int).tmod g.w + (k : Int).tdiv g.w).tmod 2 = 0) ∧ parP g.w 1 k = ! decide (((k : Int).tmod g.w + (k : Int).tdiv g.w).tmod 2 = 0) := by
  have h := k_div hg hk
  rw [h.1, h.2.1, h.2.2.2.2.1]
  unfold parP
  constructor
  · rw [Bool.eq_iff_iff]; simp
  · rw [Bool.eq_iff_iff]; simp; omega
theorem pe0 {g : Grd} (hg : g.ok = true) {k : Nat} (hk : k < g.cs.length) : parP g.w 0 k = decide (((k : Int) % g.w + (k : Int) / g.w).tmod 2 = 0) ∧ parP g.w 1 k = decide (((k : Int) % g.w + (k : Int) / g.w).tmod 2 = 1) := by
  have h := k_div hg hk
  rw [h.2.2.2.2.1]
  unfold parP
  constructor <;> (rw [Bool.eq_iff_iff]; simp)
theorem crx_ways (g : Grd) (axis a : Int) : (g.ok = false ∧ profE g axis = 1 ∧ crossE g axis a = 1 ∧ crossF g axis a = 0 ∧ crossB g axis a = 0 ∧ True ∧ True) ∨ (g.ok = true ∧ profE g axis = 7 ∧ crossE g axis a = 7 ∧ crossF g axis a = 0 ∧ crossB g axis a = 0 ∧ True ∧ True) ∨
    (g.ok = true ∧ profE g axis = 0 ∧ crossE g axis a = 7 ∧ crossF g axis a = 0 ∧ crossB g axis a = 0 ∧ axis = 0 ∧ ¬ (0 ≤ a ∧ a ≤ g.w - 1)) ∨ (g.ok = true ∧ profE g axis = 0 ∧ crossE g axis a = 7 ∧ crossF g axis a = 0 ∧ crossB g axis a = 0 ∧ axis = 1 ∧ ¬ (0 ≤ a ∧ a ≤ g.h - 1)) ∨
    (g.ok = true ∧ profE g axis = 0 ∧ crossE g axis a = 0 ∧ crossF g axis a = selS (cfP g axis a) (crsA axis) g.cs g.cs.length ∧ crossB g axis a = selS (cbP g axis a) (crsZ axis) g.cs g.cs.length ∧ axis = 0 ∧ 0 ≤ a ∧ a ≤ g.w - 1) ∨
    (g.ok = true ∧ profE g axis = 0 ∧ crossE g axis a = 0 ∧ crossF g axis a = selS (cfP g axis a) (crsA axis) g.cs g.cs.length ∧ crossB g axis a = selS (cbP g axis a) (crsZ axis) g.cs g.cs.length ∧ axis = 1 ∧ 0 ≤ a ∧ a ≤ g.h - 1) := by
  rcases cross_ways g axis a with ⟨hv, he, hf, hb, _⟩ | ⟨hv, he, hf, hb, hc⟩ | ⟨hv, he, hf, hb, hx, ha⟩ | ⟨hv, he, hf, hb, hx, ha⟩
  · exact .inl ⟨hv, by simp [profE, hv], he, hf, hb, trivial, trivial⟩
  · by_cases h0 : axis = 0
    · exact .inr (.inr (.inl ⟨hv, by simp [profE, hv, h0], he, hf, hb, h0, fun q => hc (.inl ⟨h0, q⟩)⟩))
    · by_cases h1 : axis = 1
      · exact .inr (.inr (.inr (.inl ⟨hv, by simp [profE, hv, h1], he, hf, hb, h1, fun q => hc (.inr ⟨h1, q⟩)⟩)))
      · exact .inr (.inl ⟨hv, by unfold profE; rw [hv, if_pos rfl, if_neg (by omega)], he, hf, hb, trivial, trivial⟩)
  · subst hx
    have hz := cross_sel0 hv ha
    exact .inr (.inr (.inr (.inr (.inl ⟨hv, by simp [profE, hv], he, hz.1, hz.2, rfl, ha⟩))))
  · subst hx
    have hz := cross_sel1 hv ha
    exact .inr (.inr (.inr (.inr (.inr ⟨hv, by simp [profE, hv], he, hz.1, hz.2, rfl, ha⟩))))
theorem rows_ways (g : Grd) : (g.ok = false ∧ g.err = 1 ∧ rowsL g = []) ∨ (g.ok = true ∧ g.err = 0 ∧ rowsL g = gridL (rowG g) (crnN g.w g.w) (crnN g.h 1)) := by
  unfold rowsL Grd.err
  cases g.ok
  · exact .inl ⟨rfl, rfl, rfl⟩
  · exact .inr ⟨rfl, rfl, rfl⟩
end Go.Sy

