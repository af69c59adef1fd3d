/- Blocks of a grid: their cells, sums, fractions in lowest terms. -/
import Derived.Test.YtfoacdhlfaonaaaSpStep
import Derived.Test.YtfoacdhlfaonaaaSpRun
import Derived.Test.YtfoacdhlfaonaaaSpKeep
set_option linter.unusedSimpArgs false
set_option linter.unusedVariables false
set_option linter.unusedSectionVars false
namespace Go.Sy
/-! ### The cells of a block, row by row -/
def atP (w : Int) (cs : List Cel) (x y : Int) : Cel := cs.getD (x + w * y).toNat default
def rowK (w : Int) (cs : List Cel) (ax y : Int) : Nat → List Cel
  | 0 => []
  | k + 1 => rowK w cs ax y k ++ [atP w cs (ax + k) y]
def blkK (w : Int) (cs : List Cel) (ax ay : Int) (n : Nat) : Nat → List Cel
  | 0 => []
  | k + 1 => blkK w cs ax ay n k ++ rowK w cs ax (ay + k) n
def blk (w : Int) (cs : List Cel) (a b : Pnt) : List Cel := blkK w cs a.x a.y (b.x - a.x + 1).toNat (b.y - a.y + 1).toNat
/-- All cells added up. -/
def sumC (l : List Cel) : Cel := ⟨sumP (·.e) l, sumP (·.n) l, sumP (·.w) l, sumP (·.s) l⟩
theorem sumI_app : ∀ (l m : List Int), sumI (l ++ m) = sumI l + sumI m
  | [], m => by simp [sumI]
  | x :: l, m => by simp only [List.cons_append, sumI, sumI_app l m]; omega
theorem sumP_app (f : Cel → Int) (l m : List Cel) : sumP f (l ++ m) = sumP f l + sumP f m := by unfold sumP; rw [List.map_append, sumI_app]
theorem sumC_app (l m : List Cel) : sumC (l ++ m) = (sumC l).add (sumC m) := by simp only [sumC, sumP_app, Cel.add]
theorem sumC_one (c : Cel) : sumC [c] = c := by simp [sumC, sumP, sumI]
theorem sumC_nil : sumC [] = ⟨0, 0, 0, 0⟩ := rfl
theorem sumC_snoc (l : List Cel) (c : Cel) : sumC (l ++ [c]) = ⟨(sumC l).e + c.e, (sumC l).n + c.n, (sumC l).w + c.w, (sumC l).s + c.s⟩ := by rw [sumC_app, sumC_one]; rfl
theorem sumC_m (l : List Cel) : (sumC l).m = massL l ∧ (sumC l).e - (sumC l).w = eastL l ∧ (sumC l).n - (sumC l).s = northL l := by
  have := sums_eq l
  simp only [sumC, Cel.m]
  omega
/-! Bounds. -/
def bd9 (c : Cel) : Prop := (0 ≤ c.e ∧ c.e ≤ 1000000000) ∧ (0 ≤ c.n ∧ c.n ≤ 1000000000) ∧ (0 ≤ c.w ∧ c.w ≤ 1000000000) ∧ 0 ≤ c.s ∧ c.s ≤ 1000000000
theorem okL_bd9 {cs : List Cel} (h : okL cs = true) (i : Nat) : bd9 (cs.getD i default) := by
  by_cases hi : i < cs.length
  · have := Cel.ok_iff.1 (okL_iff.1 h _ (getD_mem default hi))
    unfold bd9; omega
  · rw [show cs.getD i default = default by simp [List.getD, List.getElem?_eq_none (show cs.length ≤ i by omega)]]
    show bd9 ⟨0, 0, 0, 0⟩
    unfold bd9; simp
theorem row_bd {w : Int} {cs : List Cel} (h : okL cs = true) (ax y : Int) : ∀ k : Nat, (0 ≤ (sumC (rowK w cs ax y k)).e ∧ (sumC (rowK w cs ax y k)).e ≤ 1000000000 * k) ∧ (0 ≤ (sumC (rowK w cs ax y k)).n ∧ (sumC (rowK w cs ax y k)).n ≤ 1000000000 * k) ∧ (0 ≤ (sumC (rowK w cs ax y k)).w ∧ (sumC (rowK w cs ax y k)).w ≤ 1000000000 * k) ∧ 0 ≤ (sumC (rowK w cs ax y k)).s ∧ (sumC (rowK w cs ax y k)).s ≤ 1000000000 * k
  | 0 => by simp [rowK, sumC_nil]
  | k + 1 => by
    have ih := row_bd (w := w) h ax y k
    have hb := okL_bd9 h (ax + k + w * y).toNat
    rw [rowK, sumC_snoc]
    unfold bd9 at hb
    simp only [atP]
    omega
theorem blk_bd {w : Int} {cs : List Cel} (h : okL cs = true) (ax ay : Int) {n : Nat} (hn : n ≤ 64) : ∀ k : Nat, (0 ≤ (sumC (blkK w cs ax ay n k)).e ∧ (sumC (blkK w cs ax ay n k)).e ≤ 64000000000 * k) ∧ (0 ≤ (sumC (blkK w cs ax ay n k)).n ∧ (sumC (blkK w cs ax ay n k)).n ≤ 64000000000 * k) ∧ (0 ≤ (sumC (blkK w cs ax ay n k)).w ∧ (sumC (blkK w cs ax ay n k)).w ≤ 64000000000 * k) ∧ 0 ≤ (sumC (blkK w cs ax ay n k)).s ∧ (sumC (blkK w cs ax ay n k)).s ≤ 64000000000 * k
  | 0 => by simp [blkK, sumC_nil]
  | k + 1 => by
    have ih := blk_bd (w := w) h ax ay hn k
    have hr := row_bd (w := w) h ax (ay + k) n
    rw [blkK, sumC_app]
    simp only [Cel.add]
    omega
/-- The sum, under way: whole rows and a part of one. -/
def sumJ (w : Int) (cs : List Cel) (a : Pnt) (n j i : Nat) : Cel := (sumC (blkK w cs a.x a.y n j)).add (sumC (rowK w cs a.x (a.y + j) i))
theorem sumJ_bd {w : Int} {cs : List Cel} (h : okL cs = true) (a : Pnt) {n j i : Nat} (hn : n ≤ 64) (hj : j ≤ 64) (hi : i ≤ 64) : (0 ≤ (sumJ w cs a n j i).e ∧ (sumJ w cs a n j i).e ≤ 5000000000000) ∧ (0 ≤ (sumJ w cs a n j i).n ∧ (sumJ w cs a n j i).n ≤ 5000000000000) ∧ (0 ≤ (sumJ w cs a n j i).w ∧ (sumJ w cs a n j i).w ≤ 5000000000000) ∧ 0 ≤ (sumJ w cs a n j i).s ∧ (sumJ w cs a n j i).s ≤ 5000000000000 := by
  have h1 := blk_bd (w := w) h a.x a.y hn j
  have h2 := row_bd (w := w) h a.x (a.y + j) i
  simp only [sumJ, Cel.add]
  omega
theorem sumJ_zero (w : Int) (cs : List Cel) (a : Pnt) (n : Nat) : sumJ w cs a n 0 0 = ⟨0, 0, 0, 0⟩ := rfl
theorem sumJ_row (w : Int) (cs : List Cel) (a : Pnt) (n j : Nat) : sumJ w cs a n (j + 1) 0 = sumJ w cs a n j n := by
  simp only [sumJ, blkK, rowK, sumC_app, sumC_nil, Cel.add, Int.add_zero]
theorem sumJ_next (w : Int) (cs : List Cel) (a : Pnt) (n j i : Nat) : sumJ w cs a n j (i + 1) = (sumJ w cs a n j i).add (atP w cs (a.x + i) (a.y + j)) := by
  simp only [sumJ, rowK, sumC_snoc, Cel.add, Int.add_assoc]
theorem sumJ_end (w : Int) (cs : List Cel) {a b : Pnt} {j : Nat} (hj : j = (b.y - a.y + 1).toNat) : sumJ w cs a (b.x - a.x + 1).toNat j 0 = sumC (blk w cs a b) := by
  subst hj
  simp only [sumJ, blk, rowK, sumC_nil, Cel.add, Int.add_zero]
/-- Corners of a block on a grid. -/
def onB (g : Grd) (p : Pnt) : Prop := 0 ≤ p.x ∧ p.x ≤ g.w - 1 ∧ 0 ≤ p.y ∧ p.y ≤ g.h - 1
def blkOk (g : Grd) (a b : Pnt) : Prop := onB g a ∧ onB g b ∧ a.x ≤ b.x ∧ a.y ≤ b.y
instance (g : Grd) (p : Pnt) : Decidable (onB g p) := by unfold onB; infer_instance
instance (g : Grd) (a b : Pnt) : Decidable (blkOk g a b) := by unfold blkOk; infer_instance
def blkE (g : Grd) (a b : Pnt) : Int := if g.ok then (if blkOk g a b then 0 else 7) else 1
theorem blkE_ways (g : Grd) (a b : Pnt) : (g.ok = false ∧ blkE g a b = 1) ∨ (g.ok = true ∧ ¬ blkOk g a b ∧ blkE g a b = 7) ∨ (g.ok = true ∧ blkOk g a b ∧ blkE g a b = 0) := by
  unfold blkE
  cases hg : g.ok
  · exact .inl ⟨rfl, rfl⟩
  · by_cases hb : blkOk g a b
    · exact .inr (.inr ⟨rfl, hb, by simp [hb]⟩)
    · exact .inr (.inl ⟨rfl, hb, by simp [hb]⟩)
/-- A place within a grid has an index. -/
theorem idx_in {g : Grd} (hg : g.ok = true) {x y : Int} (hx : 0 ≤ x ∧ x ≤ g.w - 1) (hy : 0 ≤ y ∧ y ≤ g.h - 1) : 0 ≤ x + g.w * y ∧ x + g.w * y < g.cs.length ∧ 0 ≤ g.w * y ∧ g.w * y ≤ 4096 := by
  have hb := gok_bds hg
  have h1 : 0 ≤ g.w * y := Int.mul_nonneg (by omega) hy.1
  have h2 : g.w * y ≤ g.w * (g.h - 1) := Int.mul_le_mul_of_nonneg_left hy.2 (by omega)
  rw [Int.mul_sub, Int.mul_one] at h2
  refine ⟨by omega, by omega, h1, ?_⟩
  omega
theorem blk_bds {g : Grd} (hg : g.ok = true) {a b : Pnt} (hb : blkOk g a b) : (0 ≤ (sumC (blk g.w g.cs a b)).e ∧ (sumC (blk g.w g.cs a b)).e ≤ 5000000000000) ∧ (0 ≤ (sumC (blk g.w g.cs a b)).n ∧ (sumC (blk g.w g.cs a b)).n ≤ 5000000000000) ∧ (0 ≤ (sumC (blk g.w g.cs a b)).w ∧ (sumC (blk g.w g.cs a b)).w ≤ 5000000000000) ∧ 0 ≤ (sumC (blk g.w g.cs a b)).s ∧ (sumC (blk g.w g.cs a b)).s ≤ 5000000000000 := by
  have h := gok_bds hg
  obtain ⟨h1, h2, h3, h4⟩ := hb
  unfold onB at h1 h2
  rw [← sumJ_end g.w g.cs (a := a) (b := b) rfl]
  exact sumJ_bd (gok_okL hg) a (by omega) (by omega) (by omega)
/-- The direction with most particles, the first one of them. -/
def bestD (c : Cel) : Int := if c.e < c.n then (if c.n < c.w then (if c.w < c.s then 3 else 2) else (if c.n < c.s then 3 else 1)) else (if c.e < c.w then (if c.w < c.s then 3 else 2) else (if c.e < c.s then 3 else 0))
def someC (c : Cel) : Bool := decide (0 < c.e ∨ 0 < c.n ∨ 0 < c.w ∨ 0 < c.s)
theorem best_3 {c : Cel} (h1 : c.e < c.s) (h2 : c.n < c.s) (h3 : c.w < c.s) : bestD c = 3 := by
  unfold bestD; (repeat' split) <;> omega
theorem best_2 {c : Cel} (h1 : c.e < c.w) (h2 : c.n < c.w) (h3 : ¬ c.w < c.s) : bestD c = 2 := by
  unfold bestD; (repeat' split) <;> omega
theorem best_1 {c : Cel} (h1 : c.e < c.n) (h2 : ¬ c.n < c.w) (h3 : ¬ c.n < c.s) : bestD c = 1 := by
  unfold bestD; (repeat' split) <;> omega
theorem best_0 {c : Cel} (h1 : ¬ c.e < c.n) (h2 : ¬ c.e < c.w) (h3 : ¬ c.e < c.s) : bestD c = 0 := by
  unfold bestD; (repeat' split) <;> omega
theorem some_iff {c : Cel} {x : Int} (h : ((0 < c.e ∨ 0 < c.n ∨ 0 < c.w ∨ 0 < c.s) ↔ 0 < x)) : decide (0 < x) = someC c := by unfold someC; exact decide_eq_decide.2 h.symm
theorem blkE_one (g : Grd) (p : Pnt) : (g.ok = false ∧ blkE g p p = 1) ∨ (g.ok = true ∧ ¬ onB g p ∧ blkE g p p = 7) ∨ (g.ok = true ∧ onB g p ∧ blkE g p p = 0) := by
  rcases blkE_ways g p p with h | h | h
  · exact .inl h
  · exact .inr (.inl ⟨h.1, fun q => h.2.1 ⟨q, q, Int.le_refl _, Int.le_refl _⟩, h.2.2⟩)
  · exact .inr (.inr ⟨h.1, h.2.1.1, h.2.2⟩)
/-- Parts that are far from the end of all numbers. -/
def cbd (c : Cel) : Prop := (-9000000000000 ≤ c.e ∧ c.e ≤ 9000000000000) ∧ (-9000000000000 ≤ c.n ∧ c.n ≤ 9000000000000) ∧ (-9000000000000 ≤ c.w ∧ c.w ≤ 9000000000000) ∧ -9000000000000 ≤ c.s ∧ c.s ≤ 9000000000000
/-! ### Fractions in lowest terms -/
def ratP (n d : Int) : Rat2 := ⟨n.tdiv (Nat.gcd n.natAbs d.toNat : Nat), d.tdiv (Nat.gcd n.natAbs d.toNat : Nat)⟩
theorem gcd_step (a b : Nat) (hb : 0 < b) : Nat.gcd b (a % b) = Nat.gcd a b := by rw [Nat.gcd_comm a b, Nat.gcd_rec b a, Nat.gcd_comm]
theorem gcd_pos {n d : Int} (hd : 0 < d) : 0 < Nat.gcd n.natAbs d.toNat := Nat.gcd_pos_of_pos_right _ (by omega)
theorem tdiv_bd (n : Int) (p : Nat) : -(n.natAbs : Int) ≤ n.tdiv p ∧ n.tdiv p ≤ n.natAbs := by
  have := Int.natAbs_tdiv_le_natAbs n p
  omega
theorem rat_den {p : Nat} {n d : Int} (hp : p = Nat.gcd n.natAbs d.toNat) (hd : 0 < d) : (p : Int) ≠ 0 := by
  have := gcd_pos (n := n) hd
  omega
/-! ### Lists told row by row -/
end Go.Sy

/- Profiles, crossings; what a line gains when a grid streams. -/
set_option linter.unusedSimpArgs false
set_option linter.unusedVariables false
set_option linter.unusedSectionVars false
namespace Go.Sy
/-! Crossings. -/
def crossOk (g : Grd) (axis at_ : Int) : Prop := (axis = 0 ∧ 0 ≤ at_ ∧ at_ ≤ g.w - 1) ∨ (axis = 1 ∧ 0 ≤ at_ ∧ at_ ≤ g.h - 1)
instance (g : Grd) (axis at_ : Int) : Decidable (crossOk g axis at_) := by unfold crossOk; infer_instance
end Go.Sy

/- What crosses the lines of a grid that streams: the law's facts. -/
set_option linter.unusedSimpArgs false
set_option linter.unusedVariables false
set_option linter.unusedSectionVars false
namespace Go.Sy
/-! ### The whole grid as a block -/
theorem rowK_take (w : Int) (cs : List Cel) (hw : 0 ≤ w) (y : Nat) : ∀ k : Nat, w.toNat * y + k ≤ cs.length → rowK w cs 0 (y : Int) k = (cs.drop (w.toNat * y)).take k
  | 0, _ => rfl
  | k + 1, h => by
    have e : ((0 : Int) + (k : Int) + w * (y : Int)).toNat = w.toNat * y + k := by
      have : w * (y : Int) = ((w.toNat * y : Nat) : Int) := by rw [Int.natCast_mul, Int.toNat_of_nonneg hw]
      omega
    rw [rowK, rowK_take w cs hw y k (by omega), take_snoc _ default (by simp; omega)]
    unfold atP
    rw [e]
    simp [List.getD_eq_getElem?_getD, List.getElem?_drop]
theorem blkK_take (w : Int) (cs : List Cel) (hw : 0 ≤ w) : ∀ k : Nat, w.toNat * k ≤ cs.length → blkK w cs 0 0 w.toNat k = cs.take (w.toNat * k)
  | 0, _ => by simp [blkK]
  | k + 1, h => by
    rw [Nat.mul_succ] at h
    rw [blkK, blkK_take w cs hw k (by omega), show (0 : Int) + (k : Int) = (k : Int) by omega, rowK_take w cs hw k w.toNat (by omega), Nat.mul_succ, List.take_add]
theorem blk_all {g : Grd} (hg : g.ok = true) : blk g.w g.cs ⟨0, 0⟩ ⟨g.w - 1, g.h - 1⟩ = g.cs ∧ blkOk g ⟨0, 0⟩ ⟨g.w - 1, g.h - 1⟩ := by
  have hb := gok_bds hg
  have e1 : (g.w - 1 - 0 + 1).toNat = g.w.toNat := by omega
  have e2 : (g.h - 1 - 0 + 1).toNat = g.h.toNat := by omega
  have e3 : g.w.toNat * g.h.toNat = g.cs.length := by
    have : ((g.w.toNat * g.h.toNat : Nat) : Int) = g.w * g.h := by rw [Int.natCast_mul, Int.toNat_of_nonneg (by omega), Int.toNat_of_nonneg (by omega)]
    omega
  refine ⟨?_, ?_⟩
  · unfold blk
    simp only [e1, e2]
    rw [blkK_take g.w g.cs (by omega) _ (by omega), e3, List.take_length]
  · unfold blkOk onB; simp only; omega
end Go.Sy

/- Loops round blocks, paths. -/
set_option linter.unusedSimpArgs false
set_option linter.unusedVariables false
set_option linter.unusedSectionVars false
namespace Go.Sy
/-! ### Circulation -/
def circ (g : Grd) (a d : Pnt) : Int := ((sumC (blk g.w g.cs a ⟨d.x, a.y⟩)).e - (sumC (blk g.w g.cs a ⟨d.x, a.y⟩)).w) + ((sumC (blk g.w g.cs ⟨d.x, a.y⟩ d)).n - (sumC (blk g.w g.cs ⟨d.x, a.y⟩ d)).s) - ((sumC (blk g.w g.cs ⟨a.x, d.y⟩ d)).e - (sumC (blk g.w g.cs ⟨a.x, d.y⟩ d)).w) - ((sumC (blk g.w g.cs a ⟨a.x, d.y⟩)).n - (sumC (blk g.w g.cs a ⟨a.x, d.y⟩)).s)
def circR (g : Grd) (a d : Pnt) : Int := if blkE g a d = 0 then circ g a d else 0
theorem circ_oks {g : Grd} {a d : Pnt} (hb : blkOk g a d) : blkOk g a ⟨d.x, a.y⟩ ∧ blkOk g ⟨a.x, d.y⟩ d ∧ blkOk g a ⟨a.x, d.y⟩ ∧ blkOk g ⟨d.x, a.y⟩ d := by
  unfold blkOk onB at *; simp only; omega
theorem circ_ways (g : Grd) (a d : Pnt) : (g.ok = false ∧ blkE g a d = 1 ∧ circR g a d = 0 ∧ True) ∨ (g.ok = true ∧ blkE g a d = 7 ∧ circR g a d = 0 ∧ ¬ blkOk g a d) ∨ (g.ok = true ∧ blkE g a d = 0 ∧ circR g a d = circ g a d ∧ blkOk g a d) := by
  rcases blkE_ways g a d with ⟨h1, h2⟩ | ⟨h1, h2, h3⟩ | ⟨h1, h2, h3⟩
  · exact .inl ⟨h1, h2, by simp [circR, h2], trivial⟩
  · exact .inr (.inl ⟨h1, h3, by simp [circR, h3], h2⟩)
  · exact .inr (.inr ⟨h1, h3, by simp [circR, h3], h2⟩)
theorem circ_bd {g : Grd} (hg : g.ok = true) {a d : Pnt} (hb : blkOk g a d) : -40000000000000 ≤ circ g a d ∧ circ g a d ≤ 40000000000000 := by
  obtain ⟨h1, h2, h3, h4⟩ := circ_oks hb
  have b1 := blk_bds hg h1
  have b2 := blk_bds hg h2
  have b3 := blk_bds hg h3
  have b4 := blk_bds hg h4
  unfold circ
  omega
/-! Parts of lines. -/
/-! ### Lists of points -/
theorem Pnt.ext2 {a b : Pnt} (h : a.x = b.x ∧ a.y = b.y) : a = b := by
  obtain ⟨a1, a2⟩ := a
  obtain ⟨b1, b2⟩ := b
  simp only at h
  obtain ⟨rfl, rfl⟩ := h
  rfl
theorem Pnt.ne2 {a b : Pnt} (h : a.x ≠ b.x ∨ a.y ≠ b.y) : ¬ a = b := by
  rintro rfl
  simp at h
theorem samp_f1 {α : Type} [DecidableEq α] {a b : List α} (h : a.length ≠ b.length) : decide (a = b) = false := decide_eq_false fun e => h (by rw [e])
theorem samp_t {α : Type} [DecidableEq α] {a b : List α} {k : Nat} (hl : a.length = b.length) (h : a.take k = b.take k) (hk : a.length ≤ k) : decide (a = b) = true := by
  rw [List.take_of_length_le hk, List.take_of_length_le (by omega)] at h; simpa using h
theorem samp_f2 {a b : List Pnt} {k : Nat} (ha : k < a.length) (hb : k < b.length) (h : ¬ (a.getD k default = b.getD k default)) : decide (a = b) = false := decide_eq_false fun e => h (by rw [e])
theorem samp_next {a b : List Pnt} {k : Nat} (ha : k < a.length) (hb : k < b.length) (h : a.take k = b.take k) (he : a.getD k default = b.getD k default) : a.take (k + 1) = b.take (k + 1) := by
  rw [take_snoc a default ha, take_snoc b default hb, h, he]
/-! ### The next cell of a path -/
def mvx8 (d : Int) : Int := if d = 0 then 1 else if d = 2 then -1 else 0
def mvy8 (d : Int) : Int := if d = 1 then 1 else if d = 3 then -1 else 0
/-- The cell to which the main way of a cell leads. -/
def nextK (g : Grd) (k : Int) : Int := (k % g.w + mvx8 (bestD (g.cs.getD k.toNat default))) % g.w + g.w * ((k / g.w + mvy8 (bestD (g.cs.getD k.toNat default))) % g.h)
def nextV (g : Grd) (k : Int) : Int := if someC (g.cs.getD k.toNat default) then nextK g k else 0
theorem best_bd (c : Cel) : 0 ≤ bestD c ∧ bestD c ≤ 3 := by
  unfold bestD; (repeat' split) <;> omega
theorem next_bd {g : Grd} (hg : g.ok = true) {k : Int} (h0 : 0 ≤ k) (h1 : k < g.cs.length) : (0 ≤ k % g.w ∧ k % g.w < g.w) ∧ (0 ≤ k / g.w ∧ k / g.w < g.h) ∧ (∀ x : Int, -1 ≤ x → x ≤ 1 → (k % g.w + x + g.w).tmod g.w = (k % g.w + x) % g.w ∧ 0 ≤ (k % g.w + x) % g.w ∧ (k % g.w + x) % g.w ≤ g.w - 1) ∧ (∀ y : Int, -1 ≤ y → y ≤ 1 → (k / g.w + y + g.h).tmod g.h = (k / g.w + y) % g.h ∧ 0 ≤ (k / g.w + y) % g.h ∧ (k / g.w + y) % g.h ≤ g.h - 1) := by
  have hb := gok_bds hg
  have m1 := Int.emod_nonneg k (show g.w ≠ 0 by omega)
  have m2 := Int.emod_lt_of_pos k (show 0 < g.w by omega)
  have d1 : 0 ≤ k / g.w := Int.ediv_nonneg h0 (by omega)
  have d2 : k / g.w < g.h := Int.ediv_lt_of_lt_mul (by omega) (by rw [Int.mul_comm]; omega)
  refine ⟨⟨m1, m2⟩, ⟨d1, d2⟩, fun x hx1 hx2 => ?_, fun y hy1 hy2 => ?_⟩
  · have q1 := Int.emod_nonneg (k % g.w + x) (show g.w ≠ 0 by omega)
    have q2 := Int.emod_lt_of_pos (k % g.w + x) (show 0 < g.w by omega)
    refine ⟨?_, q1, by omega⟩
    rw [Int.tmod_eq_emod_of_nonneg (by omega), Int.add_emod_right]
  · have q1 := Int.emod_nonneg (k / g.w + y) (show g.h ≠ 0 by omega)
    have q2 := Int.emod_lt_of_pos (k / g.w + y) (show 0 < g.h by omega)
    refine ⟨?_, q1, by omega⟩
    rw [Int.tmod_eq_emod_of_nonneg (by omega), Int.add_emod_right]
theorem nextV_ff {g : Grd} {k : Int} (h : someC (g.cs.getD k.toNat default) = false) : nextV g k = 0 := by unfold nextV; rw [h]; rfl
theorem nextV_tt {g : Grd} {k : Int} (h : someC (g.cs.getD k.toNat default) = true) : nextV g k = nextK g k := by unfold nextV; rw [h]; rfl
theorem nextK_0 {g : Grd} {k : Int} (h : bestD (g.cs.getD k.toNat default) = 0) : nextK g k = (k % g.w + 1) % g.w + g.w * ((k / g.w + 0) % g.h) := by unfold nextK; rw [h]; rfl
theorem nextK_1 {g : Grd} {k : Int} (h : bestD (g.cs.getD k.toNat default) = 1) : nextK g k = (k % g.w + 0) % g.w + g.w * ((k / g.w + 1) % g.h) := by unfold nextK; rw [h]; rfl
theorem nextK_2 {g : Grd} {k : Int} (h : bestD (g.cs.getD k.toNat default) = 2) : nextK g k = (k % g.w + -1) % g.w + g.w * ((k / g.w + 0) % g.h) := by unfold nextK; rw [h]; rfl
theorem nextK_3 {g : Grd} {k : Int} (h : bestD (g.cs.getD k.toNat default) = 3) : nextK g k = (k % g.w + 0) % g.w + g.w * ((k / g.w + -1) % g.h) := by unfold nextK; rw [h]; rfl
theorem wmul_bd {g : Grd} (hg : g.ok = true) {t : Int} (h0 : 0 ≤ t) (h1 : t ≤ g.h - 1) : 0 ≤ g.w * t ∧ g.w * t ≤ 4096 := by
  have hb := gok_bds hg
  have m1 : g.w * t ≤ 64 * t := Int.mul_le_mul_of_nonneg_right (by omega) h0
  exact ⟨Int.mul_nonneg (by omega) h0, by omega⟩
/-! ### The grid that is looked at first -/
abbrev GA8 : Grd := ⟨2, 2, [⟨1, 0, 0, 0⟩, ⟨0, 1, 0, 0⟩, ⟨0, 0, 0, 0⟩, ⟨0, 0, 0, 0⟩]⟩
theorem ga_1 : circR GA8 ⟨0, 0⟩ ⟨1, 1⟩ = 2 := by decide
theorem ga_2 : blkE GA8 ⟨0, 0⟩ ⟨1, 1⟩ = 0 := by decide
theorem ga_3 : blkE GA8 ⟨0, 0⟩ ⟨0, 0⟩ = 0 := by decide
theorem ga_v : GA8.ok = true := by decide
theorem ga_n0 : nextV GA8 0 = 1 := by decide
theorem ga_n1 : nextV GA8 1 = 3 := by decide
/-! ### Blocks that are joined -/
def big8 (g : Grd) : Prop := 100 < g.cs.length ∧ g.cs.length ≤ 1024 ∨ 1100 < g.cs.length
instance (g : Grd) : Decidable (big8 g) := by unfold big8; exact inferInstance
end Go.Sy

/- Joined blocks: the ways, told for the walk. -/
namespace Go.Sy
end Go.Sy

/- Cells of a block told one by one; the place of the greatest value; grids whose cells are alike. -/
set_option linter.unusedSimpArgs false
set_option linter.unusedVariables false
set_option linter.unusedSectionVars false
namespace Go.Sy
/-! ### Cells of a block, under way -/
theorem sum_end {l : List Cel} {k : Nat} (hk : l.length ≤ k) : l.take k = l := List.take_of_length_le hk
/-! ### Sides -/
/-! ### The first place with the greatest value -/
structure Bst where
  met : Bool
  x : Nat
  y : Nat
/-! Vortices. -/
/-! ### Grids whose cells are alike -/
/-! The ways of the law of loops. -/
end Go.Sy

/- Means of blocks, densest blocks, tables. -/
set_option linter.unusedSimpArgs false
set_option linter.unusedVariables false
set_option linter.unusedSectionVars false
namespace Go.Sy
/-! ### Cells, velocities -/
/-! ### The densest block -/
/-! ### Tables -/
/-! Profiles are tables; they add up to the mass. -/
/-! Remainders, lists of numbers. -/
/-! The ways of the law of means. -/
end Go.Sy

/- Crossings told cell by cell, rows, parities; what crosses all lines, what a step does to parities. -/
set_option linter.unusedSimpArgs false
set_option linter.unusedVariables false
set_option linter.unusedSectionVars false
namespace Go.Sy
/-! ### Cells that are picked out -/
/-! ### Rows -/
/-! ### Parities -/
/-! A step changes parities. -/
/-! The reference's crossings, told for the walk. -/
end Go.Sy
