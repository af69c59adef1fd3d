/- Blocks of a grid: their cells, sums, fractions in lowest terms. -/
import Derived.Test.YtkaebgfhbgicfaaSpStep
import Derived.Test.YtkaebgfhbgicfaaSpRun
import Derived.Test.YtkaebgfhbgicfaaSpKeep
set_option linter.unusedSimpArgs false
set_option linter.unusedVariables false
set_option linter.unusedSectionVars false
namespace Go.Sy
/-! ### The cells of a block, row by row -/
def atP (w : Int) (cs : List Cel) (x y : Int) : Cel := cs.getD (x + w * y).toNat default
def rowK (w : Int) (cs : List Cel) (ax y : Int) : Nat → List Cel
  | 0 => []
  | k + 1 => rowK w cs ax y k ++ [atP w cs (ax + k) y]
def blkK (w : Int) (cs : List Cel) (ax ay : Int) (n : Nat) : Nat → List Cel
  | 0 => []
  | k + 1 => blkK w cs ax ay n k ++ rowK w cs ax (ay + k) n
def blk (w : Int) (cs : List Cel) (a b : Pnt) : List Cel := blkK w cs a.x a.y (b.x - a.x + 1).toNat (b.y - a.y + 1).toNat
/-- All cells added up. -/
def sumC (l : List Cel) : Cel := ⟨sumP (·.e) l, sumP (·.n) l, sumP (·.w) l, sumP (·.s) l⟩
theorem sumI_app : ∀ (l m : List Int), sumI (l ++ m) = sumI l + sumI m
  | [], m => by simp [sumI]
  | x :: l, m => by simp only [List.cons_append, sumI, sumI_app l m]; omega
theorem sumP_app (f : Cel → Int) (l m : List Cel) : sumP f (l ++ m) = sumP f l + sumP f m := by unfold sumP; rw [List.map_append, sumI_app]
theorem sumC_app (l m : List Cel) : sumC (l ++ m) = (sumC l).add (sumC m) := by simp only [sumC, sumP_app, Cel.add]
theorem sumC_one (c : Cel) : sumC [c] = c := by simp [sumC, sumP, sumI]
theorem sumC_nil : sumC [] = ⟨0, 0, 0, 0⟩ := rfl
theorem sumC_snoc (l : List Cel) (c : Cel) : sumC (l ++ [c]) = ⟨(sumC l).e + c.e, (sumC l).n + c.n, (sumC l).w + c.w, (sumC l).s + c.s⟩ := by rw [sumC_app, sumC_one]; rfl
theorem sumC_m (l : List Cel) : (sumC l).m = massL l ∧ (sumC l).e - (sumC l).w = eastL l ∧ (sumC l).n - (sumC l).s = northL l := by
  have := sums_eq l
  simp only [sumC, Cel.m]
  omega
theorem rowK_length (w : Int) (cs : List Cel) (ax y : Int) : ∀ k, (rowK w cs ax y k).length = k
  | 0 => rfl
  | k + 1 => by rw [rowK, List.length_append, rowK_length w cs ax y k]; rfl
theorem blkK_length (w : Int) (cs : List Cel) (ax ay : Int) (n : Nat) : ∀ k, (blkK w cs ax ay n k).length = k * n
  | 0 => by simp [blkK]
  | k + 1 => by rw [blkK, List.length_append, blkK_length w cs ax ay n k, rowK_length, Nat.succ_mul]
/-! Bounds. -/
def bd9 (c : Cel) : Prop := (0 ≤ c.e ∧ c.e ≤ 1000000000) ∧ (0 ≤ c.n ∧ c.n ≤ 1000000000) ∧ (0 ≤ c.w ∧ c.w ≤ 1000000000) ∧ 0 ≤ c.s ∧ c.s ≤ 1000000000
theorem okL_bd9 {cs : List Cel} (h : okL cs = true) (i : Nat) : bd9 (cs.getD i default) := by
  by_cases hi : i < cs.length
  · have := Cel.ok_iff.1 (okL_iff.1 h _ (getD_mem default hi))
    unfold bd9; omega
  · rw [show cs.getD i default = default by simp [List.getD, List.getElem?_eq_none (show cs.length ≤ i by omega)]]
    show bd9 ⟨0, 0, 0, 0⟩
    unfold bd9; simp
theorem row_bd {w : Int} {cs : List Cel} (h : okL cs = true) (ax y : Int) : ∀ k : Nat, (0 ≤ (sumC (rowK w cs ax y k)).e ∧ (sumC (rowK w cs ax y k)).e ≤ 1000000000 * k) ∧ (0 ≤ (sumC (rowK w cs ax y k)).n ∧ (sumC (rowK w cs ax y k)).n ≤ 1000000000 * k) ∧ (0 ≤ (sumC (rowK w cs ax y k)).w ∧ (sumC (rowK w cs ax y k)).w ≤ 1000000000 * k) ∧ 0 ≤ (sumC (rowK w cs ax y k)).s ∧ (sumC (rowK w cs ax y k)).s ≤ 1000000000 * k
  | 0 => by simp [rowK, sumC_nil]
  | k + 1 => by
    have ih := row_bd (w := w) h ax y k
    have hb := okL_bd9 h (ax + k + w * y).toNat
    rw [rowK, sumC_snoc]
    unfold bd9 at hb
    simp only [atP]
    omega
theorem blk_bd {w : Int} {cs : List Cel} (h : okL cs = true) (ax ay : Int) {n : Nat} (hn : n ≤ 64) : ∀ k : Nat, (0 ≤ (sumC (blkK w cs ax ay n k)).e ∧ (sumC (blkK w cs ax ay n k)).e ≤ 64000000000 * k) ∧ (0 ≤ (sumC (blkK w cs ax ay n k)).n ∧ (sumC (blkK w cs ax ay n k)).n ≤ 64000000000 * k) ∧ (0 ≤ (sumC (blkK w cs ax ay n k)).w ∧ (sumC (blkK w cs ax ay n k)).w ≤ 64000000000 * k) ∧ 0 ≤ (sumC (blkK w cs ax ay n k)).s ∧ (sumC (blkK w cs ax ay n k)).s ≤ 64000000000 * k
  | 0 => by simp [blkK, sumC_nil]
  | k + 1 => by
    have ih := blk_bd (w := w) h ax ay hn k
    have hr := row_bd (w := w) h ax (ay + k) n
    rw [blkK, sumC_app]
    simp only [Cel.add]
    omega
/-- The sum, under way: whole rows and a part of one. -/
def sumJ (w : Int) (cs : List Cel) (a : Pnt) (n j i : Nat) : Cel := (sumC (blkK w cs a.x a.y n j)).add (sumC (rowK w cs a.x (a.y + j) i))
theorem sumJ_bd {w : Int} {cs : List Cel} (h : okL cs = true) (a : Pnt) {n j i : Nat} (hn : n ≤ 64) (hj : j ≤ 64) (hi : i ≤ 64) : (0 ≤ (sumJ w cs a n j i).e ∧ (sumJ w cs a n j i).e ≤ 5000000000000) ∧ (0 ≤ (sumJ w cs a n j i).n ∧ (sumJ w cs a n j i).n ≤ 5000000000000) ∧ (0 ≤ (sumJ w cs a n j i).w ∧ (sumJ w cs a n j i).w ≤ 5000000000000) ∧ 0 ≤ (sumJ w cs a n j i).s ∧ (sumJ w cs a n j i).s ≤ 5000000000000 := by
  have h1 := blk_bd (w := w) h a.x a.y hn j
  have h2 := row_bd (w := w) h a.x (a.y + j) i
  simp only [sumJ, Cel.add]
  omega
theorem sumJ_zero (w : Int) (cs : List Cel) (a : Pnt) (n : Nat) : sumJ w cs a n 0 0 = ⟨0, 0, 0, 0⟩ := rfl
theorem sumJ_row (w : Int) (cs : List Cel) (a : Pnt) (n j : Nat) : sumJ w cs a n (j + 1) 0 = sumJ w cs a n j n := by
  simp only [sumJ, blkK, rowK, sumC_app, sumC_nil, Cel.add, Int.add_zero]
theorem sumJ_next (w : Int) (cs : List Cel) (a : Pnt) (n j i : Nat) : sumJ w cs a n j (i + 1) = (sumJ w cs a n j i).add (atP w cs (a.x + i) (a.y + j)) := by
  simp only [sumJ, rowK, sumC_snoc, Cel.add, Int.add_assoc]
theorem sumJ_end (w : Int) (cs : List Cel) {a b : Pnt} {j : Nat} (hj : j = (b.y - a.y + 1).toNat) : sumJ w cs a (b.x - a.x + 1).toNat j 0 = sumC (blk w cs a b) := by
  subst hj
  simp only [sumJ, blk, rowK, sumC_nil, Cel.add, Int.add_zero]
/-- Corners of a block on a grid. -/
def onB (g : Grd) (p : Pnt) : Prop := 0 ≤ p.x ∧ p.x ≤ g.w - 1 ∧ 0 ≤ p.y ∧ p.y ≤ g.h - 1
def blkOk (g : Grd) (a b : Pnt) : Prop := onB g a ∧ onB g b ∧ a.x ≤ b.x ∧ a.y ≤ b.y
instance (g : Grd) (p : Pnt) : Decidable (onB g p) := by unfold onB; infer_instance
instance (g : Grd) (a b : Pnt) : Decidable (blkOk g a b) := by unfold blkOk; infer_instance
def blkE (g : Grd) (a b : Pnt) : Int := if g.ok then (if blkOk g a b then 0 else 7) else 1
theorem blkE_ways (g : Grd) (a b : Pnt) : (g.ok = false ∧ blkE g a b = 1) ∨ (g.ok = true ∧ ¬ blkOk g a b ∧ blkE g a b = 7) ∨ (g.ok = true ∧ blkOk g a b ∧ blkE g a b = 0) := by
  unfold blkE
  cases hg : g.ok
  · exact .inl ⟨rfl, rfl⟩
  · by_cases hb : blkOk g a b
    · exact .inr (.inr ⟨rfl, hb, by simp [hb]⟩)
    · exact .inr (.inl ⟨rfl, hb, by simp [hb]⟩)
/-- A place within a grid has an index. -/
theorem idx_in {g : Grd} (hg : g.ok = true) {x y : Int} (hx : 0 ≤ x ∧ x ≤ g.w - 1) (hy : 0 ≤ y ∧ y ≤ g.h - 1) : 0 ≤ x + g.w * y ∧ x + g.w * y < g.cs.length ∧ 0 ≤ g.w * y ∧ g.w * y ≤ 4096 := by
  have hb := gok_bds hg
  have h1 : 0 ≤ g.w * y := Int.mul_nonneg (by omega) hy.1
  have h2 : g.w * y ≤ g.w * (g.h - 1) := Int.mul_le_mul_of_nonneg_left hy.2 (by omega)
  rw [Int.mul_sub, Int.mul_one] at h2
  refine ⟨by omega, by omega, h1, ?_⟩
  omega
theorem blk_bds {g : Grd} (hg : g.ok = true) {a b : Pnt} (hb : blkOk g a b) : (0 ≤ (sumC (blk g.w g.cs a b)).e ∧ (sumC (blk g.w g.cs a b)).e ≤ 5000000000000) ∧ (0 ≤ (sumC (blk g.w g.cs a b)).n ∧ (sumC (blk g.w g.cs a b)).n ≤ 5000000000000) ∧ (0 ≤ (sumC (blk g.w g.cs a b)).w ∧ (sumC (blk g.w g.cs a b)).w ≤ 5000000000000) ∧ 0 ≤ (sumC (blk g.w g.cs a b)).s ∧ (sumC (blk g.w g.cs a b)).s ≤ 5000000000000 := by
  have h := gok_bds hg
  obtain ⟨h1, h2, h3, h4⟩ := hb
  unfold onB at h1 h2
  rw [← sumJ_end g.w g.cs (a := a) (b := b) rfl]
  exact sumJ_bd (gok_okL hg) a (by omega) (by omega) (by omega)
theorem blk_len {g : Grd} (hg : g.ok = true) {a b : Pnt} (hb : blkOk g a b) : ((blk g.w g.cs a b).length : Int) = (b.x - a.x + 1) * (b.y - a.y + 1) ∧ 1 ≤ (b.x - a.x + 1) * (b.y - a.y + 1) ∧ (b.x - a.x + 1) * (b.y - a.y + 1) ≤ 4096 := by
  have h := gok_bds hg
  obtain ⟨h1, h2, h3, h4⟩ := hb
  unfold onB at h1 h2
  have hm := mul_bd (a := b.x - a.x + 1) (b := b.y - a.y + 1) (by omega) (by omega) (by omega) (by omega)
  refine ⟨?_, hm.1, hm.2⟩
  unfold blk
  rw [blkK_length, Int.natCast_mul, Int.toNat_of_nonneg (by omega), Int.toNat_of_nonneg (by omega), Int.mul_comm]
/-- The direction with most particles, the first one of them. -/
def bestD (c : Cel) : Int := if c.e < c.n then (if c.n < c.w then (if c.w < c.s then 3 else 2) else (if c.n < c.s then 3 else 1)) else (if c.e < c.w then (if c.w < c.s then 3 else 2) else (if c.e < c.s then 3 else 0))
def someC (c : Cel) : Bool := decide (0 < c.e ∨ 0 < c.n ∨ 0 < c.w ∨ 0 < c.s)
theorem best_3 {c : Cel} (h1 : c.e < c.s) (h2 : c.n < c.s) (h3 : c.w < c.s) : bestD c = 3 := by
  unfold bestD; (repeat' split) <;> omega
theorem best_2 {c : Cel} (h1 : c.e < c.w) (h2 : c.n < c.w) (h3 : ¬ c.w < c.s) : bestD c = 2 := by
  unfold bestD; (repeat' split) <;> omega
theorem best_1 {c : Cel} (h1 : c.e < c.n) (h2 : ¬ c.n < c.w) (h3 : ¬ c.n < c.s) : bestD c = 1 := by
  unfold bestD; (repeat' split) <;> omega
theorem best_0 {c : Cel} (h1 : ¬ c.e < c.n) (h2 : ¬ c.e < c.w) (h3 : ¬ c.e < c.s) : bestD c = 0 := by
  unfold bestD; (repeat' split) <;> omega
theorem some_iff {c : Cel} {x : Int} (h : ((0 < c.e ∨ 0 < c.n ∨ 0 < c.w ∨ 0 < c.s) ↔ 0 < x)) : decide (0 < x) = someC c := by unfold someC; exact decide_eq_decide.2 h.symm
def mainE (g : Grd) (p : Pnt) : Int := if blkE g p p = 0 then (if someC (atP g.w g.cs p.x p.y) then 0 else 8) else blkE g p p
def mainD (g : Grd) (p : Pnt) : Int := if mainE g p = 0 then bestD (atP g.w g.cs p.x p.y) else 0
theorem blkE_one (g : Grd) (p : Pnt) : (g.ok = false ∧ blkE g p p = 1) ∨ (g.ok = true ∧ ¬ onB g p ∧ blkE g p p = 7) ∨ (g.ok = true ∧ onB g p ∧ blkE g p p = 0) := by
  rcases blkE_ways g p p with h | h | h
  · exact .inl h
  · exact .inr (.inl ⟨h.1, fun q => h.2.1 ⟨q, q, Int.le_refl _, Int.le_refl _⟩, h.2.2⟩)
  · exact .inr (.inr ⟨h.1, h.2.1.1, h.2.2⟩)
theorem blkE_bad {g : Grd} {p q : Pnt} (h : g.ok = false) : blkE g p q = 1 := by simp [blkE, h]
theorem blkE_seven {g : Grd} {p : Pnt} (h : g.ok = true) (hp : ¬ onB g p) : blkE g p p = 7 := by
  unfold blkE; rw [h, if_pos rfl, if_neg (fun q => hp q.1)]
theorem blkE_zero {g : Grd} {p : Pnt} (h : g.ok = true) (hp : onB g p) : blkE g p p = 0 := by
  unfold blkE; rw [h, if_pos rfl, if_pos ⟨hp, hp, Int.le_refl _, Int.le_refl _⟩]
theorem main_ways (g : Grd) (p : Pnt) : (g.ok = false ∧ mainE g p = 1 ∧ mainD g p = 0 ∧ True) ∨ (g.ok = true ∧ mainE g p = 7 ∧ mainD g p = 0 ∧ ¬ onB g p) ∨ (g.ok = true ∧ mainE g p = 8 ∧ mainD g p = 0 ∧ onB g p ∧ someC (atP g.w g.cs p.x p.y) = false) ∨ (g.ok = true ∧ mainE g p = 0 ∧ mainD g p = bestD (atP g.w g.cs p.x p.y) ∧ onB g p ∧ someC (atP g.w g.cs p.x p.y) = true) := by
  rcases blkE_one g p with ⟨h1, h2⟩ | ⟨h1, h2, h3⟩ | ⟨h1, h2, h3⟩
  · have e : mainE g p = 1 := by simp [mainE, h2]
    exact .inl ⟨h1, e, by simp [mainD, e], trivial⟩
  · have e : mainE g p = 7 := by simp [mainE, h3]
    exact .inr (.inl ⟨h1, e, by simp [mainD, e], h2⟩)
  · cases hs : someC (atP g.w g.cs p.x p.y)
    · have e : mainE g p = 8 := by simp [mainE, h3, hs]
      exact .inr (.inr (.inl ⟨h1, e, by simp [mainD, e], h2, rfl⟩))
    · have e : mainE g p = 0 := by simp [mainE, h3, hs]
      exact .inr (.inr (.inr ⟨h1, e, by simp [mainD, e], h2, rfl⟩))
/-- Parts that are far from the end of all numbers. -/
def cbd (c : Cel) : Prop := (-9000000000000 ≤ c.e ∧ c.e ≤ 9000000000000) ∧ (-9000000000000 ≤ c.n ∧ c.n ≤ 9000000000000) ∧ (-9000000000000 ≤ c.w ∧ c.w ≤ 9000000000000) ∧ -9000000000000 ≤ c.s ∧ c.s ≤ 9000000000000
theorem awake8A : mainE ⟨1, 1, [⟨1, 3, 2, 0⟩]⟩ ⟨0, 0⟩ = 0 := by decide
theorem awake8B : mainD ⟨1, 1, [⟨1, 3, 2, 0⟩]⟩ ⟨0, 0⟩ = 1 := by decide
/-! ### Fractions in lowest terms -/
def ratP (n d : Int) : Rat2 := ⟨n.tdiv (Nat.gcd n.natAbs d.toNat : Nat), d.tdiv (Nat.gcd n.natAbs d.toNat : Nat)⟩
theorem gcd_step (a b : Nat) (hb : 0 < b) : Nat.gcd b (a % b) = Nat.gcd a b := by rw [Nat.gcd_comm a b, Nat.gcd_rec b a, Nat.gcd_comm]
theorem gcd_pos {n d : Int} (hd : 0 < d) : 0 < Nat.gcd n.natAbs d.toNat := Nat.gcd_pos_of_pos_right _ (by omega)
theorem tdiv_bd (n : Int) (p : Nat) : -(n.natAbs : Int) ≤ n.tdiv p ∧ n.tdiv p ≤ n.natAbs := by
  have := Int.natAbs_tdiv_le_natAbs n p
  omega
theorem rat_den {p : Nat} {n d : Int} (hp : p = Nat.gcd n.natAbs d.toNat) (hd : 0 < d) : (p : Int) ≠ 0 := by
  have := gcd_pos (n := n) hd
  omega
theorem ratP_bd {n d : Int} (hd : 0 < d) : (Nat.gcd n.natAbs d.toNat : Int) ≤ d := by
  have := Nat.gcd_le_right (m := n.natAbs) (n := d.toNat) (by omega)
  omega
def densR (g : Grd) (a b : Pnt) : Rat2 := if blkE g a b = 0 then ratP (massL (blk g.w g.cs a b)) ((b.x - a.x + 1) * (b.y - a.y + 1)) else ⟨0, 0⟩
/-! ### Lists told row by row -/
def gridL {α : Type} (F : Nat → Nat → α) (n : Nat) : Nat → List α
  | 0 => []
  | j + 1 => gridL F n j ++ (List.range n).map (F j)
def gridJ {α : Type} (F : Nat → Nat → α) (n j i : Nat) : List α := gridL F n j ++ (List.range i).map (F j)
theorem gridL_length {α : Type} (F : Nat → Nat → α) (n : Nat) : ∀ j, (gridL F n j).length = j * n
  | 0 => by simp [gridL]
  | j + 1 => by rw [gridL, List.length_append, gridL_length F n j, Nat.succ_mul]; simp
theorem gridJ_length {α : Type} (F : Nat → Nat → α) (n j i : Nat) : (gridJ F n j i).length = j * n + i := by simp [gridJ, gridL_length]
theorem gridJ_zero {α : Type} (F : Nat → Nat → α) (n j : Nat) : gridJ F n j 0 = gridL F n j := by simp [gridJ]
theorem gridJ_next {α : Type} (F : Nat → Nat → α) (n j i : Nat) : gridJ F n j (i + 1) = gridJ F n j i ++ [F j i] := by simp [gridJ, List.range_succ]
theorem gridJ_row {α : Type} (F : Nat → Nat → α) (n j : Nat) : gridJ F n j n = gridL F n (j + 1) := rfl
/-- The block with some sides at a place. -/
def crn (wide high : Int) (x y : Int) : Pnt × Pnt := (⟨x, y⟩, ⟨x + wide - 1, y + high - 1⟩)
def crnC (g : Grd) (wide high x y : Int) : Cel := sumC (blk g.w g.cs ⟨x, y⟩ ⟨x + wide - 1, y + high - 1⟩)
def crnN (side wide : Int) : Nat := (side - wide + 1).toNat
theorem crn_ok {g : Grd} {wide high : Int} (hw : 1 ≤ wide) (hh : 1 ≤ high) {i j : Nat} (hi : i < crnN g.w wide) (hj : j < crnN g.h high) : blkOk g ⟨i, j⟩ ⟨(i : Int) + wide - 1, (j : Int) + high - 1⟩ := by
  unfold crnN at hi hj
  unfold blkOk onB
  simp only
  omega
end Go.Sy

/- Profiles, crossings; what a line gains when a grid streams. -/
set_option linter.unusedSimpArgs false
set_option linter.unusedVariables false
set_option linter.unusedSectionVars false
namespace Go.Sy
theorem sumI_range_succ (F : Nat → Int) (k : Nat) : sumI ((List.range (k + 1)).map F) = sumI ((List.range k).map F) + F k := by
  rw [List.range_succ, List.map_append, sumI_app]; simp [sumI]
theorem sumP_row (f : Cel → Int) (w : Int) (cs : List Cel) (ax y : Int) : ∀ k, sumP f (rowK w cs ax y k) = sumI ((List.range k).map fun i : Nat => f (atP w cs (ax + (i : Int)) y))
  | 0 => rfl
  | k + 1 => by rw [rowK, sumP_app, sumP_row f w cs ax y k, sumI_range_succ]; simp [sumP, sumI]
theorem sumP_blk (f : Cel → Int) (w : Int) (cs : List Cel) (ax ay : Int) (n : Nat) : ∀ k, sumP f (blkK w cs ax ay n k) = sumI ((List.range k).map fun j : Nat => sumI ((List.range n).map fun i : Nat => f (atP w cs (ax + (i : Int)) (ay + (j : Int)))))
  | 0 => rfl
  | k + 1 => by rw [blkK, sumP_app, sumP_blk f w cs ax ay n k, sumI_range_succ, sumP_row]
/-- A line: a column (axis 0) or a row. -/
def lineA (axis i : Int) : Pnt := if axis = 0 then ⟨i, 0⟩ else ⟨0, i⟩
def lineZ (g : Grd) (axis i : Int) : Pnt := if axis = 0 then ⟨i, g.h - 1⟩ else ⟨g.w - 1, i⟩
def sideN (g : Grd) (axis : Int) : Int := if axis = 0 then g.w else g.h
def lineC (g : Grd) (axis i : Int) : Cel := sumC (blk g.w g.cs (lineA axis i) (lineZ g axis i))
def lineS (g : Grd) (axis i : Int) (f : Cel → Int) : Int := if axis = 0 then sumI ((List.range g.h.toNat).map fun j : Nat => f (atP g.w g.cs i (j : Int))) else sumI ((List.range g.w.toNat).map fun j : Nat => f (atP g.w g.cs (j : Int) i))
theorem line_sum (g : Grd) (axis i : Int) (f : Cel → Int) : sumP f (blk g.w g.cs (lineA axis i) (lineZ g axis i)) = lineS g axis i f := by
  unfold lineA lineZ lineS blk
  by_cases h : axis = 0
  · simp only [h, if_true]
    rw [sumP_blk, show (i - i + 1).toNat = 1 by omega, show (g.h - 1 - 0 + 1).toNat = g.h.toNat by omega]
    congr 1
    refine List.map_congr_left fun j _ => ?_
    simp [sumI]
  · simp only [h, if_false]
    rw [sumP_blk, show (i - i + 1).toNat = 1 by omega, show (g.w - 1 - 0 + 1).toNat = g.w.toNat by omega]
    simp [sumI]
theorem lineC_eq (g : Grd) (axis i : Int) : lineC g axis i = ⟨lineS g axis i (·.e), lineS g axis i (·.n), lineS g axis i (·.w), lineS g axis i (·.s)⟩ := by
  simp only [lineC, sumC, line_sum]
/-- Numbers in a ring, told from another one on. -/
theorem ring_sum (F : Int → Int) {n : Nat} (hn : 0 < n) (b : Int) : sumI ((List.range n).map fun j : Nat => F (((j : Int) + b) % n)) = sumI ((List.range n).map fun j : Nat => F (j : Int)) := by
  have e : ∀ j : Nat, ((((j : Int) + b) % n).toNat : Int) = ((j : Int) + b) % n := fun j => Int.toNat_of_nonneg (Int.emod_nonneg _ (by omega))
  have hp := perm_range (n := n) (f := fun j => (((j : Int) + b) % n).toNat) (fun i hi => by have := Int.emod_lt_of_pos ((i : Int) + b) (show (0 : Int) < n by omega); have := e i; omega)
    (fun i j hi hj h => by
      have h' : ((i : Int) + b) % n = ((j : Int) + b) % n := by rw [← e i, ← e j]; exact congrArg _ h
      have q : ∀ k : Nat, k < n → (((k : Int) + b) % n + -b) % n = k := fun k hk => by
        rw [Int.emod_add_emod, Int.add_assoc, show b + -b = 0 by omega, Int.add_zero]
        exact Int.emod_eq_of_lt (by omega) (by omega)
      have := q i hi
      rw [h', q j hj] at this
      omega)
  have := sumI_perm (hp.map fun j : Nat => F (j : Int))
  rw [List.map_map] at this
  rw [← this]
  congr 1
  refine List.map_congr_left fun j _ => ?_
  simp only [Function.comp_apply, e]
theorem flowP_at {g : Grd} (hg : g.ok = true) {x y : Int} (hx : 0 ≤ x ∧ x ≤ g.w - 1) (hy : 0 ≤ y ∧ y ≤ g.h - 1) :
    atP g.w (flow g.w g.h 1 g.cs) x y = ⟨(atP g.w g.cs ((x + -1) % g.w) y).e, (atP g.w g.cs x ((y + -1) % g.h)).n, (atP g.w g.cs ((x + 1) % g.w) y).w, (atP g.w g.cs x ((y + 1) % g.h)).s⟩ := by
  have hi := idx_in hg hx hy
  have hb := gok_bds hg
  have hlt : (x + g.w * y).toNat < g.cs.length := by omega
  have ei : (((x + g.w * y).toNat : Nat) : Int) = x + g.w * y := Int.toNat_of_nonneg hi.1
  have em : (x + g.w * y) % g.w = x := by rw [Int.add_mul_emod_self_left]; exact Int.emod_eq_of_lt hx.1 (by omega)
  have ed : (x + g.w * y) / g.w = y := by rw [Int.add_mul_ediv_left _ _ (show g.w ≠ 0 by omega), Int.ediv_eq_zero_of_lt hx.1 (by omega), Int.zero_add]
  have hx0 : x % g.w = x := Int.emod_eq_of_lt hx.1 (by omega)
  have hy0 : y % g.h = y := Int.emod_eq_of_lt hy.1 (by omega)
  unfold atP flow
  rw [tab_at _ hlt]
  simp only [shp, ei, em, ed, Int.add_zero, hx0, hy0]
theorem line_flow {g : Grd} (hg : g.ok = true) {axis i : Int} (ha : axis = 0 ∨ axis = 1) (hi : 0 ≤ i ∧ i ≤ sideN g axis - 1) :
    (lineC ⟨g.w, g.h, flow g.w g.h 1 g.cs⟩ axis i).m = (lineC g axis i).m + (if axis = 0 then (lineC g axis ((i + -1) % sideN g axis)).e else (lineC g axis ((i + -1) % sideN g axis)).n) - (if axis = 0 then (lineC g axis i).w else (lineC g axis i).s) - (if axis = 0 then (lineC g axis i).e else (lineC g axis i).n) + (if axis = 0 then (lineC g axis ((i + 1) % sideN g axis)).w else (lineC g axis ((i + 1) % sideN g axis)).s) := by
  have hb := gok_bds hg
  rcases ha with rfl | rfl
  · simp only [sideN, if_true] at hi ⊢
    have hN : ((g.h.toNat : Nat) : Int) = g.h := Int.toNat_of_nonneg (by omega)
    have q : ∀ (f : Cel → Int) (c : Nat → Cel), (∀ j : Nat, (j : Int) ≤ g.h - 1 → f (atP g.w (flow g.w g.h 1 g.cs) i (j : Int)) = f (c j)) → lineS ⟨g.w, g.h, flow g.w g.h 1 g.cs⟩ 0 i f = sumI ((List.range g.h.toNat).map fun j : Nat => f (c j)) := fun f c h => by
      simp only [lineS, if_true]
      exact congrArg sumI (List.map_congr_left fun j hj => h j (by have := List.mem_range.1 hj; omega))
    have fe : lineS ⟨g.w, g.h, flow g.w g.h 1 g.cs⟩ 0 i (·.e) = lineS g 0 ((i + -1) % g.w) (·.e) := by
      rw [q (·.e) (fun j : Nat => atP g.w g.cs ((i + -1) % g.w) (j : Int)) fun j hj => by rw [flowP_at hg hi ⟨by omega, hj⟩]]
      simp only [lineS, if_true]
    have fw : lineS ⟨g.w, g.h, flow g.w g.h 1 g.cs⟩ 0 i (·.w) = lineS g 0 ((i + 1) % g.w) (·.w) := by
      rw [q (·.w) (fun j : Nat => atP g.w g.cs ((i + 1) % g.w) (j : Int)) fun j hj => by rw [flowP_at hg hi ⟨by omega, hj⟩]]
      simp only [lineS, if_true]
    have fn : lineS ⟨g.w, g.h, flow g.w g.h 1 g.cs⟩ 0 i (·.n) = lineS g 0 i (·.n) := by
      rw [q (·.n) (fun j : Nat => atP g.w g.cs i (((j : Int) + -1) % g.h)) fun j hj => by rw [flowP_at hg hi ⟨by omega, hj⟩]]
      have := ring_sum (fun j => (atP g.w g.cs i j).n) (show 0 < g.h.toNat by omega) (-1)
      rw [hN] at this
      simp only [lineS, if_true]; exact this
    have fs : lineS ⟨g.w, g.h, flow g.w g.h 1 g.cs⟩ 0 i (·.s) = lineS g 0 i (·.s) := by
      rw [q (·.s) (fun j : Nat => atP g.w g.cs i (((j : Int) + 1) % g.h)) fun j hj => by rw [flowP_at hg hi ⟨by omega, hj⟩]]
      have := ring_sum (fun j => (atP g.w g.cs i j).s) (show 0 < g.h.toNat by omega) 1
      rw [hN] at this
      simp only [lineS, if_true]; exact this
    simp only [lineC_eq, Cel.m, fe, fw, fn, fs]
    omega
  · simp only [sideN, Int.one_ne_zero, if_false] at hi ⊢
    have hN : ((g.w.toNat : Nat) : Int) = g.w := Int.toNat_of_nonneg (by omega)
    have q : ∀ (f : Cel → Int) (c : Nat → Cel), (∀ j : Nat, (j : Int) ≤ g.w - 1 → f (atP g.w (flow g.w g.h 1 g.cs) (j : Int) i) = f (c j)) → lineS ⟨g.w, g.h, flow g.w g.h 1 g.cs⟩ 1 i f = sumI ((List.range g.w.toNat).map fun j : Nat => f (c j)) := fun f c h => by
      simp only [lineS, Int.one_ne_zero, if_false]
      exact congrArg sumI (List.map_congr_left fun j hj => h j (by have := List.mem_range.1 hj; omega))
    have fe : lineS ⟨g.w, g.h, flow g.w g.h 1 g.cs⟩ 1 i (·.e) = lineS g 1 i (·.e) := by
      rw [q (·.e) (fun j : Nat => atP g.w g.cs (((j : Int) + -1) % g.w) i) fun j hj => by rw [flowP_at hg ⟨by omega, hj⟩ hi]]
      have := ring_sum (fun j => (atP g.w g.cs j i).e) (show 0 < g.w.toNat by omega) (-1)
      rw [hN] at this
      simp only [lineS, Int.one_ne_zero, if_false]; exact this
    have fw : lineS ⟨g.w, g.h, flow g.w g.h 1 g.cs⟩ 1 i (·.w) = lineS g 1 i (·.w) := by
      rw [q (·.w) (fun j : Nat => atP g.w g.cs (((j : Int) + 1) % g.w) i) fun j hj => by rw [flowP_at hg ⟨by omega, hj⟩ hi]]
      have := ring_sum (fun j => (atP g.w g.cs j i).w) (show 0 < g.w.toNat by omega) 1
      rw [hN] at this
      simp only [lineS, Int.one_ne_zero, if_false]; exact this
    have fn : lineS ⟨g.w, g.h, flow g.w g.h 1 g.cs⟩ 1 i (·.n) = lineS g 1 ((i + -1) % g.h) (·.n) := by
      rw [q (·.n) (fun j : Nat => atP g.w g.cs (j : Int) ((i + -1) % g.h)) fun j hj => by rw [flowP_at hg ⟨by omega, hj⟩ hi]]
      simp only [lineS, Int.one_ne_zero, if_false]
    have fs : lineS ⟨g.w, g.h, flow g.w g.h 1 g.cs⟩ 1 i (·.s) = lineS g 1 ((i + 1) % g.h) (·.s) := by
      rw [q (·.s) (fun j : Nat => atP g.w g.cs (j : Int) ((i + 1) % g.h)) fun j hj => by rw [flowP_at hg ⟨by omega, hj⟩ hi]]
      simp only [lineS, Int.one_ne_zero, if_false]
    simp only [lineC_eq, Cel.m, fe, fw, fn, fs]
    omega
def profE (g : Grd) (axis : Int) : Int := if g.ok then (if 0 ≤ axis ∧ axis ≤ 1 then 0 else 7) else 1
def axW (g : Grd) (axis : Int) : Int := if axis = 1 then g.w else 1
def axH (g : Grd) (axis : Int) : Int := if axis = 1 then 1 else g.h
def profF (g : Grd) (axis : Int) (j i : Nat) : Int := (crnC g (axW g axis) (axH g axis) i j).m
def profL (g : Grd) (axis : Int) : List Int := if profE g axis = 0 then gridL (profF g axis) (crnN g.w (axW g axis)) (crnN g.h (axH g axis)) else []
theorem prof_ways (g : Grd) (axis : Int) : (g.ok = false ∧ profE g axis = 1 ∧ profL g axis = [] ∧ True) ∨ (g.ok = true ∧ profE g axis = 7 ∧ profL g axis = [] ∧ ¬ (0 ≤ axis ∧ axis ≤ 1)) ∨
    (g.ok = true ∧ profE g axis = 0 ∧ profL g axis = gridL (profF g axis) (crnN g.w (axW g axis)) (crnN g.h (axH g axis)) ∧ (axis = 0 ∧ axW g axis = 1 ∧ axH g axis = g.h)) ∨
    (g.ok = true ∧ profE g axis = 0 ∧ profL g axis = gridL (profF g axis) (crnN g.w (axW g axis)) (crnN g.h (axH g axis)) ∧ (axis = 1 ∧ axW g axis = g.w ∧ axH g axis = 1)) := by
  unfold profL
  cases hg : g.ok
  · have e : profE g axis = 1 := by simp [profE, hg]
    exact .inl ⟨rfl, e, by simp [e], trivial⟩
  · by_cases h0 : axis = 0
    · subst h0
      have e : profE g 0 = 0 := by simp [profE, hg]
      exact .inr (.inr (.inl ⟨rfl, e, by simp [e], rfl, rfl, rfl⟩))
    · by_cases h1 : axis = 1
      · subst h1
        have e : profE g 1 = 0 := by simp [profE, hg]
        exact .inr (.inr (.inr ⟨rfl, e, by simp [e], rfl, rfl, rfl⟩))
      · have e : profE g axis = 7 := by unfold profE; rw [hg, if_pos rfl, if_neg (by omega)]
        exact .inr (.inl ⟨rfl, e, by simp [e], by omega⟩)
theorem prof_len {g : Grd} (hg : g.ok = true) {axis : Int} (ha : axis = 0 ∨ axis = 1) : ((profL g axis).length : Int) = sideN g axis ∧ 1 ≤ sideN g axis ∧ sideN g axis ≤ 64 := by
  have hb := gok_bds hg
  rcases ha with rfl | rfl
  · have e : profE g 0 = 0 := by simp [profE, hg]
    unfold profL
    rw [if_pos e, gridL_length]
    simp only [crnN, axW, axH, sideN, if_true, Int.zero_ne_one, if_false]
    rw [show (g.h - g.h + 1).toNat = 1 by omega]
    omega
  · have e : profE g 1 = 0 := by simp [profE, hg]
    unfold profL
    rw [if_pos e, gridL_length]
    simp only [crnN, axW, axH, sideN, if_true, Int.one_ne_zero, if_false]
    rw [show (g.w - g.w + 1).toNat = 1 by omega]
    omega
theorem gridL_one {α : Type} (F : Nat → Nat → α) : ∀ j, gridL F 1 j = (List.range j).map fun k => F k 0
  | 0 => rfl
  | j + 1 => by
    rw [gridL, gridL_one F j, List.range_succ (n := j), List.map_append]
    rfl
theorem prof_at {g : Grd} (hg : g.ok = true) {axis : Int} (ha : axis = 0 ∨ axis = 1) {i : Nat} (hi : (i : Int) < sideN g axis) : (profL g axis).getD i 0 = (lineC g axis i).m := by
  have hb := gok_bds hg
  rcases ha with rfl | rfl
  · have e : profE g 0 = 0 := by simp [profE, hg]
    simp only [sideN, if_true] at hi
    unfold profL
    rw [if_pos e]
    simp only [crnN, axW, axH, if_true, Int.zero_ne_one, if_false]
    rw [show (g.h - g.h + 1).toNat = 1 by omega]
    simp only [gridL, List.nil_append, List.getD_eq_getElem?_getD, List.getElem?_map, List.getElem?_range (show i < (g.w - 1 + 1).toNat by omega), Option.map_some, Option.getD_some]
    simp only [profF, crnC, axW, axH, Int.zero_ne_one, if_false, lineC, lineA, lineZ, if_true]
    congr 3 <;> (try (congr 1 <;> omega)) <;> omega
  · have e : profE g 1 = 0 := by simp [profE, hg]
    simp only [sideN, Int.one_ne_zero, if_false] at hi
    unfold profL
    rw [if_pos e]
    simp only [crnN, axW, axH, if_true]
    rw [show (g.w - g.w + 1).toNat = 1 by omega, gridL_one]
    simp only [List.getD_eq_getElem?_getD, List.getElem?_map, List.getElem?_range (show i < (g.h - 1 + 1).toNat by omega), Option.map_some, Option.getD_some]
    simp only [profF, crnC, axW, axH, if_true, lineC, lineA, lineZ, Int.one_ne_zero, if_false]
    congr 3 <;> (try (congr 1 <;> omega)) <;> omega
/-! Crossings. -/
def crossOk (g : Grd) (axis at_ : Int) : Prop := (axis = 0 ∧ 0 ≤ at_ ∧ at_ ≤ g.w - 1) ∨ (axis = 1 ∧ 0 ≤ at_ ∧ at_ ≤ g.h - 1)
instance (g : Grd) (axis at_ : Int) : Decidable (crossOk g axis at_) := by unfold crossOk; infer_instance
def crossE (g : Grd) (axis at_ : Int) : Int := if g.ok then (if crossOk g axis at_ then 0 else 7) else 1
def crossF (g : Grd) (axis at_ : Int) : Int := if crossE g axis at_ = 0 then (if axis = 0 then (lineC g axis ((at_ + -1) % sideN g axis)).e else (lineC g axis ((at_ + -1) % sideN g axis)).n) else 0
def crossB (g : Grd) (axis at_ : Int) : Int := if crossE g axis at_ = 0 then (if axis = 0 then (lineC g axis at_).w else (lineC g axis at_).s) else 0
theorem cross_ways (g : Grd) (axis at_ : Int) : (g.ok = false ∧ crossE g axis at_ = 1 ∧ crossF g axis at_ = 0 ∧ crossB g axis at_ = 0 ∧ True) ∨ (g.ok = true ∧ crossE g axis at_ = 7 ∧ crossF g axis at_ = 0 ∧ crossB g axis at_ = 0 ∧ ¬ crossOk g axis at_) ∨
    (g.ok = true ∧ crossE g axis at_ = 0 ∧ crossF g axis at_ = (lineC g 0 ((at_ + -1) % g.w)).e ∧ crossB g axis at_ = (lineC g 0 at_).w ∧ axis = 0 ∧ 0 ≤ at_ ∧ at_ ≤ g.w - 1) ∨
    (g.ok = true ∧ crossE g axis at_ = 0 ∧ crossF g axis at_ = (lineC g 1 ((at_ + -1) % g.h)).n ∧ crossB g axis at_ = (lineC g 1 at_).s ∧ axis = 1 ∧ 0 ≤ at_ ∧ at_ ≤ g.h - 1) := by
  unfold crossF crossB
  cases hg : g.ok
  · have e : crossE g axis at_ = 1 := by simp [crossE, hg]
    exact .inl ⟨rfl, e, by simp [e], by simp [e], trivial⟩
  · by_cases hc : crossOk g axis at_
    · have e : crossE g axis at_ = 0 := by simp [crossE, hg, hc]
      rcases hc with ⟨rfl, h1⟩ | ⟨rfl, h1⟩
      · exact .inr (.inr (.inl ⟨rfl, e, by simp [e, sideN], by simp [e], rfl, h1⟩))
      · exact .inr (.inr (.inr ⟨rfl, e, by simp [e, sideN], by simp [e], rfl, h1⟩))
    · have e : crossE g axis at_ = 7 := by simp [crossE, hg, hc]
      exact .inr (.inl ⟨rfl, e, by simp [e], by simp [e], hc⟩)
theorem line_bds {g : Grd} (hg : g.ok = true) {axis i : Int} (ha : axis = 0 ∨ axis = 1) (hi : 0 ≤ i ∧ i ≤ sideN g axis - 1) : blkOk g (lineA axis i) (lineZ g axis i) := by
  have hb := gok_bds hg
  rcases ha with rfl | rfl
  · simp only [sideN, lineA, lineZ, if_true, blkOk, onB] at *; omega
  · simp only [sideN, lineA, lineZ, Int.one_ne_zero, if_false, blkOk, onB] at *; omega
theorem mod_line {n i : Int} (hn : 1 ≤ n) (hi : 0 ≤ i ∧ i ≤ n - 1) : 0 ≤ (i + -1) % n ∧ (i + -1) % n ≤ n - 1 ∧ (i + n - 1).tmod n = (i + -1) % n := by
  have h1 := Int.emod_nonneg (i + -1) (show n ≠ 0 by omega)
  have h2 := Int.emod_lt_of_pos (i + -1) (show 0 < n by omega)
  refine ⟨h1, by omega, ?_⟩
  rw [Int.tmod_eq_emod_of_nonneg (by omega), show i + n - 1 = i + -1 + n by omega, Int.add_emod_right]
theorem den_tup1 {n j : Nat} {a : Option Nm} {s len len' cap : Nat} {e e' : SV} (hl : len = len') (he : den e = den e') : den (.tup [.sl n a 0 s len cap, e]) = den (.tup [.sl j a 0 s len' cap, e']) := by
  subst hl; simp [den, denL, he]
theorem gridL_len {α : Type} (F : Nat → Nat → α) (n j : Nat) : (gridL F n j).length = n * j := by rw [gridL_length, Nat.mul_comm]
theorem gridJ_len {α : Type} (F : Nat → Nat → α) (n j i : Nat) : (gridJ F n j i).length = n * j + i := by rw [gridJ_length, Nat.mul_comm]
theorem gridJ_app (F : Nat → Nat → Int) (n j i : Nat) {x : Int} (hx : x = F j i) : Cts.ix (gridJ F n j i ++ seg [x] 0 1) = Cts.ix (gridJ F n j (i + 1)) := by
  subst hx; rw [gridJ_next]; rfl
end Go.Sy

/- What crosses the lines of a grid that streams: the law's facts. -/
set_option linter.unusedSimpArgs false
set_option linter.unusedVariables false
set_option linter.unusedSectionVars false
namespace Go.Sy
/-! ### The whole grid as a block -/
theorem rowK_take (w : Int) (cs : List Cel) (hw : 0 ≤ w) (y : Nat) : ∀ k : Nat, w.toNat * y + k ≤ cs.length → rowK w cs 0 (y : Int) k = (cs.drop (w.toNat * y)).take k
  | 0, _ => rfl
  | k + 1, h => by
    have e : ((0 : Int) + (k : Int) + w * (y : Int)).toNat = w.toNat * y + k := by
      have : w * (y : Int) = ((w.toNat * y : Nat) : Int) := by rw [Int.natCast_mul, Int.toNat_of_nonneg hw]
      omega
    rw [rowK, rowK_take w cs hw y k (by omega), take_snoc _ default (by simp; omega)]
    unfold atP
    rw [e]
    simp [List.getD_eq_getElem?_getD, List.getElem?_drop]
theorem blkK_take (w : Int) (cs : List Cel) (hw : 0 ≤ w) : ∀ k : Nat, w.toNat * k ≤ cs.length → blkK w cs 0 0 w.toNat k = cs.take (w.toNat * k)
  | 0, _ => by simp [blkK]
  | k + 1, h => by
    rw [Nat.mul_succ] at h
    rw [blkK, blkK_take w cs hw k (by omega), show (0 : Int) + (k : Int) = (k : Int) by omega, rowK_take w cs hw k w.toNat (by omega), Nat.mul_succ, List.take_add]
theorem blk_all {g : Grd} (hg : g.ok = true) : blk g.w g.cs ⟨0, 0⟩ ⟨g.w - 1, g.h - 1⟩ = g.cs ∧ blkOk g ⟨0, 0⟩ ⟨g.w - 1, g.h - 1⟩ := by
  have hb := gok_bds hg
  have e1 : (g.w - 1 - 0 + 1).toNat = g.w.toNat := by omega
  have e2 : (g.h - 1 - 0 + 1).toNat = g.h.toNat := by omega
  have e3 : g.w.toNat * g.h.toNat = g.cs.length := by
    have : ((g.w.toNat * g.h.toNat : Nat) : Int) = g.w * g.h := by rw [Int.natCast_mul, Int.toNat_of_nonneg (by omega), Int.toNat_of_nonneg (by omega)]
    omega
  refine ⟨?_, ?_⟩
  · unfold blk
    simp only [e1, e2]
    rw [blkK_take g.w g.cs (by omega) _ (by omega), e3, List.take_length]
  · unfold blkOk onB; simp only; omega
theorem blkE_all {g : Grd} (hg : g.ok = true) : blkE g ⟨0, 0⟩ ⟨g.w - 1, g.h - 1⟩ = 0 := by
  unfold blkE; rw [hg, if_pos rfl, if_pos (blk_all hg).2]
theorem lineC_bd {g : Grd} (hg : g.ok = true) {axis i : Int} (ha : axis = 0 ∨ axis = 1) (hi : 0 ≤ i ∧ i ≤ sideN g axis - 1) : (0 ≤ (lineC g axis i).e ∧ (lineC g axis i).e ≤ 5000000000000) ∧ (0 ≤ (lineC g axis i).n ∧ (lineC g axis i).n ≤ 5000000000000) ∧ (0 ≤ (lineC g axis i).w ∧ (lineC g axis i).w ≤ 5000000000000) ∧ 0 ≤ (lineC g axis i).s ∧ (lineC g axis i).s ≤ 5000000000000 :=
  blk_bds hg (line_bds hg ha hi)
theorem crossE_ok {g : Grd} (hg : g.ok = true) {axis i : Int} (ha : axis = 0 ∨ axis = 1) (hi : 0 ≤ i ∧ i ≤ sideN g axis - 1) : crossE g axis i = 0 := by
  unfold crossE
  rw [hg, if_pos rfl, if_pos]
  rcases ha with rfl | rfl
  · exact .inl ⟨rfl, by simpa [sideN] using hi⟩
  · exact .inr ⟨rfl, by simpa [sideN] using hi⟩
theorem cross_eq {g : Grd} (hg : g.ok = true) {axis i : Int} (ha : axis = 0 ∨ axis = 1) (hi : 0 ≤ i ∧ i ≤ sideN g axis - 1) :
    crossF g axis i = (if axis = 0 then (lineC g axis ((i + -1) % sideN g axis)).e else (lineC g axis ((i + -1) % sideN g axis)).n) ∧ crossB g axis i = (if axis = 0 then (lineC g axis i).w else (lineC g axis i).s) := by
  have := crossE_ok hg ha hi
  unfold crossF crossB
  simp only [this, if_true, and_self]
theorem cross_bd {g : Grd} (hg : g.ok = true) {axis i : Int} (ha : axis = 0 ∨ axis = 1) (hi : 0 ≤ i ∧ i ≤ sideN g axis - 1) : (0 ≤ crossF g axis i ∧ crossF g axis i ≤ 5000000000000) ∧ 0 ≤ crossB g axis i ∧ crossB g axis i ≤ 5000000000000 := by
  have hn : 1 ≤ sideN g axis := by omega
  have hm := mod_line hn hi
  have q := cross_eq hg ha hi
  have b1 := lineC_bd hg ha hi
  have b2 := lineC_bd hg ha (i := (i + -1) % sideN g axis) ⟨hm.1, hm.2.1⟩
  rw [q.1, q.2]
  rcases ha with rfl | rfl
  · simp only [if_true]; omega
  · simp only [Int.one_ne_zero, if_false]; omega
/-- All that the law asks at one line. -/
theorem cont_line {g : Grd} (hg : g.ok = true) {axis : Int} (ha : axis = 0 ∨ axis = 1) {i : Nat} (hi : (i : Int) < sideN g axis) :
    crossE g axis i = 0 ∧ crossE g axis (((i : Int) + 1).tmod ((profL g axis).length : Int)) = 0 ∧
    (profL ⟨g.w, g.h, flow g.w g.h 1 g.cs⟩ axis).getD i 0 = (profL g axis).getD i 0 + crossF g axis i - crossB g axis i - crossF g axis (((i : Int) + 1).tmod ((profL g axis).length : Int)) + crossB g axis (((i : Int) + 1).tmod ((profL g axis).length : Int)) ∧
    ((0 ≤ (profL g axis).getD i 0 ∧ (profL g axis).getD i 0 ≤ 20000000000000) ∧ (0 ≤ crossF g axis i ∧ crossF g axis i ≤ 5000000000000) ∧ (0 ≤ crossB g axis i ∧ crossB g axis i ≤ 5000000000000) ∧
      (0 ≤ crossF g axis (((i : Int) + 1).tmod ((profL g axis).length : Int)) ∧ crossF g axis (((i : Int) + 1).tmod ((profL g axis).length : Int)) ≤ 5000000000000) ∧ 0 ≤ crossB g axis (((i : Int) + 1).tmod ((profL g axis).length : Int)) ∧ crossB g axis (((i : Int) + 1).tmod ((profL g axis).length : Int)) ≤ 5000000000000) ∧
    (0 ≤ ((i : Int) + 1).tmod ((profL g axis).length : Int) ∧ ((i : Int) + 1).tmod ((profL g axis).length : Int) ≤ 64) := by
  have hl := prof_len hg ha
  have hok : (⟨g.w, g.h, flow g.w g.h 1 g.cs⟩ : Grd).ok = true := gok_flow 1 hg
  have hs : sideN ⟨g.w, g.h, flow g.w g.h 1 g.cs⟩ axis = sideN g axis := rfl
  have et : ((i : Int) + 1).tmod ((profL g axis).length : Int) = ((i : Int) + 1) % sideN g axis := by rw [hl.1, Int.tmod_eq_emod_of_nonneg (by omega)]
  have h1 := Int.emod_nonneg ((i : Int) + 1) (show sideN g axis ≠ 0 by omega)
  have h2 := Int.emod_lt_of_pos ((i : Int) + 1) (show 0 < sideN g axis by omega)
  rw [et]
  have r1 : 0 ≤ (i : Int) ∧ (i : Int) ≤ sideN g axis - 1 := by omega
  have r2 : 0 ≤ ((i : Int) + 1) % sideN g axis ∧ ((i : Int) + 1) % sideN g axis ≤ sideN g axis - 1 := by omega
  have c1 := cross_eq hg ha r1
  have c2 := cross_eq hg ha r2
  have em : (((i : Int) + 1) % sideN g axis + -1) % sideN g axis = i := by
    rw [Int.emod_add_emod, show (i : Int) + 1 + -1 = i by omega]
    exact Int.emod_eq_of_lt r1.1 (by omega)
  rw [em] at c2
  have lf := line_flow hg ha r1
  have b := lineC_bd hg ha r1
  refine ⟨crossE_ok hg ha r1, crossE_ok hg ha r2, ?_, ⟨?_, ?_⟩, ?_⟩
  · rw [prof_at hok ha (by rw [hs]; exact hi), prof_at hg ha hi, lf, c1.1, c1.2, c2.1, c2.2]
  · rw [prof_at hg ha hi]; unfold Cel.m; omega
  · have q1 := cross_bd hg ha r1
    have q2 := cross_bd hg ha r2
    exact ⟨q1.1, q1.2, q2.1, q2.2⟩
  · omega
theorem cont_ways (g : Grd) : (100 < g.cs.length ∧ True) ∨ (g.cs.length ≤ 100 ∧ g.ok = false) ∨ (g.cs.length ≤ 100 ∧ g.ok = true ∧ streamG 1 g = ⟨g.w, g.h, flow g.w g.h 1 g.cs⟩ ∧ g.err = 0 ∧ (⟨g.w, g.h, flow g.w g.h 1 g.cs⟩ : Grd).ok = true ∧ (⟨g.w, g.h, flow g.w g.h 1 g.cs⟩ : Grd).err = 0 ∧
    (∀ x : Int, x = 0 ∨ x = 1 → profE g x = 0 ∧ profE ⟨g.w, g.h, flow g.w g.h 1 g.cs⟩ x = 0 ∧ (profL ⟨g.w, g.h, flow g.w g.h 1 g.cs⟩ x).length = (profL g x).length ∧ ((profL g x).length : Int) = sideN g x ∧ (profL g x).length ≤ 64 ∧ 1 ≤ (profL g x).length) ∧
    (blkE g ⟨0, 0⟩ ⟨g.w - 1, g.h - 1⟩ = 0 ∧ blkE ⟨g.w, g.h, flow g.w g.h 1 g.cs⟩ ⟨0, 0⟩ ⟨g.w - 1, g.h - 1⟩ = 0 ∧ densR ⟨g.w, g.h, flow g.w g.h 1 g.cs⟩ ⟨0, 0⟩ ⟨g.w - 1, g.h - 1⟩ = densR g ⟨0, 0⟩ ⟨g.w - 1, g.h - 1⟩) ∧
    ((⟨g.w, g.h, flow g.w g.h 1 g.cs⟩ : Grd).east = g.east ∧ (⟨g.w, g.h, flow g.w g.h 1 g.cs⟩ : Grd).north = g.north) ∧ (1 ≤ g.w ∧ g.w ≤ 64 ∧ 1 ≤ g.h ∧ g.h ≤ 64)) := by
  rcases Nat.lt_or_ge 100 g.cs.length with h | h
  · exact .inl ⟨h, trivial⟩
  · cases hg : g.ok
    · exact .inr (.inl ⟨h, rfl⟩)
    · have hok : (⟨g.w, g.h, flow g.w g.h 1 g.cs⟩ : Grd).ok = true := gok_flow 1 hg
      have hb := gok_bds hg
      have hs := flow_sums (w := g.w) (h := g.h) (by omega) (by omega) hb.2.2.2.2.2.1 1
      have t1 := Grd.tell_t hg
      have t2 := Grd.tell_t hok
      refine .inr (.inr ⟨h, rfl, by unfold streamG; rw [if_pos hg], t1.1, hok, t2.1, fun x hx => ?_, ⟨blkE_all hg, blkE_all hok, ?_⟩, ⟨?_, ?_⟩, by omega⟩)
      · have l1 := prof_len hg hx
        have l2 := prof_len hok hx
        have hs2 : sideN ⟨g.w, g.h, flow g.w g.h 1 g.cs⟩ x = sideN g x := rfl
        rw [hs2] at l2
        have e : ∀ q : Grd, q.ok = true → profE q x = 0 := fun q hq => by unfold profE; rw [hq, if_pos rfl, if_pos (by omega)]
        exact ⟨e g hg, e _ hok, by omega, l1.1, by omega, by omega⟩
      · unfold densR
        rw [blkE_all hg, (blkE_all hok : blkE ⟨g.w, g.h, flow g.w g.h 1 g.cs⟩ ⟨0, 0⟩ ⟨g.w - 1, g.h - 1⟩ = 0)]
        simp only [if_true]
        rw [(blk_all hg).1, ((blk_all hok).1 : blk g.w (flow g.w g.h 1 g.cs) ⟨0, 0⟩ ⟨g.w - 1, g.h - 1⟩ = _), hs.1]
      · rw [t1.2.2.1, t2.2.2.1]; exact hs.2.1
      · rw [t1.2.2.2, t2.2.2.2]; exact hs.2.2
end Go.Sy

/- Loops round blocks, paths. -/
set_option linter.unusedSimpArgs false
set_option linter.unusedVariables false
set_option linter.unusedSectionVars false
namespace Go.Sy
/-! ### Circulation -/
def circ (g : Grd) (a d : Pnt) : Int := ((sumC (blk g.w g.cs a ⟨d.x, a.y⟩)).e - (sumC (blk g.w g.cs a ⟨d.x, a.y⟩)).w) + ((sumC (blk g.w g.cs ⟨d.x, a.y⟩ d)).n - (sumC (blk g.w g.cs ⟨d.x, a.y⟩ d)).s) - ((sumC (blk g.w g.cs ⟨a.x, d.y⟩ d)).e - (sumC (blk g.w g.cs ⟨a.x, d.y⟩ d)).w) - ((sumC (blk g.w g.cs a ⟨a.x, d.y⟩)).n - (sumC (blk g.w g.cs a ⟨a.x, d.y⟩)).s)
def circR (g : Grd) (a d : Pnt) : Int := if blkE g a d = 0 then circ g a d else 0
theorem circ_oks {g : Grd} {a d : Pnt} (hb : blkOk g a d) : blkOk g a ⟨d.x, a.y⟩ ∧ blkOk g ⟨a.x, d.y⟩ d ∧ blkOk g a ⟨a.x, d.y⟩ ∧ blkOk g ⟨d.x, a.y⟩ d := by
  unfold blkOk onB at *; simp only; omega
theorem circ_ways (g : Grd) (a d : Pnt) : (g.ok = false ∧ blkE g a d = 1 ∧ circR g a d = 0 ∧ True) ∨ (g.ok = true ∧ blkE g a d = 7 ∧ circR g a d = 0 ∧ ¬ blkOk g a d) ∨ (g.ok = true ∧ blkE g a d = 0 ∧ circR g a d = circ g a d ∧ blkOk g a d) := by
  rcases blkE_ways g a d with ⟨h1, h2⟩ | ⟨h1, h2, h3⟩ | ⟨h1, h2, h3⟩
  · exact .inl ⟨h1, h2, by simp [circR, h2], trivial⟩
  · exact .inr (.inl ⟨h1, h3, by simp [circR, h3], h2⟩)
  · exact .inr (.inr ⟨h1, h3, by simp [circR, h3], h2⟩)
theorem circ_bd {g : Grd} (hg : g.ok = true) {a d : Pnt} (hb : blkOk g a d) : -40000000000000 ≤ circ g a d ∧ circ g a d ≤ 40000000000000 := by
  obtain ⟨h1, h2, h3, h4⟩ := circ_oks hb
  have b1 := blk_bds hg h1
  have b2 := blk_bds hg h2
  have b3 := blk_bds hg h3
  have b4 := blk_bds hg h4
  unfold circ
  omega
/-! Parts of lines. -/
def segS (F : Int → Int) (a : Int) : Nat → Int
  | 0 => 0
  | k + 1 => segS F a k + F (a + k)
theorem segS_add (F : Int → Int) (a : Int) (m : Nat) : ∀ k : Nat, segS F a (m + k) = segS F a m + segS F (a + m) k
  | 0 => by simp [segS]
  | k + 1 => by
    rw [show m + (k + 1) = (m + k) + 1 by omega]
    simp only [segS]
    rw [segS_add F a m k, show a + ((m + k : Nat) : Int) = a + (m : Int) + (k : Int) by omega]
    omega
theorem segS_split (F : Int → Int) {a b m : Int} (h1 : a ≤ m) (h2 : m ≤ b) : segS F a (b - a + 1).toNat + F m = segS F a (m - a + 1).toNat + segS F m (b - m + 1).toNat := by
  have e1 : (b - a + 1).toNat = (m - a).toNat + (b - m + 1).toNat := by omega
  have e2 : (m - a + 1).toNat = (m - a).toNat + 1 := by omega
  have e3 : a + ((m - a).toNat : Int) = m := by omega
  rw [e1, segS_add, e2, e3]
  simp only [segS]
  rw [e3]
  omega
theorem row_seg (f : Cel → Int) (w : Int) (cs : List Cel) (ax y : Int) : ∀ k, sumP f (rowK w cs ax y k) = segS (fun x => f (atP w cs x y)) ax k
  | 0 => rfl
  | k + 1 => by rw [rowK, sumP_app, row_seg f w cs ax y k]; simp [sumP, sumI, segS]
theorem col_seg (f : Cel → Int) (w : Int) (cs : List Cel) (ax ay : Int) : ∀ k, sumP f (blkK w cs ax ay 1 k) = segS (fun y => f (atP w cs ax y)) ay k
  | 0 => rfl
  | k + 1 => by rw [blkK, sumP_app, col_seg f w cs ax ay k]; simp [sumP, sumI, segS, rowK]
theorem blk_row (f : Cel → Int) (w : Int) (cs : List Cel) (a : Pnt) (x : Int) : sumP f (blk w cs a ⟨x, a.y⟩) = segS (fun q => f (atP w cs q a.y)) a.x (x - a.x + 1).toNat := by
  unfold blk
  simp only [show (a.y - a.y + 1).toNat = 1 by omega]
  simp only [blkK, List.nil_append, row_seg, Int.natCast_zero, Int.add_zero]
theorem blk_col (f : Cel → Int) (w : Int) (cs : List Cel) (a : Pnt) (y : Int) : sumP f (blk w cs a ⟨a.x, y⟩) = segS (fun q => f (atP w cs a.x q)) a.y (y - a.y + 1).toNat := by
  unfold blk
  simp only [show (a.x - a.x + 1).toNat = 1 by omega]
  exact col_seg f w cs a.x a.y _
/-- The circulation by parts of lines. -/
theorem circ_seg (g : Grd) (a d : Pnt) : circ g a d =
    (segS (fun q => (atP g.w g.cs q a.y).e) a.x (d.x - a.x + 1).toNat - segS (fun q => (atP g.w g.cs q a.y).w) a.x (d.x - a.x + 1).toNat) + (segS (fun q => (atP g.w g.cs d.x q).n) a.y (d.y - a.y + 1).toNat - segS (fun q => (atP g.w g.cs d.x q).s) a.y (d.y - a.y + 1).toNat) -
    (segS (fun q => (atP g.w g.cs q d.y).e) a.x (d.x - a.x + 1).toNat - segS (fun q => (atP g.w g.cs q d.y).w) a.x (d.x - a.x + 1).toNat) - (segS (fun q => (atP g.w g.cs a.x q).n) a.y (d.y - a.y + 1).toNat - segS (fun q => (atP g.w g.cs a.x q).s) a.y (d.y - a.y + 1).toNat) := by
  have r1 := fun f => blk_row f g.w g.cs a d.x
  have r2 := fun f => blk_row f g.w g.cs ⟨a.x, d.y⟩ d.x
  have c1 := fun f => blk_col f g.w g.cs a d.y
  have c2 := fun f => blk_col f g.w g.cs ⟨d.x, a.y⟩ d.y
  simp only at r2 c2
  unfold circ sumC
  simp only [r1, r2, c1, c2]
theorem join_rows {g : Grd} {a d : Pnt} {m : Int} (h1 : a.y ≤ m) (h2 : m ≤ d.y) : circ g a d = circ g a ⟨d.x, m⟩ + circ g ⟨a.x, m⟩ d - ((atP g.w g.cs d.x m).n - (atP g.w g.cs d.x m).s) + ((atP g.w g.cs a.x m).n - (atP g.w g.cs a.x m).s) := by
  simp only [circ_seg]
  have s1 := segS_split (fun q => (atP g.w g.cs d.x q).n) h1 h2
  have s2 := segS_split (fun q => (atP g.w g.cs d.x q).s) h1 h2
  have s3 := segS_split (fun q => (atP g.w g.cs a.x q).n) h1 h2
  have s4 := segS_split (fun q => (atP g.w g.cs a.x q).s) h1 h2
  omega
theorem join_cols {g : Grd} {a d : Pnt} {m : Int} (h1 : a.x ≤ m) (h2 : m ≤ d.x) : circ g a d = circ g a ⟨m, d.y⟩ + circ g ⟨m, a.y⟩ d - ((atP g.w g.cs m a.y).e - (atP g.w g.cs m a.y).w) + ((atP g.w g.cs m d.y).e - (atP g.w g.cs m d.y).w) := by
  simp only [circ_seg]
  have s1 := segS_split (fun q => (atP g.w g.cs q a.y).e) h1 h2
  have s2 := segS_split (fun q => (atP g.w g.cs q a.y).w) h1 h2
  have s3 := segS_split (fun q => (atP g.w g.cs q d.y).e) h1 h2
  have s4 := segS_split (fun q => (atP g.w g.cs q d.y).w) h1 h2
  omega
/-! ### Lists of points -/
theorem Pnt.ext2 {a b : Pnt} (h : a.x = b.x ∧ a.y = b.y) : a = b := by
  obtain ⟨a1, a2⟩ := a
  obtain ⟨b1, b2⟩ := b
  simp only at h
  obtain ⟨rfl, rfl⟩ := h
  rfl
theorem Pnt.ne2 {a b : Pnt} (h : a.x ≠ b.x ∨ a.y ≠ b.y) : ¬ a = b := by
  rintro rfl
  simp at h
theorem samp_f1 {α : Type} [DecidableEq α] {a b : List α} (h : a.length ≠ b.length) : decide (a = b) = false := decide_eq_false fun e => h (by rw [e])
theorem samp_t {α : Type} [DecidableEq α] {a b : List α} {k : Nat} (hl : a.length = b.length) (h : a.take k = b.take k) (hk : a.length ≤ k) : decide (a = b) = true := by
  rw [List.take_of_length_le hk, List.take_of_length_le (by omega)] at h; simpa using h
theorem samp_f2 {a b : List Pnt} {k : Nat} (ha : k < a.length) (hb : k < b.length) (h : ¬ (a.getD k default = b.getD k default)) : decide (a = b) = false := decide_eq_false fun e => h (by rw [e])
theorem samp_next {a b : List Pnt} {k : Nat} (ha : k < a.length) (hb : k < b.length) (h : a.take k = b.take k) (he : a.getD k default = b.getD k default) : a.take (k + 1) = b.take (k + 1) := by
  rw [take_snoc a default ha, take_snoc b default hb, h, he]
/-! ### The next cell of a path -/
def mvx8 (d : Int) : Int := if d = 0 then 1 else if d = 2 then -1 else 0
def mvy8 (d : Int) : Int := if d = 1 then 1 else if d = 3 then -1 else 0
/-- The cell to which the main way of a cell leads. -/
def nextK (g : Grd) (k : Int) : Int := (k % g.w + mvx8 (bestD (g.cs.getD k.toNat default))) % g.w + g.w * ((k / g.w + mvy8 (bestD (g.cs.getD k.toNat default))) % g.h)
def nextV (g : Grd) (k : Int) : Int := if someC (g.cs.getD k.toNat default) then nextK g k else 0
theorem best_bd (c : Cel) : 0 ≤ bestD c ∧ bestD c ≤ 3 := by
  unfold bestD; (repeat' split) <;> omega
theorem next_bd {g : Grd} (hg : g.ok = true) {k : Int} (h0 : 0 ≤ k) (h1 : k < g.cs.length) : (0 ≤ k % g.w ∧ k % g.w < g.w) ∧ (0 ≤ k / g.w ∧ k / g.w < g.h) ∧ (∀ x : Int, -1 ≤ x → x ≤ 1 → (k % g.w + x + g.w).tmod g.w = (k % g.w + x) % g.w ∧ 0 ≤ (k % g.w + x) % g.w ∧ (k % g.w + x) % g.w ≤ g.w - 1) ∧ (∀ y : Int, -1 ≤ y → y ≤ 1 → (k / g.w + y + g.h).tmod g.h = (k / g.w + y) % g.h ∧ 0 ≤ (k / g.w + y) % g.h ∧ (k / g.w + y) % g.h ≤ g.h - 1) := by
  have hb := gok_bds hg
  have m1 := Int.emod_nonneg k (show g.w ≠ 0 by omega)
  have m2 := Int.emod_lt_of_pos k (show 0 < g.w by omega)
  have d1 : 0 ≤ k / g.w := Int.ediv_nonneg h0 (by omega)
  have d2 : k / g.w < g.h := Int.ediv_lt_of_lt_mul (by omega) (by rw [Int.mul_comm]; omega)
  refine ⟨⟨m1, m2⟩, ⟨d1, d2⟩, fun x hx1 hx2 => ?_, fun y hy1 hy2 => ?_⟩
  · have q1 := Int.emod_nonneg (k % g.w + x) (show g.w ≠ 0 by omega)
    have q2 := Int.emod_lt_of_pos (k % g.w + x) (show 0 < g.w by omega)
    refine ⟨?_, q1, by omega⟩
    rw [Int.tmod_eq_emod_of_nonneg (by omega), Int.add_emod_right]
  · have q1 := Int.emod_nonneg (k / g.w + y) (show g.h ≠ 0 by omega)
    have q2 := Int.emod_lt_of_pos (k / g.w + y) (show 0 < g.h by omega)
    refine ⟨?_, q1, by omega⟩
    rw [Int.tmod_eq_emod_of_nonneg (by omega), Int.add_emod_right]
theorem nextV_ff {g : Grd} {k : Int} (h : someC (g.cs.getD k.toNat default) = false) : nextV g k = 0 := by unfold nextV; rw [h]; rfl
theorem nextV_tt {g : Grd} {k : Int} (h : someC (g.cs.getD k.toNat default) = true) : nextV g k = nextK g k := by unfold nextV; rw [h]; rfl
theorem nextK_0 {g : Grd} {k : Int} (h : bestD (g.cs.getD k.toNat default) = 0) : nextK g k = (k % g.w + 1) % g.w + g.w * ((k / g.w + 0) % g.h) := by unfold nextK; rw [h]; rfl
theorem nextK_1 {g : Grd} {k : Int} (h : bestD (g.cs.getD k.toNat default) = 1) : nextK g k = (k % g.w + 0) % g.w + g.w * ((k / g.w + 1) % g.h) := by unfold nextK; rw [h]; rfl
theorem nextK_2 {g : Grd} {k : Int} (h : bestD (g.cs.getD k.toNat default) = 2) : nextK g k = (k % g.w + -1) % g.w + g.w * ((k / g.w + 0) % g.h) := by unfold nextK; rw [h]; rfl
theorem nextK_3 {g : Grd} {k : Int} (h : bestD (g.cs.getD k.toNat default) = 3) : nextK g k = (k % g.w + 0) % g.w + g.w * ((k / g.w + -1) % g.h) := by unfold nextK; rw [h]; rfl
theorem wmul_bd {g : Grd} (hg : g.ok = true) {t : Int} (h0 : 0 ≤ t) (h1 : t ≤ g.h - 1) : 0 ≤ g.w * t ∧ g.w * t ≤ 4096 := by
  have hb := gok_bds hg
  have m1 : g.w * t ≤ 64 * t := Int.mul_le_mul_of_nonneg_right (by omega) h0
  exact ⟨Int.mul_nonneg (by omega) h0, by omega⟩
/-! ### The grid that is looked at first -/
abbrev cA : Cel := ⟨1, 0, 0, 0⟩
abbrev GA8 : Grd := ⟨2, 2, [⟨1, 0, 0, 0⟩, ⟨0, 1, 0, 0⟩, ⟨0, 0, 0, 0⟩, ⟨0, 0, 0, 0⟩]⟩
theorem ga_1 : circR GA8 ⟨0, 0⟩ ⟨1, 1⟩ = 2 := by decide
theorem ga_2 : blkE GA8 ⟨0, 0⟩ ⟨1, 1⟩ = 0 := by decide
theorem ga_3 : blkE GA8 ⟨0, 0⟩ ⟨0, 0⟩ = 0 := by decide
theorem ga_v : GA8.ok = true := by decide
theorem ga_n0 : nextV GA8 0 = 1 := by decide
theorem ga_n1 : nextV GA8 1 = 3 := by decide
theorem ga_n3 : nextV GA8 3 = 0 := by decide
/-! ### Blocks that are joined -/
def big8 (g : Grd) : Prop := 100 < g.cs.length ∧ g.cs.length ≤ 1024 ∨ 1100 < g.cs.length
instance (g : Grd) : Decidable (big8 g) := by unfold big8; exact inferInstance
theorem circ_at {g : Grd} {a d : Pnt} (hg : g.ok = true) (hb : blkOk g a d) : blkE g a d = 0 ∧ circR g a d = circ g a d := by
  rcases circ_ways g a d with ⟨hv, _⟩ | ⟨hv, _, _, hn⟩ | ⟨hv, he, hr, _⟩
  · rw [hg] at hv; cases hv
  · exact absurd hb hn
  · exact ⟨he, hr⟩
def inY (a d : Pnt) (m : Int) : Prop := a.y ≤ m ∧ m ≤ d.y
def inX (a d : Pnt) (m : Int) : Prop := a.x ≤ m ∧ m ≤ d.x
theorem rows_at {g : Grd} {a d : Pnt} {m : Int} (hg : g.ok = true) (hb : blkOk g a d) (hm : inY a d m) :
    blkE g a ⟨d.x, m⟩ = 0 ∧ circR g a ⟨d.x, m⟩ = circ g a ⟨d.x, m⟩ ∧ blkE g ⟨a.x, m⟩ d = 0 ∧ circR g ⟨a.x, m⟩ d = circ g ⟨a.x, m⟩ d ∧ (-40000000000000 ≤ circ g a ⟨d.x, m⟩ ∧ circ g a ⟨d.x, m⟩ ≤ 40000000000000) ∧ (-40000000000000 ≤ circ g ⟨a.x, m⟩ d ∧ circ g ⟨a.x, m⟩ d ≤ 40000000000000) ∧
    circ g a d = circ g a ⟨d.x, m⟩ + circ g ⟨a.x, m⟩ d - ((atP g.w g.cs d.x m).n - (atP g.w g.cs d.x m).s) + ((atP g.w g.cs a.x m).n - (atP g.w g.cs a.x m).s) := by
  have h1 : blkOk g a ⟨d.x, m⟩ := by unfold blkOk onB inY at *; simp only; omega
  have h2 : blkOk g ⟨a.x, m⟩ d := by unfold blkOk onB inY at *; simp only; omega
  exact ⟨(circ_at hg h1).1, (circ_at hg h1).2, (circ_at hg h2).1, (circ_at hg h2).2, circ_bd hg h1, circ_bd hg h2, join_rows hm.1 hm.2⟩
theorem cols_at {g : Grd} {a d : Pnt} {m : Int} (hg : g.ok = true) (hb : blkOk g a d) (hm : inX a d m) :
    blkE g a ⟨m, d.y⟩ = 0 ∧ circR g a ⟨m, d.y⟩ = circ g a ⟨m, d.y⟩ ∧ blkE g ⟨m, a.y⟩ d = 0 ∧ circR g ⟨m, a.y⟩ d = circ g ⟨m, a.y⟩ d ∧ (-40000000000000 ≤ circ g a ⟨m, d.y⟩ ∧ circ g a ⟨m, d.y⟩ ≤ 40000000000000) ∧ (-40000000000000 ≤ circ g ⟨m, a.y⟩ d ∧ circ g ⟨m, a.y⟩ d ≤ 40000000000000) ∧
    circ g a d = circ g a ⟨m, d.y⟩ + circ g ⟨m, a.y⟩ d - ((atP g.w g.cs m a.y).e - (atP g.w g.cs m a.y).w) + ((atP g.w g.cs m d.y).e - (atP g.w g.cs m d.y).w) := by
  have h1 : blkOk g a ⟨m, d.y⟩ := by unfold blkOk onB inX at *; simp only; omega
  have h2 : blkOk g ⟨m, a.y⟩ d := by unfold blkOk onB inX at *; simp only; omega
  exact ⟨(circ_at hg h1).1, (circ_at hg h1).2, (circ_at hg h2).1, (circ_at hg h2).2, circ_bd hg h1, circ_bd hg h2, join_cols hm.1 hm.2⟩
theorem join_ways (g : Grd) (a d : Pnt) (m : Int) : big8 g ∨ (¬ big8 g ∧ ¬ blkE g a d = 0) ∨ (¬ big8 g ∧ g.ok = true ∧ blkOk g a d ∧ blkE g a d = 0 ∧ circR g a d = circ g a d ∧ (inY a d m ∨ ¬ inY a d m) ∧ (inX a d m ∨ ¬ inX a d m)) := by
  by_cases hb : big8 g
  · exact .inl hb
  · rcases circ_ways g a d with ⟨_, he, _⟩ | ⟨_, he, _⟩ | ⟨hv, he, hr, hk⟩
    · exact .inr (.inl ⟨hb, by omega⟩)
    · exact .inr (.inl ⟨hb, by omega⟩)
    · exact .inr (.inr ⟨hb, hv, hk, he, hr, Classical.em _, Classical.em _⟩)
theorem atP_bd {g : Grd} (hg : g.ok = true) (x y : Int) : bd9 (atP g.w g.cs x y) := okL_bd9 (gok_okL hg) _
end Go.Sy

/- Joined blocks: the ways, told for the walk. -/
namespace Go.Sy
/-- What is known of the rows that are shared, if there are any. -/
def rowsF (g : Grd) (a d : Pnt) (m : Int) : Prop := (inY a d m) ∧ blkE g a ⟨d.x, m⟩ = 0 ∧ circR g a ⟨d.x, m⟩ = circ g a ⟨d.x, m⟩ ∧ blkE g ⟨a.x, m⟩ d = 0 ∧ circR g ⟨a.x, m⟩ d = circ g ⟨a.x, m⟩ d ∧ (-40000000000000 ≤ circ g a ⟨d.x, m⟩ ∧ circ g a ⟨d.x, m⟩ ≤ 40000000000000) ∧ (-40000000000000 ≤ circ g ⟨a.x, m⟩ d ∧ circ g ⟨a.x, m⟩ d ≤ 40000000000000) ∧
    circ g a d = circ g a ⟨d.x, m⟩ + circ g ⟨a.x, m⟩ d - ((atP g.w g.cs d.x m).n - (atP g.w g.cs d.x m).s) + ((atP g.w g.cs a.x m).n - (atP g.w g.cs a.x m).s) ∧ bd9 (atP g.w g.cs d.x m) ∧ bd9 (atP g.w g.cs a.x m)
def colsF (g : Grd) (a d : Pnt) (m : Int) : Prop := (inX a d m) ∧ blkE g a ⟨m, d.y⟩ = 0 ∧ circR g a ⟨m, d.y⟩ = circ g a ⟨m, d.y⟩ ∧ blkE g ⟨m, a.y⟩ d = 0 ∧ circR g ⟨m, a.y⟩ d = circ g ⟨m, a.y⟩ d ∧ (-40000000000000 ≤ circ g a ⟨m, d.y⟩ ∧ circ g a ⟨m, d.y⟩ ≤ 40000000000000) ∧ (-40000000000000 ≤ circ g ⟨m, a.y⟩ d ∧ circ g ⟨m, a.y⟩ d ≤ 40000000000000) ∧
    circ g a d = circ g a ⟨m, d.y⟩ + circ g ⟨m, a.y⟩ d - ((atP g.w g.cs m a.y).e - (atP g.w g.cs m a.y).w) + ((atP g.w g.cs m d.y).e - (atP g.w g.cs m d.y).w) ∧ bd9 (atP g.w g.cs m a.y) ∧ bd9 (atP g.w g.cs m d.y)
theorem joinW (g : Grd) (a d : Pnt) (m : Int) : (decide (big8 g) = true ∧ True ∧ True ∧ True ∧ True ∧ True ∧ True ∧ True ∧ True ∧ True ∧ True) ∨ (decide (big8 g) = false ∧ g.cs.length ≤ 1100 ∧ ¬ blkE g a d = 0 ∧ True ∧ True ∧ True ∧ True ∧ True ∧ True ∧ True ∧ True ∧ True) ∨
    (decide (big8 g) = false ∧ g.cs.length ≤ 1100 ∧ g.ok = true ∧ blkOk g a d ∧ blkE g a d = 0 ∧ circR g a d = circ g a d ∧ (rowsF g a d m ∨ ((¬ inY a d m) ∧ True ∧ True ∧ True ∧ True)) ∧ (colsF g a d m ∨ ((¬ inX a d m) ∧ True ∧ True ∧ True ∧ True))) := by
  rcases join_ways g a d m with h | ⟨h, h1⟩ | ⟨h, hv, hk, he, hr, hy, hx⟩
  · exact .inl ⟨decide_eq_true h, trivial, trivial, trivial, trivial, trivial, trivial, trivial, trivial, trivial, trivial⟩
  · exact .inr (.inl ⟨decide_eq_false h, by unfold big8 at h; omega, h1, trivial, trivial, trivial, trivial, trivial, trivial, trivial, trivial, trivial⟩)
  · refine .inr (.inr ⟨decide_eq_false h, by unfold big8 at h; omega, hv, hk, he, hr, ?_, ?_⟩)
    · rcases hy with hy | hy
      · obtain ⟨r1, r2, r3, r4, r5, r6, r7⟩ := rows_at hv hk hy
        exact .inl ⟨hy, r1, r2, r3, r4, r5, r6, r7, atP_bd hv _ _, atP_bd hv _ _⟩
      · exact .inr ⟨hy, trivial, trivial, trivial, trivial⟩
    · rcases hx with hx | hx
      · obtain ⟨r1, r2, r3, r4, r5, r6, r7⟩ := cols_at hv hk hx
        exact .inl ⟨hx, r1, r2, r3, r4, r5, r6, r7, atP_bd hv _ _, atP_bd hv _ _⟩
      · exact .inr ⟨hx, trivial, trivial, trivial, trivial⟩
end Go.Sy

/- Cells of a block told one by one; the place of the greatest value; grids whose cells are alike. -/
set_option linter.unusedSimpArgs false
set_option linter.unusedVariables false
set_option linter.unusedSectionVars false
namespace Go.Sy
/-! ### Cells of a block, under way -/
def blkJ (w : Int) (cs : List Cel) (a : Pnt) (n j i : Nat) : List Cel := blkK w cs a.x a.y n j ++ rowK w cs a.x (a.y + j) i
theorem blkK_len (w : Int) (cs : List Cel) (ax ay : Int) (n k : Nat) : (blkK w cs ax ay n k).length = n * k := by rw [blkK_length, Nat.mul_comm]
theorem blkJ_len (w : Int) (cs : List Cel) (a : Pnt) (n j i : Nat) : (blkJ w cs a n j i).length = n * j + i := by rw [blkJ, List.length_append, blkK_len, rowK_length]
theorem blkJ_zero (w : Int) (cs : List Cel) (a : Pnt) (n j : Nat) : blkJ w cs a n j 0 = blkK w cs a.x a.y n j := by simp [blkJ, rowK]
theorem blkJ_row (w : Int) (cs : List Cel) (a : Pnt) (n j : Nat) : blkJ w cs a n j n = blkK w cs a.x a.y n (j + 1) := rfl
theorem blkJ_app (w : Int) (cs : List Cel) (a : Pnt) (n j i : Nat) {c : Cel} (hc : c = atP w cs (a.x + i) (a.y + j)) : blkJ w cs a n j i ++ [c] = blkJ w cs a n j (i + 1) := by
  subst hc; simp only [blkJ, rowK, List.append_assoc]
theorem blk_end (w : Int) (cs : List Cel) {a b : Pnt} {j : Nat} (hj : j = (b.y - a.y + 1).toNat) : blkK w cs a.x a.y (b.x - a.x + 1).toNat j = blk w cs a b := by subst hj; rfl
theorem blk_length2 (w : Int) (cs : List Cel) (a b : Pnt) : (blk w cs a b).length = (b.x - a.x + 1).toNat * (b.y - a.y + 1).toNat := by rw [blk, blkK_len]
theorem okL_row {w : Int} {cs : List Cel} (h : okL cs = true) (ax y : Int) : ∀ k, okL (rowK w cs ax y k) = true
  | 0 => rfl
  | k + 1 => by
    have h1 := okL_row (w := w) h ax y k
    rw [okL_iff] at h1 ⊢
    intro c hc
    rw [rowK, List.mem_append, List.mem_singleton] at hc
    rcases hc with hc | rfl
    · exact h1 c hc
    · unfold atP
      by_cases hi : (ax + k + w * y).toNat < cs.length
      · exact okL_at h hi
      · rw [show cs.getD (ax + k + w * y).toNat default = default by simp [List.getD, List.getElem?_eq_none (show cs.length ≤ (ax + k + w * y).toNat by omega)]]
        decide
theorem okL_app {l m : List Cel} (h : okL l = true) (h2 : okL m = true) : okL (l ++ m) = true := by
  rw [okL_iff] at *
  intro c hc
  rw [List.mem_append] at hc
  exact hc.elim (h c) (h2 c)
theorem okL_blkK {w : Int} {cs : List Cel} (h : okL cs = true) (ax ay : Int) (n : Nat) : ∀ k, okL (blkK w cs ax ay n k) = true
  | 0 => rfl
  | k + 1 => by rw [blkK]; exact okL_app (okL_blkK h ax ay n k) (okL_row h _ _ _)
theorem okL_blk {g : Grd} (hg : g.ok = true) (a b : Pnt) : okL (blk g.w g.cs a b) = true := okL_blkK (gok_okL hg) _ _ _ _
theorem blk_len5 {g : Grd} (hg : g.ok = true) {a b : Pnt} (hb : blkOk g a b) : (blk g.w g.cs a b).length ≤ 4096 := by
  have := blk_len hg hb; omega
theorem blk_pos {g : Grd} (hg : g.ok = true) {a b : Pnt} (hb : blkOk g a b) : 0 < (blk g.w g.cs a b).length := by
  have := blk_len hg hb; omega
theorem sum_end {l : List Cel} {k : Nat} (hk : l.length ≤ k) : l.take k = l := List.take_of_length_le hk
/-! ### Sides -/
def sidE (g : Grd) (wide high : Int) : Int := if g.ok then (if (1 ≤ wide ∧ wide ≤ g.w) ∧ 1 ≤ high ∧ high ≤ g.h then 0 else 7) else 1
theorem sid_ways (g : Grd) (wide high : Int) : (g.ok = false ∧ sidE g wide high = 1) ∨ (g.ok = true ∧ sidE g wide high = 7 ∧ ¬ ((1 ≤ wide ∧ wide ≤ g.w) ∧ 1 ≤ high ∧ high ≤ g.h)) ∨ (g.ok = true ∧ sidE g wide high = 0 ∧ (1 ≤ wide ∧ wide ≤ g.w) ∧ 1 ≤ high ∧ high ≤ g.h) := by
  unfold sidE
  cases hg : g.ok
  · exact .inl ⟨rfl, rfl⟩
  · by_cases hb : (1 ≤ wide ∧ wide ≤ g.w) ∧ 1 ≤ high ∧ high ≤ g.h
    · exact .inr (.inr ⟨rfl, by simp [hb], hb⟩)
    · exact .inr (.inl ⟨rfl, by simp [hb], hb⟩)
/-! ### The first place with the greatest value -/
structure Bst where
  met : Bool
  x : Nat
  y : Nat
def stepB (key : Nat → Nat → Int) (j i : Nat) (s : Bst) : Bst := if s.met = false ∨ key s.y s.x < key j i then ⟨true, i, j⟩ else s
def rowB (key : Nat → Nat → Int) (j : Nat) (s : Bst) : Nat → Bst
  | 0 => s
  | i + 1 => stepB key j i (rowB key j s i)
def gridB (key : Nat → Nat → Int) (n : Nat) : Nat → Bst
  | 0 => ⟨false, 0, 0⟩
  | j + 1 => rowB key j (gridB key n j) n
def bstJ (key : Nat → Nat → Int) (n j i : Nat) : Bst := rowB key j (gridB key n j) i
def bval (F : Nat → Nat → Int) (s : Bst) : Int := if s.met then F s.y s.x else 0
theorem bstJ_zero (key : Nat → Nat → Int) (n j : Nat) : bstJ key n j 0 = gridB key n j := rfl
theorem bstJ_row (key : Nat → Nat → Int) (n j : Nat) : bstJ key n j n = gridB key n (j + 1) := rfl
theorem bst_new {key : Nat → Nat → Int} {n j i : Nat} (h : (bstJ key n j i).met = false ∨ key (bstJ key n j i).y (bstJ key n j i).x < key j i) : bstJ key n j (i + 1) = ⟨true, i, j⟩ := by
  show stepB key j i (bstJ key n j i) = _
  unfold stepB; rw [if_pos h]
theorem bst_old {key : Nat → Nat → Int} {n j i : Nat} (h : (bstJ key n j i).met = true) (h2 : ¬ key (bstJ key n j i).y (bstJ key n j i).x < key j i) : bstJ key n j (i + 1) = bstJ key n j i := by
  show stepB key j i (bstJ key n j i) = _
  unfold stepB; rw [if_neg (by rw [h]; simp; omega)]
theorem bst_in (key : Nat → Nat → Int) (n : Nat) : ∀ (j i : Nat), i ≤ n → ((bstJ key n j i).met = false ∧ (bstJ key n j i).x = 0 ∧ (bstJ key n j i).y = 0 ∧ j * n + i = 0) ∨ ((bstJ key n j i).met = true ∧ (bstJ key n j i).x < n ∧ (bstJ key n j i).y ≤ j ∧ ((bstJ key n j i).y = j → (bstJ key n j i).x < i))
  | 0, 0, _ => .inl ⟨rfl, rfl, rfl, by omega⟩
  | j + 1, 0, _ => by
    rw [bstJ_zero, ← bstJ_row]
    rcases bst_in key n j n (Nat.le_refl _) with ⟨h1, h2, h3, h4⟩ | ⟨h1, h2, h3, h4⟩
    · exact .inl ⟨h1, h2, h3, by rw [Nat.add_zero, Nat.succ_mul]; exact h4⟩
    · exact .inr ⟨h1, h2, by omega, by omega⟩
  | j, i + 1, hi => by
    have ih := bst_in key n j i (by omega)
    by_cases h : (bstJ key n j i).met = false ∨ key (bstJ key n j i).y (bstJ key n j i).x < key j i
    · rw [bst_new h]
      exact .inr ⟨rfl, by show i < n; omega, Nat.le_refl _, fun _ => by show i < i + 1; omega⟩
    · rw [not_or] at h
      have hm : (bstJ key n j i).met = true := by cases hq : (bstJ key n j i).met <;> simp_all
      rw [bst_old hm h.2]
      rcases ih with ⟨h1, _⟩ | ⟨h1, h2, h3, h4⟩
      · rw [hm] at h1; cases h1
      · exact .inr ⟨h1, h2, h3, fun q => by have := h4 q; omega⟩
theorem bval_new (F : Nat → Nat → Int) (i j : Nat) : bval F ⟨true, i, j⟩ = F j i := rfl
theorem bval_met {F : Nat → Nat → Int} {s : Bst} (h : s.met = true) : bval F s = F s.y s.x := by unfold bval; rw [h]; rfl
theorem bval_bd {F : Nat → Nat → Int} {lo up : Int} {n m : Nat} (hF : ∀ j i, j < m → i < n → lo ≤ F j i ∧ F j i ≤ up) (h0 : lo ≤ 0 ∧ 0 ≤ up) {key : Nat → Nat → Int} {j i : Nat} (hj : j < m ∨ j = m ∧ i = 0) (hi : i ≤ n) : lo ≤ bval F (bstJ key n j i) ∧ bval F (bstJ key n j i) ≤ up := by
  rcases bst_in key n j i hi with ⟨h1, _⟩ | ⟨h1, h2, h3, h4⟩
  · unfold bval; rw [h1]; exact h0
  · rw [bval_met h1]; exact hF _ _ (by omega) h2
/-! Vortices. -/
def vorF (g : Grd) (side : Int) (j i : Nat) : Int := circ g ⟨i, j⟩ ⟨(i : Int) + side - 1, (j : Int) + side - 1⟩
def vorK (g : Grd) (side : Int) (j i : Nat) : Int := (vorF g side j i).natAbs
/-- The mass of a block at a place. -/
def denK (g : Grd) (wide high : Int) (j i : Nat) : Int := (crnC g wide high i j).m
def vorB (g : Grd) (side : Int) : Bst := if sidE g side side = 0 then gridB (vorK g side) (crnN g.w side) (crnN g.h side) else ⟨false, 0, 0⟩
def vorV (g : Grd) (side : Int) : Int := bval (vorF g side) (vorB g side)
theorem vorF_bd {g : Grd} (hg : g.ok = true) {side : Int} (hs : 1 ≤ side) {j i : Nat} (hj : j < crnN g.h side) (hi : i < crnN g.w side) : -40000000000000 ≤ vorF g side j i ∧ vorF g side j i ≤ 40000000000000 := circ_bd hg (crn_ok hs hs hi hj)
theorem vor_ways (g : Grd) (side : Int) : (g.ok = false ∧ sidE g side side = 1 ∧ vorB g side = ⟨false, 0, 0⟩ ∧ vorV g side = 0 ∧ True) ∨ (g.ok = true ∧ sidE g side side = 7 ∧ vorB g side = ⟨false, 0, 0⟩ ∧ vorV g side = 0 ∧ ¬ ((1 ≤ side ∧ side ≤ g.w) ∧ 1 ≤ side ∧ side ≤ g.h)) ∨
    (g.ok = true ∧ sidE g side side = 0 ∧ vorB g side = gridB (vorK g side) (crnN g.w side) (crnN g.h side) ∧ vorV g side = bval (vorF g side) (gridB (vorK g side) (crnN g.w side) (crnN g.h side)) ∧ (1 ≤ side ∧ side ≤ g.w) ∧ 1 ≤ side ∧ side ≤ g.h) := by
  rcases sid_ways g side side with ⟨h1, h2⟩ | ⟨h1, h2, h3⟩ | ⟨h1, h2, h3⟩
  · have e : vorB g side = ⟨false, 0, 0⟩ := by simp [vorB, h2]
    exact .inl ⟨h1, h2, e, by simp [vorV, e, bval], trivial⟩
  · have e : vorB g side = ⟨false, 0, 0⟩ := by simp [vorB, h2]
    exact .inr (.inl ⟨h1, h2, e, by simp [vorV, e, bval], h3⟩)
  · have e : vorB g side = gridB (vorK g side) (crnN g.w side) (crnN g.h side) := by simp [vorB, h2]
    exact .inr (.inr ⟨h1, h2, e, by rw [vorV, e], h3⟩)
/-! ### Grids whose cells are alike -/
def alC (c : Cel) : Cel := ⟨c.e % 1000, c.n % 1000, c.w % 1000, c.s % 1000⟩
def alG (g : Grd) : Grd := ⟨g.w, g.h, List.replicate g.cs.length (alC (g.cs.getD 0 default))⟩
theorem massL_rep (c : Cel) : ∀ n : Nat, massL (List.replicate n c) = n * c.m
  | 0 => by simp [massL]
  | n + 1 => by
    rw [List.replicate_succ, massL, massL_rep c n, show ((n + 1 : Nat) : Int) = (n : Int) + 1 by omega, Int.add_mul, Int.one_mul, Int.add_comm]
theorem alC_bd (c : Cel) : (0 ≤ (alC c).e ∧ (alC c).e ≤ 999) ∧ (0 ≤ (alC c).n ∧ (alC c).n ≤ 999) ∧ (0 ≤ (alC c).w ∧ (alC c).w ≤ 999) ∧ 0 ≤ (alC c).s ∧ (alC c).s ≤ 999 := by
  unfold alC; simp only; omega
theorem alG_ok {g : Grd} (hg : g.ok = true) : (alG g).ok = true := by
  have h := Grd.ok_iff.1 hg
  have hb := gok_bds hg
  have hc := alC_bd (g.cs.getD 0 default)
  rw [Grd.ok_iff]
  refine ⟨h.1, by simp only [alG, List.length_replicate]; exact h.2.1, fun c q => ?_, ?_⟩
  · simp only [alG, List.mem_replicate] at q
    rw [q.2, Cel.ok_iff]
    unfold Cel.m at *
    omega
  · simp only [alG]
    rw [massL_rep]
    have hm : (alC (g.cs.getD 0 default)).m ≤ 3996 ∧ 0 ≤ (alC (g.cs.getD 0 default)).m := by unfold Cel.m; omega
    have h1 : (g.cs.length : Int) * (alC (g.cs.getD 0 default)).m ≤ 1024 * (alC (g.cs.getD 0 default)).m := Int.mul_le_mul_of_nonneg_right (by omega) hm.2
    omega
theorem segS_const (F : Int → Int) (a c : Int) : ∀ n : Nat, (∀ k : Nat, k < n → F (a + k) = c) → segS F a n = n * c
  | 0, _ => by simp [segS]
  | n + 1, h => by
    rw [segS, segS_const F a c n (fun k hk => h k (by omega)), h n (by omega), show ((n + 1 : Nat) : Int) = (n : Int) + 1 by omega, Int.add_mul, Int.one_mul]
theorem al_at {g : Grd} (hg : g.ok = true) {x y : Int} (hx : 0 ≤ x ∧ x ≤ g.w - 1) (hy : 0 ≤ y ∧ y ≤ g.h - 1) : atP (alG g).w (alG g).cs x y = alC (g.cs.getD 0 default) := by
  have hi := idx_in hg hx hy
  show (List.replicate g.cs.length (alC (g.cs.getD 0 default))).getD (x + g.w * y).toNat default = _
  have hl : (x + g.w * y).toNat < g.cs.length := by omega
  simp [List.getD, List.getElem?_replicate, hl]
theorem al_circ {g : Grd} (hg : g.ok = true) {a d : Pnt} (hb : blkOk g a d) : blkE (alG g) a d = 0 ∧ circR (alG g) a d = 0 := by
  have hk : blkOk (alG g) a d := hb
  obtain ⟨e1, e2⟩ := circ_at (alG_ok hg) hk
  refine ⟨e1, ?_⟩
  rw [e2, circ_seg]
  unfold blkOk onB at hb
  have row : ∀ (f : Cel → Int) (y : Int), 0 ≤ y ∧ y ≤ g.h - 1 → segS (fun q => f (atP (alG g).w (alG g).cs q y)) a.x (d.x - a.x + 1).toNat = (d.x - a.x + 1).toNat * f (alC (g.cs.getD 0 default)) := fun f y hy => segS_const _ _ _ _ fun k hk => congrArg f (al_at hg (by omega) hy)
  have col : ∀ (f : Cel → Int) (x : Int), 0 ≤ x ∧ x ≤ g.w - 1 → segS (fun q => f (atP (alG g).w (alG g).cs x q)) a.y (d.y - a.y + 1).toNat = (d.y - a.y + 1).toNat * f (alC (g.cs.getD 0 default)) := fun f x hx => segS_const _ _ _ _ fun k hk => congrArg f (al_at hg hx (by omega))
  rw [row (·.e) a.y (by omega), row (·.w) a.y (by omega), row (·.e) d.y (by omega), row (·.w) d.y (by omega), col (·.n) d.x (by omega), col (·.s) d.x (by omega), col (·.n) a.x (by omega), col (·.s) a.x (by omega)]
  omega
theorem rep_snoc (c : Cel) (n : Nat) : List.replicate n c ++ [c] = List.replicate (n + 1) c := by rw [List.replicate_succ']
/-! The ways of the law of loops. -/
theorem loopW (g : Grd) (a d : Pnt) : (decide (big8 g) = true ∧ True) ∨ (decide (big8 g) = false ∧ ¬ blkE g a d = 0 ∧ g.cs.length ≤ 1100) ∨ (decide (big8 g) = false ∧ blkE g a d = 0 ∧ g.cs.length ≤ 1100 ∧ g.ok = true ∧ blkE (alG g) a d = 0 ∧ circR (alG g) a d = 0) := by
  by_cases hb : big8 g
  · exact .inl ⟨decide_eq_true hb, trivial⟩
  · have hl : g.cs.length ≤ 1100 := by unfold big8 at hb; omega
    rcases circ_ways g a d with ⟨_, he, _⟩ | ⟨_, he, _⟩ | ⟨hv, he, hr, hk⟩
    · exact .inr (.inl ⟨decide_eq_false hb, by omega, hl⟩)
    · exact .inr (.inl ⟨decide_eq_false hb, by omega, hl⟩)
    · exact .inr (.inr ⟨decide_eq_false hb, he, hl, hv, (al_circ hv hk).1, (al_circ hv hk).2⟩)
theorem alC_t {c : Cel} (h : c.ok = true) : (c.e.tmod 1000 = (alC c).e ∧ c.n.tmod 1000 = (alC c).n) ∧ c.w.tmod 1000 = (alC c).w ∧ c.s.tmod 1000 = (alC c).s := by
  have hb := Cel.ok_iff.1 h
  unfold alC
  simp only
  refine ⟨⟨?_, ?_⟩, ?_, ?_⟩ <;> exact Int.tmod_eq_emod_of_nonneg (by omega)
theorem rep_app (c : Cel) (n : Nat) {e n' w s : Int} (he : e = c.e) (hn : n' = c.n) (hw : w = c.w) (hs : s = c.s) : Cts.cx (List.replicate n c ++ [⟨e, n', w, s⟩]) = Cts.cx (List.replicate (n + 1) c) := by
  subst he hn hw hs; rw [List.replicate_succ']
end Go.Sy

/- Means of blocks, densest blocks, tables. -/
set_option linter.unusedSimpArgs false
set_option linter.unusedVariables false
set_option linter.unusedSectionVars false
namespace Go.Sy
/-! ### Cells, velocities -/
def cellsR (g : Grd) (a b : Pnt) : Int := if blkE g a b = 0 then (b.x - a.x + 1) * (b.y - a.y + 1) else 0
def velE (g : Grd) (a b : Pnt) : Int := if blkE g a b = 0 then (if massL (blk g.w g.cs a b) = 0 then 8 else 0) else blkE g a b
def velX (g : Grd) (a b : Pnt) : Rat2 := if velE g a b = 0 then ratP (eastL (blk g.w g.cs a b)) (massL (blk g.w g.cs a b)) else ⟨0, 0⟩
def velY (g : Grd) (a b : Pnt) : Rat2 := if velE g a b = 0 then ratP (northL (blk g.w g.cs a b)) (massL (blk g.w g.cs a b)) else ⟨0, 0⟩
theorem blk_sums {g : Grd} (hg : g.ok = true) {a b : Pnt} (hb : blkOk g a b) : (0 ≤ massL (blk g.w g.cs a b) ∧ massL (blk g.w g.cs a b) ≤ 20000000000000) ∧ (-20000000000000 ≤ eastL (blk g.w g.cs a b) ∧ eastL (blk g.w g.cs a b) ≤ 20000000000000) ∧ (-20000000000000 ≤ northL (blk g.w g.cs a b) ∧ northL (blk g.w g.cs a b) ≤ 20000000000000) := by
  have h := blk_bds hg hb
  have m := sumC_m (blk g.w g.cs a b)
  unfold Cel.m at m
  omega
theorem vel_ways (g : Grd) (a b : Pnt) : (g.ok = false ∧ blkE g a b = 1 ∧ velE g a b = 1 ∧ velX g a b = ⟨0, 0⟩ ∧ velY g a b = ⟨0, 0⟩ ∧ True ∧ True) ∨ (g.ok = true ∧ blkE g a b = 7 ∧ velE g a b = 7 ∧ velX g a b = ⟨0, 0⟩ ∧ velY g a b = ⟨0, 0⟩ ∧ True ∧ ¬ blkOk g a b) ∨
    (g.ok = true ∧ blkE g a b = 0 ∧ velE g a b = 8 ∧ velX g a b = ⟨0, 0⟩ ∧ velY g a b = ⟨0, 0⟩ ∧ massL (blk g.w g.cs a b) = 0 ∧ blkOk g a b) ∨
    (g.ok = true ∧ blkE g a b = 0 ∧ velE g a b = 0 ∧ velX g a b = ratP (eastL (blk g.w g.cs a b)) (massL (blk g.w g.cs a b)) ∧ velY g a b = ratP (northL (blk g.w g.cs a b)) (massL (blk g.w g.cs a b)) ∧ 0 < massL (blk g.w g.cs a b) ∧ blkOk g a b) := by
  rcases blkE_ways g a b with ⟨h1, h2⟩ | ⟨h1, h2, h3⟩ | ⟨h1, h2, h3⟩
  · have e : velE g a b = 1 := by simp [velE, h2]
    exact .inl ⟨h1, h2, e, by simp [velX, e], by simp [velY, e], trivial, trivial⟩
  · have e : velE g a b = 7 := by simp [velE, h3]
    exact .inr (.inl ⟨h1, h3, e, by simp [velX, e], by simp [velY, e], trivial, h2⟩)
  · have hs := blk_sums h1 h2
    by_cases hm : massL (blk g.w g.cs a b) = 0
    · have e : velE g a b = 8 := by simp [velE, h3, hm]
      exact .inr (.inr (.inl ⟨h1, h3, e, by simp [velX, e], by simp [velY, e], hm, h2⟩))
    · have e : velE g a b = 0 := by simp [velE, h3, hm]
      exact .inr (.inr (.inr ⟨h1, h3, e, by simp [velX, e], by simp [velY, e], by omega, h2⟩))
/-! ### The densest block -/
def denB (g : Grd) (wide high : Int) : Bst := if sidE g wide high = 0 then gridB (denK g wide high) (crnN g.w wide) (crnN g.h high) else ⟨false, 0, 0⟩
def bvl (d : Int) (F : Nat → Nat → Int) (s : Bst) : Int := if s.met then F s.y s.x else d
def bcel (g : Grd) (wide high : Int) (s : Bst) : Cel := if s.met then crnC g wide high s.x s.y else ⟨0, 0, 0, 0⟩
theorem bcel_met {g : Grd} {wide high : Int} {s : Bst} (h : s.met = true) : (bcel g wide high s).m = denK g wide high s.y s.x := by unfold bcel denK; rw [h]; rfl
theorem bcel_new (g : Grd) (wide high : Int) (i j : Nat) : bcel g wide high ⟨true, i, j⟩ = crnC g wide high i j := rfl
theorem bvl_new (d : Int) (F : Nat → Nat → Int) (i j : Nat) : bvl d F ⟨true, i, j⟩ = F j i := rfl
theorem bvl_lt {F : Nat → Nat → Int} {s : Bst} {x : Int} (h : bvl (-1) F s < x) : s.met = false ∨ F s.y s.x < x := by
  unfold bvl at h
  cases hm : s.met
  · exact .inl rfl
  · rw [hm] at h; exact .inr h
theorem bvl_ge {F : Nat → Nat → Int} {s : Bst} {x : Int} (h0 : 0 ≤ x) (h : x ≤ bvl (-1) F s) : s.met = true ∧ ¬ F s.y s.x < x := by
  unfold bvl at h
  cases hm : s.met
  · rw [hm] at h; simp only [Bool.false_eq_true, if_false] at h; omega
  · rw [hm] at h; simp only [if_true] at h; exact ⟨rfl, by omega⟩
theorem denK_eq (g : Grd) (wide high : Int) (j i : Nat) : denK g wide high j i = massL (blk g.w g.cs ⟨i, j⟩ ⟨(i : Int) + wide - 1, (j : Int) + high - 1⟩) := (sumC_m _).1
theorem denK_bd {g : Grd} (hg : g.ok = true) {wide high : Int} (hw : 1 ≤ wide) (hh : 1 ≤ high) {j i : Nat} (hj : j < crnN g.h high) (hi : i < crnN g.w wide) : 0 ≤ denK g wide high j i ∧ denK g wide high j i ≤ 20000000000000 := by
  rw [denK_eq]; exact (blk_sums hg (crn_ok hw hh hi hj)).1
theorem bvl_bd {F : Nat → Nat → Int} {lo up d : Int} {n m : Nat} (hF : ∀ j i, j < m → i < n → lo ≤ F j i ∧ F j i ≤ up) (h0 : lo ≤ d ∧ d ≤ up) {key : Nat → Nat → Int} {j i : Nat} (hj : j < m ∨ j = m ∧ i = 0) (hi : i ≤ n) : lo ≤ bvl d F (bstJ key n j i) ∧ bvl d F (bstJ key n j i) ≤ up := by
  rcases bst_in key n j i hi with ⟨h1, _⟩ | ⟨h1, h2, h3, h4⟩
  · unfold bvl; rw [h1]; exact h0
  · unfold bvl; rw [h1]; exact hF _ _ (by omega) h2
theorem bcel_bd {g : Grd} (hg : g.ok = true) {wide high : Int} (hw : 1 ≤ wide) (hh : 1 ≤ high) {key : Nat → Nat → Int} {j i : Nat} (hj : j < crnN g.h high ∨ j = crnN g.h high ∧ i = 0) (hi : i ≤ crnN g.w wide) : cbd (bcel g wide high (bstJ key (crnN g.w wide) j i)) := by
  rcases bst_in key (crnN g.w wide) j i hi with ⟨h1, _⟩ | ⟨h1, h2, h3, h4⟩
  · unfold bcel; rw [h1]; unfold cbd; simp
  · unfold bcel; rw [h1]
    have hb := blk_bds hg (crn_ok hw hh h2 (show (bstJ key (crnN g.w wide) j i).y < crnN g.h high by omega))
    simp only [if_true, crnC, cbd]
    omega
theorem den_ways (g : Grd) (wide high : Int) : (g.ok = false ∧ sidE g wide high = 1 ∧ denB g wide high = ⟨false, 0, 0⟩ ∧ True) ∨ (g.ok = true ∧ sidE g wide high = 7 ∧ denB g wide high = ⟨false, 0, 0⟩ ∧ ¬ ((1 ≤ wide ∧ wide ≤ g.w) ∧ 1 ≤ high ∧ high ≤ g.h)) ∨
    (g.ok = true ∧ sidE g wide high = 0 ∧ denB g wide high = gridB (denK g wide high) (crnN g.w wide) (crnN g.h high) ∧ (1 ≤ wide ∧ wide ≤ g.w) ∧ 1 ≤ high ∧ high ≤ g.h) := by
  rcases sid_ways g wide high with ⟨h1, h2⟩ | ⟨h1, h2, h3⟩ | ⟨h1, h2, h3⟩
  · exact .inl ⟨h1, h2, by simp [denB, h2], trivial⟩
  · exact .inr (.inl ⟨h1, h2, by simp [denB, h2], h3⟩)
  · exact .inr (.inr ⟨h1, h2, by simp [denB, h2], h3⟩)
/-! ### Tables -/
def tabF (g : Grd) (wide high : Int) (j i : Nat) : Int := (crnC g wide high ((i : Int) * wide) ((j : Int) * high)).m
def tabE (g : Grd) (wide high : Int) : Int := if sidE g wide high = 0 then (if g.w % wide = 0 ∧ g.h % high = 0 then 0 else 9) else sidE g wide high
def tabL (g : Grd) (wide high : Int) : List Int := if tabE g wide high = 0 then gridL (tabF g wide high) (g.w / wide).toNat (g.h / high).toNat else []
theorem tab_ways (g : Grd) (wide high : Int) : (g.ok = false ∧ sidE g wide high = 1 ∧ tabE g wide high = sidE g wide high ∧ tabL g wide high = [] ∧ True ∧ True) ∨ (g.ok = true ∧ sidE g wide high = 7 ∧ tabE g wide high = sidE g wide high ∧ tabL g wide high = [] ∧ True ∧ True) ∨
    (g.ok = true ∧ sidE g wide high = 0 ∧ tabE g wide high = 9 ∧ tabL g wide high = [] ∧ ((1 ≤ wide ∧ wide ≤ g.w) ∧ 1 ≤ high ∧ high ≤ g.h) ∧ ¬ (g.w % wide = 0 ∧ g.h % high = 0)) ∨
    (g.ok = true ∧ sidE g wide high = 0 ∧ tabE g wide high = 0 ∧ tabL g wide high = gridL (tabF g wide high) (g.w / wide).toNat (g.h / high).toNat ∧ ((1 ≤ wide ∧ wide ≤ g.w) ∧ 1 ≤ high ∧ high ≤ g.h) ∧ g.w % wide = 0 ∧ g.h % high = 0) := by
  rcases sid_ways g wide high with ⟨h1, h2⟩ | ⟨h1, h2, h3⟩ | ⟨h1, h2, h3⟩
  · have e : tabE g wide high = 1 := by simp [tabE, h2]
    exact .inl ⟨h1, h2, e.trans h2.symm, by simp [tabL, e], trivial, trivial⟩
  · have e : tabE g wide high = 7 := by simp [tabE, h2]
    exact .inr (.inl ⟨h1, h2, e.trans h2.symm, by simp [tabL, e], trivial, trivial⟩)
  · by_cases hq : g.w % wide = 0 ∧ g.h % high = 0
    · have e : tabE g wide high = 0 := by simp [tabE, h2, hq]
      exact .inr (.inr (.inr ⟨h1, h2, e, by simp [tabL, e], h3, hq⟩))
    · have e : tabE g wide high = 9 := by unfold tabE; rw [if_pos h2, if_neg hq]
      exact .inr (.inr (.inl ⟨h1, h2, e, by simp [tabL, e], h3, hq⟩))
/-- The table under way: blocks that begin at a multiple of the sides. -/
def tabR (F : Nat → Nat → Int) (w h j : Nat) : Nat → List Int
  | 0 => []
  | i + 1 => tabR F w h j i ++ (if i % w = 0 ∧ j % h = 0 then [F j i] else [])
def tabG (F : Nat → Nat → Int) (w h n : Nat) : Nat → List Int
  | 0 => []
  | j + 1 => tabG F w h n j ++ tabR F w h j n
def tabJ (F : Nat → Nat → Int) (w h n j i : Nat) : List Int := tabG F w h n j ++ tabR F w h j i
theorem tabJ_zero (F : Nat → Nat → Int) (w h n j : Nat) : tabJ F w h n j 0 = tabG F w h n j := by simp [tabJ, tabR]
theorem tabJ_row (F : Nat → Nat → Int) (w h n j : Nat) : tabJ F w h n j n = tabG F w h n (j + 1) := rfl
theorem tabJ_t {F : Nat → Nat → Int} {w h n j i : Nat} (q : i % w = 0 ∧ j % h = 0) : tabJ F w h n j (i + 1) = tabJ F w h n j i ++ [F j i] := by
  simp only [tabJ, tabR]; rw [if_pos q, List.append_assoc]
theorem tabJ_f {F : Nat → Nat → Int} {w h n j i : Nat} (q : ¬ (i % w = 0 ∧ j % h = 0)) : tabJ F w h n j (i + 1) = tabJ F w h n j i := by
  simp only [tabJ, tabR]; rw [if_neg q, List.append_nil]
theorem tabR_len (F : Nat → Nat → Int) (w h j : Nat) : ∀ i, (tabR F w h j i).length ≤ i
  | 0 => Nat.le_refl _
  | i + 1 => by
    have := tabR_len F w h j i
    rw [tabR, List.length_append]; split <;> simp <;> omega
theorem tabG_len (F : Nat → Nat → Int) (w h n : Nat) : ∀ j, (tabG F w h n j).length ≤ n * j
  | 0 => Nat.zero_le _
  | j + 1 => by
    have h1 := tabG_len F w h n j
    have h2 := tabR_len F w h j n
    rw [tabG, List.length_append, Nat.mul_succ]; omega
theorem tabJ_len (F : Nat → Nat → Int) (w h n : Nat) {j i : Nat} (hi : i ≤ 64) (hj : j ≤ 64) (hn : n ≤ 64) : (tabJ F w h n j i).length ≤ 5000 := by
  have h1 := tabG_len F w h n j
  have h2 := tabR_len F w h j i
  have h3 : n * j ≤ 64 * 64 := Nat.mul_le_mul hn hj
  rw [tabJ, List.length_append]; omega
theorem tabG_len5 (F : Nat → Nat → Int) (w h n : Nat) {j : Nat} (hj : j ≤ 64) (hn : n ≤ 64) : (tabG F w h n j).length ≤ 5000 := by
  have h1 := tabJ_len F w h n (i := 0) (by omega) hj hn
  rwa [tabJ_zero] at h1
/-- How many multiples there are. -/
theorem cl_dvd {w i : Nat} (hw : 0 < w) (h : i % w = 0) : (i + w) / w = (i + w - 1) / w + 1 ∧ (i + w - 1) / w * w = i := by
  obtain ⟨a, rfl⟩ := Nat.dvd_of_mod_eq_zero h
  have e1 : (w * a + w) / w = a + 1 := by rw [Nat.add_div_right _ hw, Nat.mul_div_cancel_left _ hw]
  have e2 : (w * a + w - 1) / w = a := by
    rw [show w * a + w - 1 = w * a + (w - 1) by omega, Nat.mul_add_div hw, Nat.div_eq_of_lt (by omega)]; rfl
  rw [e1, e2, Nat.mul_comm]; exact ⟨rfl, rfl⟩
theorem cl_not {w i : Nat} (hw : 0 < w) (h : i % w ≠ 0) : (i + w) / w = (i + w - 1) / w := by
  have e := Nat.div_add_mod i w
  have hl := Nat.mod_lt i hw
  have e1 : (i + w) / w = i / w + 1 := Nat.add_div_right _ hw
  have e2 : (i + w - 1) / w = i / w + 1 := by
    have e3 : i + w - 1 = w * (i / w + 1) + (i % w - 1) := by rw [Nat.mul_succ]; omega
    have e4 : (i % w - 1) / w = 0 := Nat.div_eq_of_lt (by have := Nat.sub_le (i % w) 1; exact Nat.lt_of_le_of_lt this hl)
    rw [e3, Nat.mul_add_div hw, e4]
  rw [e1, e2]
theorem tabR_eq (F : Nat → Nat → Int) {w h j : Nat} (hw : 0 < w) (hj : j % h = 0) : ∀ i, tabR F w h j i = (List.range ((i + w - 1) / w)).map fun k => F j (k * w)
  | 0 => by rw [Nat.zero_add, Nat.div_eq_of_lt (by omega)]; rfl
  | i + 1 => by
    rw [tabR, tabR_eq F hw hj i, show i + 1 + w - 1 = i + w by omega]
    by_cases hi : i % w = 0
    · obtain ⟨e1, e2⟩ := cl_dvd hw hi
      rw [if_pos ⟨hi, hj⟩, e1, List.range_succ, List.map_append, List.map_singleton, e2]
    · rw [if_neg (fun q => hi q.1), cl_not hw hi, List.append_nil]
theorem tabR_nil (F : Nat → Nat → Int) {w h j : Nat} (hj : j % h ≠ 0) : ∀ i, tabR F w h j i = []
  | 0 => rfl
  | i + 1 => by rw [tabR, tabR_nil F hj i, if_neg (fun q => hj q.2)]; rfl
theorem tabG_eq (F : Nat → Nat → Int) {w h : Nat} (n : Nat) (hw : 0 < w) (hh : 0 < h) : ∀ j, tabG F w h n j = gridL (fun b k => F (b * h) (k * w)) ((n + w - 1) / w) ((j + h - 1) / h)
  | 0 => by rw [Nat.zero_add, Nat.div_eq_of_lt (show h - 1 < h by omega)]; rfl
  | j + 1 => by
    rw [tabG, tabG_eq F n hw hh j, show j + 1 + h - 1 = j + h by omega]
    by_cases hj : j % h = 0
    · obtain ⟨e1, e2⟩ := cl_dvd hh hj
      rw [tabR_eq F hw hj, e1, gridL]
      simp only [e2]
    · rw [tabR_nil F hj, cl_not hh hj, List.append_nil]
theorem gridL_congr {α : Type} {F G : Nat → Nat → α} {n : Nat} : ∀ {m : Nat}, (∀ j i, j < m → i < n → F j i = G j i) → gridL F n m = gridL G n m
  | 0, _ => rfl
  | m + 1, h => by
    rw [gridL, gridL, gridL_congr (m := m) fun j i hj hi => h j i (by omega) hi]
    congr 1
    exact List.map_congr_left fun i hi => h m i (by omega) (List.mem_range.1 hi)
theorem tab_end {g : Grd} (hg : g.ok = true) {wide high : Int} (hs : (1 ≤ wide ∧ wide ≤ g.w) ∧ 1 ≤ high ∧ high ≤ g.h) (hz : g.w % wide = 0 ∧ g.h % high = 0) : tabG (denK g wide high) wide.toNat high.toNat (crnN g.w wide) (crnN g.h high) = gridL (tabF g wide high) (g.w / wide).toNat (g.h / high).toNat := by
  obtain ⟨W, hW⟩ : ∃ W : Nat, wide = W := ⟨wide.toNat, by omega⟩
  obtain ⟨H, hH⟩ : ∃ H : Nat, high = H := ⟨high.toNat, by omega⟩
  obtain ⟨A, hA⟩ : ∃ A : Nat, g.w = A := ⟨g.w.toNat, by omega⟩
  obtain ⟨B, hB⟩ : ∃ B : Nat, g.h = B := ⟨g.h.toNat, by omega⟩
  rw [tabG_eq _ _ (by omega) (by omega)]
  have n1 : (crnN g.w wide + wide.toNat - 1) / wide.toNat = (g.w / wide).toNat := by
    unfold crnN; rw [hA, hW, ← Int.natCast_ediv, Int.toNat_natCast, Int.toNat_natCast]; congr 1; omega
  have n2 : (crnN g.h high + high.toNat - 1) / high.toNat = (g.h / high).toNat := by
    unfold crnN; rw [hB, hH, ← Int.natCast_ediv, Int.toNat_natCast, Int.toNat_natCast]; congr 1; omega
  rw [n1, n2]
  refine gridL_congr fun j i _ _ => ?_
  unfold denK tabF
  rw [Int.natCast_mul, Int.natCast_mul, Int.toNat_of_nonneg (by omega), Int.toNat_of_nonneg (by omega)]
/-- Multiples below the side. -/
theorem mul_lt_side {a n q : Int} (hn : 1 ≤ n) (hq : a % n = 0) (j : Nat) : ((j : Int) * n < a ↔ j < (a / n).toNat) ∧ (((j + 1 : Nat) : Int) * n = (j : Int) * n + n) := by
  have e : a = n * (a / n) := by have := Int.mul_ediv_add_emod a n; omega
  refine ⟨?_, by rw [show ((j + 1 : Nat) : Int) = (j : Int) + 1 by omega, Int.add_mul, Int.one_mul]⟩
  constructor
  · intro h
    have h2 : (j : Int) < a / n := by
      rcases (show (j : Int) < a / n ∨ a / n ≤ (j : Int) by omega) with h3 | h3
      · exact h3
      · have h4 : n * (a / n) ≤ n * j := Int.mul_le_mul_of_nonneg_left h3 (by omega)
        rw [Int.mul_comm] at h
        omega
    omega
  · intro h
    have h4 : n * ((j : Int) + 1) ≤ n * (a / n) := Int.mul_le_mul_of_nonneg_left (by omega) (by omega)
    rw [Int.mul_add, Int.mul_one] at h4
    rw [Int.mul_comm]
    omega
theorem tab_in {g : Grd} {wide high : Int} (hs : (1 ≤ wide ∧ wide ≤ g.w) ∧ 1 ≤ high ∧ high ≤ g.h) (hz : g.w % wide = 0 ∧ g.h % high = 0) {j i : Nat} (hj : j < (g.h / high).toNat) (hi : i < (g.w / wide).toNat) : (0 ≤ (i : Int) * wide ∧ (i : Int) * wide + wide ≤ g.w) ∧ 0 ≤ (j : Int) * high ∧ (j : Int) * high + high ≤ g.h := by
  have a1 := mul_lt_side (q := 0) hs.1.1 hz.1
  have a2 := mul_lt_side (q := 0) hs.2.1 hz.2
  have ew : g.w = wide * (g.w / wide) := by have := Int.mul_ediv_add_emod g.w wide; omega
  have eh : g.h = high * (g.h / high) := by have := Int.mul_ediv_add_emod g.h high; omega
  have m1 : wide * ((i : Int) + 1) ≤ wide * (g.w / wide) := Int.mul_le_mul_of_nonneg_left (by omega) (by omega)
  have m2 : high * ((j : Int) + 1) ≤ high * (g.h / high) := Int.mul_le_mul_of_nonneg_left (by omega) (by omega)
  rw [Int.mul_add, Int.mul_one, Int.mul_comm] at m1 m2
  have z1 : 0 ≤ (i : Int) * wide := Int.mul_nonneg (by omega) (by omega)
  have z2 : 0 ≤ (j : Int) * high := Int.mul_nonneg (by omega) (by omega)
  omega
theorem tab_ok {g : Grd} (hg : g.ok = true) {wide high : Int} (hs : (1 ≤ wide ∧ wide ≤ g.w) ∧ 1 ≤ high ∧ high ≤ g.h) (hz : g.w % wide = 0 ∧ g.h % high = 0) {j i : Nat} (hj : j < (g.h / high).toNat) (hi : i < (g.w / wide).toNat) : blkOk g ⟨(i : Int) * wide, (j : Int) * high⟩ ⟨(i : Int) * wide + wide - 1, (j : Int) * high + high - 1⟩ := by
  have h := tab_in hs hz hj hi
  have hb := gok_bds hg
  unfold blkOk onB
  simp only
  omega
theorem tabF_eq (g : Grd) (wide high : Int) (j i : Nat) : tabF g wide high j i = massL (blk g.w g.cs ⟨(i : Int) * wide, (j : Int) * high⟩ ⟨(i : Int) * wide + wide - 1, (j : Int) * high + high - 1⟩) := (sumC_m _).1
theorem tab_side {g : Grd} (hg : g.ok = true) {wide high : Int} (hs : (1 ≤ wide ∧ wide ≤ g.w) ∧ 1 ≤ high ∧ high ≤ g.h) : (g.w / wide).toNat ≤ 64 ∧ (g.h / high).toNat ≤ 64 := by
  have hb := gok_bds hg
  have h1 : g.w / wide ≤ g.w := Int.ediv_le_self _ (by omega)
  have h2 : g.h / high ≤ g.h := Int.ediv_le_self _ (by omega)
  omega
/-! Profiles are tables; they add up to the mass. -/
theorem prof_tab {g : Grd} (hg : g.ok = true) : (tabE g 1 g.h = 0 ∧ tabL g 1 g.h = profL g 0) ∧ tabE g g.w 1 = 0 ∧ tabL g g.w 1 = profL g 1 := by
  have hb := gok_bds hg
  have q0 : profE g 0 = 0 := by simp [profE, hg]
  have q1 : profE g 1 = 0 := by simp [profE, hg]
  have e0 : tabE g 1 g.h = 0 := by
    have : sidE g 1 g.h = 0 := by unfold sidE; rw [hg, if_pos rfl, if_pos (by omega)]
    unfold tabE; rw [if_pos this, if_pos ⟨Int.emod_one _, Int.emod_self⟩]
  have e1 : tabE g g.w 1 = 0 := by
    have : sidE g g.w 1 = 0 := by unfold sidE; rw [hg, if_pos rfl, if_pos (by omega)]
    unfold tabE; rw [if_pos this, if_pos ⟨Int.emod_self, Int.emod_one _⟩]
  refine ⟨⟨e0, ?_⟩, e1, ?_⟩
  · unfold tabL profL
    rw [if_pos e0, if_pos q0]
    simp only [axW, axH, Int.zero_ne_one, if_false]
    rw [Int.ediv_one, Int.ediv_self (by omega), show crnN g.w 1 = g.w.toNat by unfold crnN; omega, show crnN g.h g.h = 1 by unfold crnN; omega]
    refine gridL_congr fun j i hj _ => ?_
    have : j = 0 := by omega
    subst this
    unfold tabF profF
    simp only [axW, axH, Int.zero_ne_one, if_false, Int.mul_one, Int.natCast_zero, Int.zero_mul]
  · unfold tabL profL
    rw [if_pos e1, if_pos q1]
    simp only [axW, axH, if_true]
    rw [Int.ediv_one, Int.ediv_self (by omega), show crnN g.h 1 = g.h.toNat by unfold crnN; omega, show crnN g.w g.w = 1 by unfold crnN; omega]
    refine gridL_congr fun j i _ hi => ?_
    have : i = 0 := by omega
    subst this
    unfold tabF profF
    simp only [axW, axH, if_true, Int.mul_one, Int.natCast_zero, Int.zero_mul]
theorem sum_swap (F : Nat → Nat → Int) (m : Nat) : ∀ n : Nat, sumI ((List.range n).map fun i => sumI ((List.range m).map fun j => F i j)) = sumI ((List.range m).map fun j => sumI ((List.range n).map fun i => F i j))
  | 0 => by
    have : ∀ k : Nat, sumI ((List.range k).map fun _ : Nat => (0 : Int)) = 0 := fun k => by
      induction k with
      | zero => rfl
      | succ k ih => rw [sumI_range_succ (fun _ => 0), ih]; rfl
    simp only [List.range_zero, List.map_nil, sumI, this]
  | n + 1 => by
    rw [sumI_range_succ (fun i => sumI ((List.range m).map fun j => F i j)), sum_swap F m n]
    have : ∀ k : Nat, sumI ((List.range k).map fun j => sumI ((List.range n).map fun i => F i j)) + sumI ((List.range k).map fun j => F n j) = sumI ((List.range k).map fun j => sumI ((List.range (n + 1)).map fun i => F i j)) := fun k => by
      induction k with
      | zero => rfl
      | succ k ih =>
        rw [sumI_range_succ (fun j => sumI ((List.range n).map fun i => F i j)), sumI_range_succ (fun j => F n j), sumI_range_succ (fun j => sumI ((List.range (n + 1)).map fun i => F i j)), ← ih, sumI_range_succ (fun i => F i k)]
        omega
    exact this m
/-- All lines added up. -/
theorem lines_sum {g : Grd} (hg : g.ok = true) {axis : Int} (ha : axis = 0 ∨ axis = 1) (f : Cel → Int) : sumI ((List.range (sideN g axis).toNat).map fun i : Nat => lineS g axis i f) = sumP f g.cs := by
  have hb := gok_bds hg
  have e : sumP f g.cs = sumI ((List.range g.h.toNat).map fun j : Nat => sumI ((List.range g.w.toNat).map fun i : Nat => f (atP g.w g.cs (i : Int) (j : Int)))) := by
    have e0 := congrArg (sumP f) (blk_all hg).1
    unfold blk at e0
    rw [sumP_blk, show (g.w - 1 - 0 + 1).toNat = g.w.toNat by omega, show (g.h - 1 - 0 + 1).toNat = g.h.toNat by omega] at e0
    rw [← e0]
    simp only [Int.zero_add]
  rw [e]
  rcases ha with rfl | rfl
  · simp only [sideN, lineS, if_true]
    exact sum_swap (fun i j => f (atP g.w g.cs (i : Int) (j : Int))) g.h.toNat g.w.toNat
  · simp only [sideN, lineS, Int.one_ne_zero, if_false]
theorem massL_P : ∀ cs : List Cel, massL cs = sumP (·.m) cs
  | [] => rfl
  | c :: cs => by rw [massL, massL_P cs]; rfl
theorem lineC_m (g : Grd) (axis i : Int) : (lineC g axis i).m = lineS g axis i (·.m) := by
  rw [← line_sum, ← massL_P]; exact (sumC_m _).1
theorem prof_eq {g : Grd} (hg : g.ok = true) {axis : Int} (ha : axis = 0 ∨ axis = 1) : profL g axis = (List.range (sideN g axis).toNat).map fun i : Nat => lineS g axis i (·.m) := by
  have hl := (prof_len hg ha).1
  refine List.ext_getElem (by rw [List.length_map, List.length_range]; omega) fun i h1 h2 => ?_
  have := prof_at hg ha (i := i) (by omega)
  rw [List.getElem_map, List.getElem_range, ← lineC_m, ← this, List.getD_eq_getElem?_getD, List.getElem?_eq_getElem h1]
  rfl
theorem prof_sum {g : Grd} (hg : g.ok = true) {axis : Int} (ha : axis = 0 ∨ axis = 1) : sumI (profL g axis) = massL g.cs := by
  rw [prof_eq hg ha, lines_sum hg ha, massL_P]
theorem sumI_take (l : List Int) {k : Nat} (hk : k < l.length) : sumI (l.take (k + 1)) = sumI (l.take k) + l.getD k 0 := by
  rw [take_snoc l 0 hk, sumI_app]; simp [sumI]
theorem sumI_all (l : List Int) {k : Nat} (hk : l.length ≤ k) : sumI (l.take k) = sumI l := by rw [List.take_of_length_le hk]
/-! Remainders, lists of numbers. -/
theorem tmod_nat {n : Int} (hn : 1 ≤ n) (i : Nat) : (i : Int).tmod n = ((i % n.toNat : Nat) : Int) := by
  obtain ⟨m, rfl⟩ : ∃ m : Nat, n = m := ⟨n.toNat, by omega⟩
  rw [Int.tmod_eq_emod_of_nonneg (by omega), Int.toNat_natCast, Int.natCast_emod]
theorem isam_f2 {a b : List Int} {k : Nat} (ha : k < a.length) (hb : k < b.length) (h : a.getD k default ≠ b.getD k default) : decide (a = b) = false := decide_eq_false fun e => h (by rw [e])
theorem isam_next {a b : List Int} {k : Nat} (ha : k < a.length) (hb : k < b.length) (h : a.take k = b.take k) (he : a.getD k default = b.getD k default) : a.take (k + 1) = b.take (k + 1) := by
  rw [take_snoc a default ha, take_snoc b default hb, h, he]
/-! The ways of the law of means. -/
theorem sumI_nn : ∀ {l : List Int}, (∀ x ∈ l, 0 ≤ x) → 0 ≤ sumI l
  | [], _ => by simp [sumI]
  | x :: l, h => by
    have h1 := h x (by simp)
    have h2 := sumI_nn (l := l) fun y hy => h y (by simp [hy])
    simp only [sumI]; omega
theorem sumI_drop (l : List Int) (k : Nat) : sumI l = sumI (l.take k) + sumI (l.drop k) := by rw [← sumI_app, List.take_append_drop]
theorem prof_nn {g : Grd} (hg : g.ok = true) {axis : Int} (ha : axis = 0 ∨ axis = 1) : ∀ x ∈ profL g axis, 0 ≤ x := by
  intro x hx
  obtain ⟨i, hi, rfl⟩ := List.getElem_of_mem hx
  have hl := (prof_len hg ha).1
  have h := prof_at hg ha (i := i) (by omega)
  rw [List.getD_eq_getElem?_getD, List.getElem?_eq_getElem hi] at h
  simp only [Option.getD_some] at h
  rw [h]
  have hb := lineC_bd hg ha (i := i) (by omega)
  unfold Cel.m
  omega
theorem meanW (g : Grd) (axis : Int) : (decide (big8 g) = true ∧ True ∧ True) ∨ (decide (big8 g) = false ∧ g.cs.length ≤ 1100 ∧ ¬ profE g axis = 0) ∨
    (decide (big8 g) = false ∧ g.cs.length ≤ 1100 ∧ profE g axis = 0 ∧ g.ok = true ∧ g.mass = massL g.cs ∧ g.err = 0 ∧ (∀ k : Nat, 0 ≤ sumI ((profL g axis).take k) ∧ sumI ((profL g axis).take k) ≤ 1000000000) ∧ sumI (profL g axis) = massL g.cs) := by
  by_cases hb : big8 g
  · exact .inl ⟨decide_eq_true hb, trivial, trivial⟩
  · have hl : g.cs.length ≤ 1100 := by unfold big8 at hb; omega
    by_cases he : profE g axis = 0
    · have hv : g.ok = true := by
        cases hq : g.ok
        · unfold profE at he; rw [hq] at he; simp at he
        · rfl
      have ha : axis = 0 ∨ axis = 1 := by
        unfold profE at he
        rw [hv, if_pos rfl] at he
        by_cases h : 0 ≤ axis ∧ axis ≤ 1
        · omega
        · rw [if_neg h] at he; omega
      have ht := Grd.tell_t hv
      have hs := prof_sum hv ha
      have hg := gok_bds hv
      refine .inr (.inr ⟨decide_eq_false hb, hl, he, hv, ht.2.1, ht.1, fun k => ?_, hs⟩)
      have h0 := sumI_drop (profL g axis) k
      have h1 := sumI_nn (l := (profL g axis).take k) fun x hx => prof_nn hv ha x (List.mem_of_mem_take hx)
      have h2 := sumI_nn (l := (profL g axis).drop k) fun x hx => prof_nn hv ha x (List.mem_of_mem_drop hx)
      omega
    · exact .inr (.inl ⟨decide_eq_false hb, hl, he⟩)
theorem tabJ_tt {F : Nat → Nat → Int} {wide high : Int} {n i j : Nat} (hw : 1 ≤ wide) (hh : 1 ≤ high) (hi : (i : Int).tmod wide = 0) (hj : (j : Int).tmod high = 0) : tabJ F wide.toNat high.toNat n j (i + 1) = tabJ F wide.toNat high.toNat n j i ++ [F j i] :=
  tabJ_t (by rw [tmod_nat hw] at hi; rw [tmod_nat hh] at hj; omega)
theorem tabJ_f1 {F : Nat → Nat → Int} {wide high : Int} {n i j : Nat} (hw : 1 ≤ wide) (hi : (i : Int).tmod wide ≠ 0) : tabJ F wide.toNat high.toNat n j (i + 1) = tabJ F wide.toNat high.toNat n j i :=
  tabJ_f (by rw [tmod_nat hw] at hi; omega)
theorem tabJ_f2 {F : Nat → Nat → Int} {wide high : Int} {n i j : Nat} (hh : 1 ≤ high) (hj : (j : Int).tmod high ≠ 0) : tabJ F wide.toNat high.toNat n j (i + 1) = tabJ F wide.toNat high.toNat n j i :=
  tabJ_f (by rw [tmod_nat hh] at hj; omega)
end Go.Sy

/- Crossings told cell by cell, rows, parities; what crosses all lines, what a step does to parities. -/
set_option linter.unusedSimpArgs false
set_option linter.unusedVariables false
set_option linter.unusedSectionVars false
namespace Go.Sy
/-! ### Cells that are picked out -/
def selS (P : Nat → Bool) (f : Cel → Int) (cs : List Cel) (k : Nat) : Int := sumI ((List.range k).map fun i => if P i then f (cs.getD i default) else 0)
theorem selS_zero (P : Nat → Bool) (f : Cel → Int) (cs : List Cel) : selS P f cs 0 = 0 := rfl
theorem selS_t {P : Nat → Bool} {f : Cel → Int} {cs : List Cel} {k : Nat} (h : P k = true) : selS P f cs (k + 1) = selS P f cs k + f (cs.getD k default) := by
  unfold selS; rw [sumI_range_succ (fun i => if P i then f (cs.getD i default) else 0), h]; simp
theorem selS_f {P : Nat → Bool} {f : Cel → Int} {cs : List Cel} {k : Nat} (h : P k = false) : selS P f cs (k + 1) = selS P f cs k := by
  unfold selS; rw [sumI_range_succ (fun i => if P i then f (cs.getD i default) else 0), h]; simp
theorem selS_bd {P : Nat → Bool} {f : Cel → Int} {cs : List Cel} (hf : ∀ i, 0 ≤ f (cs.getD i default) ∧ f (cs.getD i default) ≤ 4000000000) : ∀ k : Nat, 0 ≤ selS P f cs k ∧ selS P f cs k ≤ 4000000000 * k
  | 0 => by simp [selS_zero]
  | k + 1 => by
    have ih := selS_bd (P := P) hf k
    have h := hf k
    cases hp : P k
    · rw [selS_f hp]; omega
    · rw [selS_t hp]; omega
theorem range_cut (G : Nat → Int) (a : Nat) : ∀ b : Nat, sumI ((List.range (a + b)).map G) = sumI ((List.range a).map G) + sumI ((List.range b).map fun x => G (a + x))
  | 0 => by simp [sumI]
  | b + 1 => by rw [← Nat.add_assoc, sumI_range_succ, range_cut G a b, sumI_range_succ (fun x => G (a + x))]; omega
theorem range_grid (G : Nat → Int) (w : Nat) : ∀ m : Nat, sumI ((List.range (w * m)).map G) = sumI ((List.range m).map fun y => sumI ((List.range w).map fun x => G (w * y + x)))
  | 0 => by simp [sumI]
  | m + 1 => by rw [Nat.mul_succ, range_cut, range_grid G w m, sumI_range_succ (fun y => sumI ((List.range w).map fun x => G (w * y + x)))]
theorem sel_grid {g : Grd} (hg : g.ok = true) (P : Int → Int → Bool) (f : Cel → Int) : selS (fun i : Nat => P ((i : Int) % g.w) ((i : Int) / g.w)) f g.cs g.cs.length =
    sumI ((List.range g.h.toNat).map fun y : Nat => sumI ((List.range g.w.toNat).map fun x : Nat => if P (x : Int) (y : Int) then f (atP g.w g.cs (x : Int) (y : Int)) else 0)) := by
  have hb := gok_bds hg
  have hl : g.cs.length = g.w.toNat * g.h.toNat := by
    have : ((g.w.toNat * g.h.toNat : Nat) : Int) = g.w * g.h := by rw [Int.natCast_mul, Int.toNat_of_nonneg (by omega), Int.toNat_of_nonneg (by omega)]
    omega
  unfold selS
  rw [hl, range_grid]
  refine congrArg sumI (List.map_congr_left fun y hy => congrArg sumI (List.map_congr_left fun x hx => ?_))
  have hx' := List.mem_range.1 hx
  have e : ((g.w.toNat * y + x : Nat) : Int) = (x : Int) + g.w * (y : Int) := by rw [Int.natCast_add, Int.natCast_mul, Int.toNat_of_nonneg (by omega)]; omega
  have em : ((x : Int) + g.w * (y : Int)) % g.w = x := by rw [Int.add_mul_emod_self_left]; exact Int.emod_eq_of_lt (by omega) (by omega)
  have ed : ((x : Int) + g.w * (y : Int)) / g.w = y := by rw [Int.add_mul_ediv_left _ _ (show g.w ≠ 0 by omega), Int.ediv_eq_zero_of_lt (by omega) (by omega), Int.zero_add]
  simp only [e, em, ed]
  unfold atP
  rw [← e, Int.toNat_natCast]
theorem sum_zero (n : Nat) : sumI ((List.range n).map fun _ : Nat => (0 : Int)) = 0 := by
  induction n with
  | zero => rfl
  | succ n ih => rw [sumI_range_succ (fun _ => 0), ih]; rfl
theorem sum_pick (F : Nat → Int) (c : Nat) : ∀ n : Nat, sumI ((List.range n).map fun x : Nat => if ((x : Int) == (c : Int)) then F x else 0) = if c < n then F c else 0
  | 0 => by simp [sumI]
  | n + 1 => by
    rw [sumI_range_succ (fun x : Nat => if ((x : Int) == (c : Int)) then F x else 0), sum_pick F c n]
    by_cases h : n = c
    · subst h; simp
    · have h1 : ((n : Int) == (c : Int)) = false := by rw [beq_eq_false_iff_ne]; omega
      rw [h1]
      simp only [Bool.false_eq_true, if_false, Int.add_zero]
      by_cases h2 : c < n
      · rw [if_pos h2, if_pos (by omega)]
      · rw [if_neg h2, if_neg (by omega)]
theorem sel_col {g : Grd} (hg : g.ok = true) (f : Cel → Int) {c : Int} (hc : 0 ≤ c ∧ c ≤ g.w - 1) : selS (fun i : Nat => ((i : Int) % g.w == c)) f g.cs g.cs.length = lineS g 0 c f := by
  rw [sel_grid hg (fun x _ => x == c) f]
  obtain ⟨d, rfl⟩ : ∃ d : Nat, c = d := ⟨c.toNat, by omega⟩
  simp only [lineS, if_true]
  refine congrArg sumI (List.map_congr_left fun y _ => ?_)
  rw [sum_pick (fun x => f (atP g.w g.cs (x : Int) (y : Int))) d, if_pos (by omega)]
theorem sel_row {g : Grd} (hg : g.ok = true) (f : Cel → Int) {c : Int} (hc : 0 ≤ c ∧ c ≤ g.h - 1) : selS (fun i : Nat => ((i : Int) / g.w == c)) f g.cs g.cs.length = lineS g 1 c f := by
  rw [sel_grid hg (fun _ y => y == c) f]
  obtain ⟨d, rfl⟩ : ∃ d : Nat, c = d := ⟨c.toNat, by omega⟩
  simp only [lineS, Int.one_ne_zero, if_false]
  have h := sum_pick (fun y => sumI ((List.range g.w.toNat).map fun x : Nat => f (atP g.w g.cs (x : Int) (y : Int)))) d g.h.toNat
  rw [if_pos (by omega)] at h
  rw [← h]
  refine congrArg sumI (List.map_congr_left fun y _ => ?_)
  by_cases hy : ((y : Int) == (d : Int)) = true
  · simp only [hy, if_true]
  · simp only [hy, if_false]; exact sum_zero _
/-- Before the line. -/
theorem before_iff {n k a : Int} (hk : 0 ≤ k ∧ k ≤ n - 1) (ha : 0 ≤ a ∧ a ≤ n - 1) : ((k + 1) % n == a) = (k == (a + -1) % n) := by
  rw [Bool.eq_iff_iff, beq_iff_eq, beq_iff_eq]
  by_cases h1 : k = n - 1
  · rw [h1, show n - 1 + 1 = n by omega, Int.emod_self]
    by_cases h2 : a = 0
    · subst h2
      have : (0 + -1) % n = n - 1 := by rw [show (0 : Int) + -1 = (n - 1) + n * (-1) by omega, Int.add_mul_emod_self_left]; exact Int.emod_eq_of_lt (by omega) (by omega)
      omega
    · have : (a + -1) % n = a + -1 := Int.emod_eq_of_lt (by omega) (by omega)
      omega
  · rw [Int.emod_eq_of_lt (show 0 ≤ k + 1 by omega) (by omega)]
    by_cases h2 : a = 0
    · subst h2
      have : (0 + -1) % n = n - 1 := by rw [show (0 : Int) + -1 = (n - 1) + n * (-1) by omega, Int.add_mul_emod_self_left]; exact Int.emod_eq_of_lt (by omega) (by omega)
      omega
    · have : (a + -1) % n = a + -1 := Int.emod_eq_of_lt (by omega) (by omega)
      omega
theorem selS_congr {P Q : Nat → Bool} {f : Cel → Int} {cs : List Cel} {n : Nat} (h : ∀ i, i < n → P i = Q i) : selS P f cs n = selS Q f cs n := by
  unfold selS
  refine congrArg sumI (List.map_congr_left fun i hi => ?_)
  rw [h i (List.mem_range.1 hi)]
theorem col_in {g : Grd} (hg : g.ok = true) {i : Nat} (hi : i < g.cs.length) : (0 ≤ (i : Int) % g.w ∧ (i : Int) % g.w ≤ g.w - 1) ∧ 0 ≤ (i : Int) / g.w ∧ (i : Int) / g.w ≤ g.h - 1 := by
  have h := next_bd hg (k := (i : Int)) (by omega) (by omega)
  omega
/-- What the reference counts. -/
def cfP (g : Grd) (axis at_ : Int) (i : Nat) : Bool := if axis = 0 then (((i : Int) % g.w + 1) % g.w == at_) else (((i : Int) / g.w + 1) % g.h == at_)
def cbP (g : Grd) (axis at_ : Int) (i : Nat) : Bool := if axis = 0 then ((i : Int) % g.w == at_) else ((i : Int) / g.w == at_)
theorem cross_sel0 {g : Grd} (hg : g.ok = true) {a : Int} (ha : 0 ≤ a ∧ a ≤ g.w - 1) : crossF g 0 a = selS (cfP g 0 a) (·.e) g.cs g.cs.length ∧ crossB g 0 a = selS (cbP g 0 a) (·.w) g.cs g.cs.length := by
  have hc := crossE_ok hg (axis := 0) (i := a) (.inl rfl) (by simp only [sideN, if_true]; exact ha)
  have hb := gok_bds hg
  have hm := mod_line (n := g.w) (by omega) ha
  unfold crossF crossB
  rw [if_pos hc, if_pos hc]
  simp only [sideN, if_true]
  rw [lineC_eq, lineC_eq]
  simp only
  constructor
  · rw [← sel_col hg (·.e) (c := (a + -1) % g.w) ⟨hm.1, hm.2.1⟩]
    refine (selS_congr fun i hi => ?_).symm
    simp only [cfP, if_true]
    exact before_iff (col_in hg hi).1 ha
  · rw [← sel_col hg (·.w) ha]; rfl
theorem cross_sel1 {g : Grd} (hg : g.ok = true) {a : Int} (ha : 0 ≤ a ∧ a ≤ g.h - 1) : crossF g 1 a = selS (cfP g 1 a) (·.n) g.cs g.cs.length ∧ crossB g 1 a = selS (cbP g 1 a) (·.s) g.cs g.cs.length := by
  have hc := crossE_ok hg (axis := 1) (i := a) (.inr rfl) (by simp only [sideN, Int.one_ne_zero, if_false]; exact ha)
  have hb := gok_bds hg
  have hm := mod_line (n := g.h) (by omega) ha
  unfold crossF crossB
  rw [if_pos hc, if_pos hc]
  simp only [sideN, Int.one_ne_zero, if_false]
  rw [lineC_eq, lineC_eq]
  simp only
  constructor
  · rw [← sel_row hg (·.n) (c := (a + -1) % g.h) ⟨hm.1, hm.2.1⟩]
    refine (selS_congr fun i hi => ?_).symm
    simp only [cfP, Int.one_ne_zero, if_false]
    exact before_iff (col_in hg hi).2 ha
  · rw [← sel_row hg (·.s) ha]; rfl
/-! ### Rows -/
def rowG (g : Grd) (j i : Nat) : Int := (crnC g g.w 1 i j).e - (crnC g g.w 1 i j).w
def rowsL (g : Grd) : List Int := if g.ok then gridL (rowG g) (crnN g.w g.w) (crnN g.h 1) else []
def rowT (g : Grd) (j : Nat) : Int := eastL (blk g.w g.cs ⟨0, (j : Int)⟩ ⟨g.w - 1, (j : Int)⟩)
theorem rows_end {g : Grd} (hg : g.ok = true) : gridL (rowG g) (crnN g.w g.w) (crnN g.h 1) = (List.range g.h.toNat).map (rowT g) := by
  have hb := gok_bds hg
  rw [show crnN g.w g.w = 1 by unfold crnN; omega, show crnN g.h 1 = g.h.toNat by unfold crnN; omega, gridL_one]
  refine List.map_congr_left fun j _ => ?_
  unfold rowG rowT crnC
  rw [(sumC_m _).2.1]
  simp only [Int.natCast_zero, Int.zero_add, show (j : Int) + 1 - 1 = j by omega]
theorem rowT_app (g : Grd) (j : Nat) {x : Int} (hx : x = rowT g j) : Cts.ix ((List.range j).map (rowT g) ++ [x]) = Cts.ix ((List.range (j + 1)).map (rowT g)) := by
  subst hx; rw [List.range_succ, List.map_append]; rfl
theorem row_ok {g : Grd} (hg : g.ok = true) {j : Nat} (hj : (j : Int) < g.h) : blkOk g ⟨0, (j : Int)⟩ ⟨g.w - 1, (j : Int)⟩ := by
  have hb := gok_bds hg
  unfold blkOk onB; simp only; omega
/-! ### Parities -/
def parP (w : Int) (p : Int) (i : Nat) : Bool := (((i : Int) % w + (i : Int) / w) % 2 == p)
def parV (g : Grd) (p : Int) : Int := if g.ok then selS (parP g.w p) (·.m) g.cs g.cs.length else 0
theorem par_t {w p : Int} {i : Nat} (h : ((i : Int) % w + (i : Int) / w) % 2 = p) : parP w p i = true := by unfold parP; rw [h]; simp
theorem par_f {w p : Int} {i : Nat} (h : ((i : Int) % w + (i : Int) / w) % 2 ≠ p) : parP w p i = false := by unfold parP; rw [beq_eq_false_iff_ne]; exact h
theorem par_ways (g : Grd) : (g.ok = false ∧ g.err = 1 ∧ parV g 0 = 0 ∧ parV g 1 = 0 ∧ True) ∨ (g.ok = true ∧ g.err = 0 ∧ parV g 0 = selS (parP g.w 0) (·.m) g.cs g.cs.length ∧ parV g 1 = selS (parP g.w 1) (·.m) g.cs g.cs.length ∧ (∀ p k, 0 ≤ selS (parP g.w p) (·.m) g.cs k ∧ selS (parP g.w p) (·.m) g.cs k ≤ 4000000000 * k)) := by
  unfold parV Grd.err
  cases hg : g.ok
  · exact .inl ⟨rfl, rfl, rfl, rfl, trivial⟩
  · refine .inr ⟨rfl, rfl, rfl, rfl, fun p k => selS_bd (fun i => ?_) k⟩
    have h := okL_bd9 (gok_okL hg) i
    unfold bd9 at h
    unfold Cel.m
    omega
/-- The sums of what crosses. -/
def crT (g : Grd) (axis : Int) (k : Nat) : Int := sumI ((List.range k).map fun i : Nat => crossF g axis (i : Int) - crossB g axis (i : Int))
theorem crT_next (g : Grd) (axis : Int) (k : Nat) : crT g axis (k + 1) = crT g axis k + (crossF g axis (k : Int) - crossB g axis (k : Int)) := sumI_range_succ (fun i : Nat => crossF g axis (i : Int) - crossB g axis (i : Int)) k
theorem crT_bd {g : Grd} (hg : g.ok = true) {axis : Int} (ha : axis = 0 ∨ axis = 1) : ∀ k : Nat, (k : Int) ≤ sideN g axis → -5000000000000 * k ≤ crT g axis k ∧ crT g axis k ≤ 5000000000000 * k
  | 0, _ => by simp [crT, sumI]
  | k + 1, h => by
    have ih := crT_bd hg ha k (by omega)
    have hc := cross_bd hg ha (i := (k : Int)) (by omega)
    rw [crT_next]; omega
theorem sumI_sub (F G : Nat → Int) : ∀ n : Nat, sumI ((List.range n).map fun i => F i - G i) = sumI ((List.range n).map F) - sumI ((List.range n).map G)
  | 0 => rfl
  | n + 1 => by rw [sumI_range_succ (fun i => F i - G i), sumI_sub F G n, sumI_range_succ F, sumI_range_succ G]; omega
theorem crT_all {g : Grd} (hg : g.ok = true) : crT g 0 g.w.toNat = eastL g.cs ∧ crT g 1 g.h.toNat = northL g.cs := by
  have hb := gok_bds hg
  have hs := sums_eq g.cs
  constructor
  · have hE : sumI ((List.range g.w.toNat).map fun i : Nat => crossF g 0 (i : Int)) = sumP (·.e) g.cs := by
      rw [← lines_sum hg (axis := 0) (.inl rfl) (·.e)]
      simp only [sideN, if_true]
      have hr := ring_sum (fun x => lineS g 0 x (·.e)) (n := g.w.toNat) (by omega) (-1)
      rw [← hr]
      refine congrArg sumI (List.map_congr_left fun i hi => ?_)
      have hi' := List.mem_range.1 hi
      have hc := crossE_ok hg (axis := 0) (i := (i : Int)) (.inl rfl) (by simp only [sideN, if_true]; omega)
      unfold crossF
      rw [if_pos hc]
      simp only [sideN, if_true, lineC_eq, Int.toNat_of_nonneg (show 0 ≤ g.w by omega)]
    have hW : sumI ((List.range g.w.toNat).map fun i : Nat => crossB g 0 (i : Int)) = sumP (·.w) g.cs := by
      rw [← lines_sum hg (axis := 0) (.inl rfl) (·.w)]
      simp only [sideN, if_true]
      refine congrArg sumI (List.map_congr_left fun i hi => ?_)
      have hi' := List.mem_range.1 hi
      have hc := crossE_ok hg (axis := 0) (i := (i : Int)) (.inl rfl) (by simp only [sideN, if_true]; omega)
      unfold crossB
      rw [if_pos hc]
      simp only [if_true, lineC_eq]
    unfold crT
    rw [sumI_sub, hE, hW]; omega
  · have hE : sumI ((List.range g.h.toNat).map fun i : Nat => crossF g 1 (i : Int)) = sumP (·.n) g.cs := by
      rw [← lines_sum hg (axis := 1) (.inr rfl) (·.n)]
      simp only [sideN, Int.one_ne_zero, if_false]
      have hr := ring_sum (fun x => lineS g 1 x (·.n)) (n := g.h.toNat) (by omega) (-1)
      rw [← hr]
      refine congrArg sumI (List.map_congr_left fun i hi => ?_)
      have hi' := List.mem_range.1 hi
      have hc := crossE_ok hg (axis := 1) (i := (i : Int)) (.inr rfl) (by simp only [sideN, Int.one_ne_zero, if_false]; omega)
      unfold crossF
      rw [if_pos hc]
      simp only [sideN, Int.one_ne_zero, if_false, lineC_eq, Int.toNat_of_nonneg (show 0 ≤ g.h by omega)]
    have hW : sumI ((List.range g.h.toNat).map fun i : Nat => crossB g 1 (i : Int)) = sumP (·.s) g.cs := by
      rw [← lines_sum hg (axis := 1) (.inr rfl) (·.s)]
      simp only [sideN, Int.one_ne_zero, if_false]
      refine congrArg sumI (List.map_congr_left fun i hi => ?_)
      have hi' := List.mem_range.1 hi
      have hc := crossE_ok hg (axis := 1) (i := (i : Int)) (.inr rfl) (by simp only [sideN, Int.one_ne_zero, if_false]; omega)
      unfold crossB
      rw [if_pos hc]
      simp only [Int.one_ne_zero, if_false, lineC_eq]
    unfold crT
    rw [sumI_sub, hE, hW]; omega
/-! A step changes parities. -/
def parQ (p x y : Int) : Bool := ((x + y) % 2 == p)
def par2 (g : Grd) (cs : List Cel) (p : Int) (f : Cel → Int) : Int := sumI ((List.range g.h.toNat).map fun y : Nat => sumI ((List.range g.w.toNat).map fun x : Nat => if parQ p (x : Int) (y : Int) then f (atP g.w cs (x : Int) (y : Int)) else 0))
theorem par_grid {g : Grd} (hg : g.ok = true) (p : Int) (f : Cel → Int) : selS (parP g.w p) f g.cs g.cs.length = par2 g g.cs p f := sel_grid hg (fun x y => parQ p x y) f
theorem sum_sum (F G : Nat → Int) : ∀ n : Nat, sumI ((List.range n).map fun i => F i + G i) = sumI ((List.range n).map F) + sumI ((List.range n).map G)
  | 0 => rfl
  | n + 1 => by rw [sumI_range_succ (fun i => F i + G i), sum_sum F G n, sumI_range_succ F, sumI_range_succ G]; omega
/-- Places moved along a row: the parity changes. -/
theorem ring_par {n : Int} (hn : 1 ≤ n) (he : n % 2 = 0) {x y b : Int} (hb : b = 1 ∨ b = -1) (hx : 0 ≤ x ∧ x ≤ n - 1) {p : Int} (hp : p = 0 ∨ p = 1) : parQ p x y = parQ (1 - p) ((x + b) % n) y ∧ parQ p y x = parQ (1 - p) y ((x + b) % n) := by
  have hm : ((x + b) % n) % 2 = (x + b) % 2 := Int.emod_emod_of_dvd _ (Int.dvd_of_emod_eq_zero he)
  unfold parQ
  constructor <;> (rw [Bool.eq_iff_iff, beq_iff_eq, beq_iff_eq]; omega)
theorem par_flow {g : Grd} (hg : g.ok = true) (hw : g.w % 2 = 0) (hh : g.h % 2 = 0) {p : Int} (hp : p = 0 ∨ p = 1) : par2 g (flow g.w g.h 1 g.cs) p (·.m) = par2 g g.cs (1 - p) (·.m) := by
  have hb := gok_bds hg
  have nw : ((g.w.toNat : Nat) : Int) = g.w := Int.toNat_of_nonneg (by omega)
  have nh : ((g.h.toNat : Nat) : Int) = g.h := Int.toNat_of_nonneg (by omega)
  -- along rows
  have hx : ∀ (f : Cel → Int) (b : Int), (b = 1 ∨ b = -1) → sumI ((List.range g.h.toNat).map fun y : Nat => sumI ((List.range g.w.toNat).map fun x : Nat => if parQ p (x : Int) (y : Int) then f (atP g.w g.cs (((x : Int) + b) % g.w) (y : Int)) else 0)) = par2 g g.cs (1 - p) f := fun f b hb' => by
    refine congrArg sumI (List.map_congr_left fun y hy => ?_)
    have hr := ring_sum (fun x => if parQ (1 - p) x (y : Int) then f (atP g.w g.cs x (y : Int)) else 0) (n := g.w.toNat) (by omega) b
    rw [nw] at hr
    rw [← hr]
    refine congrArg sumI (List.map_congr_left fun x hx => ?_)
    have hx' := List.mem_range.1 hx
    rw [(ring_par (n := g.w) (by omega) hw (x := (x : Int)) (y := (y : Int)) hb' (by omega) hp).1]
  have hy : ∀ (f : Cel → Int) (b : Int), (b = 1 ∨ b = -1) → sumI ((List.range g.h.toNat).map fun y : Nat => sumI ((List.range g.w.toNat).map fun x : Nat => if parQ p (x : Int) (y : Int) then f (atP g.w g.cs (x : Int) (((y : Int) + b) % g.h)) else 0)) = par2 g g.cs (1 - p) f := fun f b hb' => by
    have hr := ring_sum (fun y => sumI ((List.range g.w.toNat).map fun x : Nat => if parQ (1 - p) (x : Int) y then f (atP g.w g.cs (x : Int) y) else 0)) (n := g.h.toNat) (by omega) b
    rw [nh] at hr
    unfold par2
    rw [← hr]
    refine congrArg sumI (List.map_congr_left fun y hy => congrArg sumI (List.map_congr_left fun x hx => ?_))
    have hy' := List.mem_range.1 hy
    rw [(ring_par (n := g.h) (by omega) hh (x := (y : Int)) (y := (x : Int)) hb' (by omega) hp).2]
  have split : ∀ (F : Nat → Nat → Cel), sumI ((List.range g.h.toNat).map fun y : Nat => sumI ((List.range g.w.toNat).map fun x : Nat => if parQ p (x : Int) (y : Int) then (F y x).m else 0)) =
      sumI ((List.range g.h.toNat).map fun y : Nat => sumI ((List.range g.w.toNat).map fun x : Nat => if parQ p (x : Int) (y : Int) then (F y x).e else 0)) + sumI ((List.range g.h.toNat).map fun y : Nat => sumI ((List.range g.w.toNat).map fun x : Nat => if parQ p (x : Int) (y : Int) then (F y x).n else 0)) +
      (sumI ((List.range g.h.toNat).map fun y : Nat => sumI ((List.range g.w.toNat).map fun x : Nat => if parQ p (x : Int) (y : Int) then (F y x).w else 0)) + sumI ((List.range g.h.toNat).map fun y : Nat => sumI ((List.range g.w.toNat).map fun x : Nat => if parQ p (x : Int) (y : Int) then (F y x).s else 0))) := fun F => by
    rw [← sum_sum, ← sum_sum, ← sum_sum]
    refine congrArg sumI (List.map_congr_left fun y _ => ?_)
    rw [← sum_sum, ← sum_sum, ← sum_sum]
    refine congrArg sumI (List.map_congr_left fun x _ => ?_)
    unfold Cel.m
    cases parQ p (x : Int) (y : Int) <;> simp <;> omega
  have e1 : par2 g (flow g.w g.h 1 g.cs) p (·.m) = sumI ((List.range g.h.toNat).map fun y : Nat => sumI ((List.range g.w.toNat).map fun x : Nat => if parQ p (x : Int) (y : Int) then (⟨(atP g.w g.cs (((x : Int) + -1) % g.w) (y : Int)).e, (atP g.w g.cs (x : Int) (((y : Int) + -1) % g.h)).n, (atP g.w g.cs (((x : Int) + 1) % g.w) (y : Int)).w, (atP g.w g.cs (x : Int) (((y : Int) + 1) % g.h)).s⟩ : Cel).m else 0)) := by
    refine congrArg sumI (List.map_congr_left fun y hy => congrArg sumI (List.map_congr_left fun x hx => ?_))
    have hy' := List.mem_range.1 hy
    have hx' := List.mem_range.1 hx
    rw [flowP_at hg (by omega) (by omega)]
  rw [e1, split (fun y x => ⟨(atP g.w g.cs (((x : Int) + -1) % g.w) (y : Int)).e, (atP g.w g.cs (x : Int) (((y : Int) + -1) % g.h)).n, (atP g.w g.cs (((x : Int) + 1) % g.w) (y : Int)).w, (atP g.w g.cs (x : Int) (((y : Int) + 1) % g.h)).s⟩)]
  simp only
  rw [hx (·.e) (-1) (.inr rfl), hy (·.n) (-1) (.inr rfl), hx (·.w) 1 (.inl rfl), hy (·.s) 1 (.inl rfl)]
  unfold par2
  rw [← sum_sum, ← sum_sum, ← sum_sum]
  refine congrArg sumI (List.map_congr_left fun y _ => ?_)
  rw [← sum_sum, ← sum_sum, ← sum_sum]
  refine congrArg sumI (List.map_congr_left fun x _ => ?_)
  unfold Cel.m
  cases parQ (1 - p) (x : Int) (y : Int) <;> simp <;> omega
theorem par_aft (g : Grd) (r : Rul) (p : Int) : par2 g (aft r g.cs) p (·.m) = par2 g g.cs p (·.m) := by
  refine congrArg sumI (List.map_congr_left fun y hy => congrArg sumI (List.map_congr_left fun x hx => ?_))
  have e : (atP g.w (aft r g.cs) (x : Int) (y : Int)).m = (atP g.w g.cs (x : Int) (y : Int)).m := by
    unfold atP aft
    by_cases h : ((x : Int) + g.w * (y : Int)).toNat < g.cs.length
    · have : ((g.cs.map fun c => c.after r).getD ((x : Int) + g.w * (y : Int)).toNat default) = (g.cs.getD ((x : Int) + g.w * (y : Int)).toNat default).after r := by
        simp [List.getD_eq_getElem?_getD, List.getElem?_map, List.getElem?_eq_getElem h]
      rw [this]; exact (Cel.after_m r).1
    · rw [show (g.cs.map fun c => c.after r).getD ((x : Int) + g.w * (y : Int)).toNat default = default by simp [List.getD, List.getElem?_eq_none (show g.cs.length ≤ ((x : Int) + g.w * (y : Int)).toNat by omega)], show g.cs.getD ((x : Int) + g.w * (y : Int)).toNat default = default by simp [List.getD, List.getElem?_eq_none (show g.cs.length ≤ ((x : Int) + g.w * (y : Int)).toNat by omega)]]
  show (if parQ p (x : Int) (y : Int) = true then (atP g.w (aft r g.cs) (x : Int) (y : Int)).m else 0) = _
  rw [e]
theorem par_step {g : Grd} {l : List Rul} {t : Int} (h : runE g l t 1 = 0) (hw : g.w % 2 = 0) (hh : g.h % 2 = 0) : (runG g l t 1).err = 0 ∧ parV (runG g l t 1) 0 = parV g 1 ∧ parV (runG g l t 1) 1 = parV g 0 := by
  obtain ⟨h1, h2, h3⟩ := runE_zero h
  have ho := runG_ok h
  have hr := (rho_ok h2 h3.1.1 0).1
  have ha := gok_aft hr h1
  have e : runG g l t 1 = ⟨g.w, g.h, flow g.w g.h 1 (aft (rho l t 0) g.cs)⟩ := by rw [runG_eq h]; rfl
  have q : ∀ p : Int, p = 0 ∨ p = 1 → parV (runG g l t 1) p = parV g (1 - p) := fun p hp => by
    unfold parV
    rw [if_pos ho, if_pos h1, par_grid ho, par_grid h1, e]
    have f := par_flow ha hw hh hp
    exact f.trans (par_aft g (rho l t 0) (1 - p))
  exact ⟨(Grd.tell_t ho).1, q 0 (.inl rfl), q 1 (.inr rfl)⟩
/-- The ways of the law of crossings. -/
theorem crsW (g : Grd) (l : List Rul) (t : Int) : (decide (big8 g) = true ∧ True ∧ True ∧ True ∧ True) ∨ (decide (big8 g) = false ∧ g.err = 1 ∧ g.cs.length ≤ 1100 ∧ True ∧ True) ∨
    (decide (big8 g) = false ∧ g.err = 0 ∧ g.cs.length ≤ 1100 ∧ (g.w.tmod 2 = g.w % 2) ∧ (g.h.tmod 2 = g.h % 2) ∧ g.ok = true ∧ g.east = eastL g.cs ∧ g.north = northL g.cs ∧ (∀ k : Nat, (k : Int) < g.w → crossE g 0 (k : Int) = 0) ∧ (∀ k : Nat, (k : Int) < g.h → crossE g 1 (k : Int) = 0) ∧
      (∀ k : Nat, (k : Int) ≤ g.w → -5000000000000 * k ≤ crT g 0 k ∧ crT g 0 k ≤ 5000000000000 * k) ∧ (∀ k : Nat, (k : Int) ≤ g.h → -5000000000000 * k ≤ crT g 1 k ∧ crT g 1 k ≤ 5000000000000 * k) ∧ (∀ k : Nat, (k : Int) = g.w → crT g 0 k = eastL g.cs) ∧ (∀ k : Nat, (k : Int) = g.h → crT g 1 k = northL g.cs) ∧
      (-1000000000 ≤ eastL g.cs ∧ eastL g.cs ≤ 1000000000 ∧ -1000000000 ≤ northL g.cs ∧ northL g.cs ≤ 1000000000) ∧ (runE g l t 1 = 0 → g.w % 2 = 0 → g.h % 2 = 0 → (runG g l t 1).err = 0 ∧ parV (runG g l t 1) 0 = parV g 1 ∧ parV (runG g l t 1) 1 = parV g 0)) := by
  by_cases hb : big8 g
  · exact .inl ⟨decide_eq_true hb, trivial, trivial, trivial, trivial⟩
  · have hl : g.cs.length ≤ 1100 := by unfold big8 at hb; omega
    cases hg : g.ok
    · exact .inr (.inl ⟨decide_eq_false hb, (Grd.tell_f hg).1, hl, trivial, trivial⟩)
    · have ht := Grd.tell_t hg
      have hgb := gok_bds hg
      have hm := mom_bd (okL_iff.1 (gok_okL hg))
      have ha := crT_all hg
      refine .inr (.inr ⟨decide_eq_false hb, ht.1, hl, Int.tmod_eq_emod_of_nonneg (by omega), Int.tmod_eq_emod_of_nonneg (by omega), rfl, ht.2.2.1, ht.2.2.2, fun k hk => crossE_ok hg (.inl rfl) (by simp only [sideN, if_true]; omega), fun k hk => crossE_ok hg (.inr rfl) (by simp only [sideN, Int.one_ne_zero, if_false]; omega), fun k hk => crT_bd hg (.inl rfl) k (by simp only [sideN, if_true]; omega), fun k hk => crT_bd hg (.inr rfl) k (by simp only [sideN, Int.one_ne_zero, if_false]; omega), fun k hk => ?_, fun k hk => ?_, by omega, fun h hw hh => par_step h hw hh⟩)
      · rw [show k = g.w.toNat by omega]; exact ha.1
      · rw [show k = g.h.toNat by omega]; exact ha.2
/-! The reference's crossings, told for the walk. -/
def crsA (axis : Int) (c : Cel) : Int := if axis = 0 then c.e else c.n
def crsZ (axis : Int) (c : Cel) : Int := if axis = 0 then c.w else c.s
theorem crs_bd {g : Grd} (hg : g.ok = true) (axis : Int) (P : Nat → Bool) (k : Nat) : (0 ≤ selS P (crsA axis) g.cs k ∧ selS P (crsA axis) g.cs k ≤ 4000000000 * k) ∧ 0 ≤ selS P (crsZ axis) g.cs k ∧ selS P (crsZ axis) g.cs k ≤ 4000000000 * k := by
  refine ⟨selS_bd (fun i => ?_) k, selS_bd (fun i => ?_) k⟩ <;> (have h := okL_bd9 (gok_okL hg) i; unfold bd9 at h; first | unfold crsA | unfold crsZ) <;> split <;> omega
theorem k_div {g : Grd} (hg : g.ok = true) {k : Nat} (hk : k < g.cs.length) : (k : Int).tmod g.w = (k : Int) % g.w ∧ (k : Int).tdiv g.w = (k : Int) / g.w ∧ ((k : Int) % g.w + 1).tmod g.w = ((k : Int) % g.w + 1) % g.w ∧ ((k : Int) / g.w + 1).tmod g.h = ((k : Int) / g.w + 1) % g.h ∧ ((k : Int) % g.w + (k : Int) / g.w).tmod 2 = ((k : Int) % g.w + (k : Int) / g.w) % 2 ∧ (0 ≤ (k : Int) % g.w ∧ (k : Int) % g.w ≤ 63) ∧ 0 ≤ (k : Int) / g.w ∧ (k : Int) / g.w ≤ 63 := by
  have hc := col_in hg hk
  have hb := gok_bds hg
  exact ⟨Int.tmod_eq_emod_of_nonneg (by omega), Int.tdiv_eq_ediv_of_nonneg (by omega), Int.tmod_eq_emod_of_nonneg (by omega), Int.tmod_eq_emod_of_nonneg (by omega), Int.tmod_eq_emod_of_nonneg (by omega), by omega, by omega⟩
theorem cf0 {g : Grd} (hg : g.ok = true) {a : Int} {k : Nat} (hk : k < g.cs.length) : cfP g 0 a k = decide (((k : Int).tmod g.w + 1).tmod g.w = a) := by
  have h := k_div hg hk
  rw [h.1, h.2.2.1]; simp only [cfP, if_true]; rw [Bool.eq_iff_iff]; simp
theorem cb0 {g : Grd} (hg : g.ok = true) {a : Int} {k : Nat} (hk : k < g.cs.length) : cbP g 0 a k = decide ((k : Int).tmod g.w = a) := by
  have h := k_div hg hk
  rw [h.1]; simp only [cbP, if_true]; rw [Bool.eq_iff_iff]; simp
theorem cf1 {g : Grd} (hg : g.ok = true) {a : Int} {k : Nat} (hk : k < g.cs.length) : cfP g 1 a k = decide (((k : Int).tdiv g.w + 1).tmod g.h = a) := by
  have h := k_div hg hk
  rw [h.2.1, h.2.2.2.1]; simp only [cfP, Int.one_ne_zero, if_false]; rw [Bool.eq_iff_iff]; simp
theorem cb1 {g : Grd} (hg : g.ok = true) {a : Int} {k : Nat} (hk : k < g.cs.length) : cbP g 1 a k = decide ((k : Int).tdiv g.w = a) := by
  have h := k_div hg hk
  rw [h.2.1]; simp only [cbP, Int.one_ne_zero, if_false]; rw [Bool.eq_iff_iff]; simp
theorem pr0 {g : Grd} (hg : g.ok = true) {k : Nat} (hk : k < g.cs.length) : parP g.w 0 k = decide (((k : Int).tmod g.w + (k : Int).tdiv g.w).tmod 2 = 0) ∧ parP g.w 1 k = ! decide (((k : Int).tmod g.w + (k : Int).tdiv g.w).tmod 2 = 0) := by
  have h := k_div hg hk
  rw [h.1, h.2.1, h.2.2.2.2.1]
  unfold parP
  constructor
  · rw [Bool.eq_iff_iff]; simp
  · rw [Bool.eq_iff_iff]; simp; omega
theorem pe0 {g : Grd} (hg : g.ok = true) {k : Nat} (hk : k < g.cs.length) : parP g.w 0 k = decide (((k : Int) % g.w + (k : Int) / g.w).tmod 2 = 0) ∧ parP g.w 1 k = decide (((k : Int) % g.w + (k : Int) / g.w).tmod 2 = 1) := by
  have h := k_div hg hk
  rw [h.2.2.2.2.1]
  unfold parP
  constructor <;> (rw [Bool.eq_iff_iff]; simp)
theorem crx_ways (g : Grd) (axis a : Int) : (g.ok = false ∧ profE g axis = 1 ∧ crossE g axis a = 1 ∧ crossF g axis a = 0 ∧ crossB g axis a = 0 ∧ True ∧ True) ∨ (g.ok = true ∧ profE g axis = 7 ∧ crossE g axis a = 7 ∧ crossF g axis a = 0 ∧ crossB g axis a = 0 ∧ True ∧ True) ∨
    (g.ok = true ∧ profE g axis = 0 ∧ crossE g axis a = 7 ∧ crossF g axis a = 0 ∧ crossB g axis a = 0 ∧ axis = 0 ∧ ¬ (0 ≤ a ∧ a ≤ g.w - 1)) ∨ (g.ok = true ∧ profE g axis = 0 ∧ crossE g axis a = 7 ∧ crossF g axis a = 0 ∧ crossB g axis a = 0 ∧ axis = 1 ∧ ¬ (0 ≤ a ∧ a ≤ g.h - 1)) ∨
    (g.ok = true ∧ profE g axis = 0 ∧ crossE g axis a = 0 ∧ crossF g axis a = selS (cfP g axis a) (crsA axis) g.cs g.cs.length ∧ crossB g axis a = selS (cbP g axis a) (crsZ axis) g.cs g.cs.length ∧ axis = 0 ∧ 0 ≤ a ∧ a ≤ g.w - 1) ∨
    (g.ok = true ∧ profE g axis = 0 ∧ crossE g axis a = 0 ∧ crossF g axis a = selS (cfP g axis a) (crsA axis) g.cs g.cs.length ∧ crossB g axis a = selS (cbP g axis a) (crsZ axis) g.cs g.cs.length ∧ axis = 1 ∧ 0 ≤ a ∧ a ≤ g.h - 1) := by
  rcases cross_ways g axis a with ⟨hv, he, hf, hb, _⟩ | ⟨hv, he, hf, hb, hc⟩ | ⟨hv, he, hf, hb, hx, ha⟩ | ⟨hv, he, hf, hb, hx, ha⟩
  · exact .inl ⟨hv, by simp [profE, hv], he, hf, hb, trivial, trivial⟩
  · by_cases h0 : axis = 0
    · exact .inr (.inr (.inl ⟨hv, by simp [profE, hv, h0], he, hf, hb, h0, fun q => hc (.inl ⟨h0, q⟩)⟩))
    · by_cases h1 : axis = 1
      · exact .inr (.inr (.inr (.inl ⟨hv, by simp [profE, hv, h1], he, hf, hb, h1, fun q => hc (.inr ⟨h1, q⟩)⟩)))
      · exact .inr (.inl ⟨hv, by unfold profE; rw [hv, if_pos rfl, if_neg (by omega)], he, hf, hb, trivial, trivial⟩)
  · subst hx
    have hz := cross_sel0 hv ha
    exact .inr (.inr (.inr (.inr (.inl ⟨hv, by simp [profE, hv], he, hz.1, hz.2, rfl, ha⟩))))
  · subst hx
    have hz := cross_sel1 hv ha
    exact .inr (.inr (.inr (.inr (.inr ⟨hv, by simp [profE, hv], he, hz.1, hz.2, rfl, ha⟩))))
theorem rows_ways (g : Grd) : (g.ok = false ∧ g.err = 1 ∧ rowsL g = []) ∨ (g.ok = true ∧ g.err = 0 ∧ rowsL g = gridL (rowG g) (crnN g.w g.w) (crnN g.h 1)) := by
  unfold rowsL Grd.err
  cases g.ok
  · exact .inl ⟨rfl, rfl, rfl⟩
  · exact .inr ⟨rfl, rfl, rfl⟩
end Go.Sy
