/- Blocks of a grid: their cells, sums, fractions in lowest terms. -/
import Derived.Test.YtijealodlgdgaaaSpStep
set_option linter.unusedSimpArgs false
set_option linter.unusedVariables false
set_option linter.unusedSectionVars false
namespace Go.Sy
/-! ### The cells of a block, row by row -/
def atP (w : Int) (cs : List Cel) (x y : Int) : Cel := cs.getD (x + w * y).toNat default
def rowK (w : Int) (cs : List Cel) (ax y : Int) : Nat → List Cel
  | 0 => []
  | k + 1 => rowK w cs ax y k ++ [atP w cs (ax + k) y]
def blkK (w : Int) (cs : List Cel) (ax ay : Int) (n : Nat) : Nat → List Cel
  | 0 => []
  | k + 1 => blkK w cs ax ay n k ++ rowK w cs ax (ay + k) n
def blk (w : Int) (cs : List Cel) (a b : Pnt) : List Cel := blkK w cs a.x a.y (b.x - a.x + 1).toNat (b.y - a.y + 1).toNat
/-- All cells added up. -/
def sumC (l : List Cel) : Cel := ⟨sumP (·.e) l, sumP (·.n) l, sumP (·.w) l, sumP (·.s) l⟩
theorem sumI_app : ∀ (l m : List Int), sumI (l ++ m) = sumI l + sumI m
  | [], m => by simp [sumI]
  | x :: l, m => by simp only [List.cons_append, sumI, sumI_app l m]; omega
theorem sumP_app (f : Cel → Int) (l m : List Cel) : sumP f (l ++ m) = sumP f l + sumP f m := by unfold sumP; rw [List.map_append, sumI_app]
theorem sumC_app (l m : List Cel) : sumC (l ++ m) = (sumC l).add (sumC m) := by simp only [sumC, sumP_app, Cel.add]
theorem sumC_one (c : Cel) : sumC [c] = c := by simp [sumC, sumP, sumI]
theorem sumC_nil : sumC [] = ⟨0, 0, 0, 0⟩ := rfl
theorem sumC_snoc (l : List Cel) (c : Cel) : sumC (l ++ [c]) = ⟨(sumC l).e + c.e, (sumC l).n + c.n, (sumC l).w + c.w, (sumC l).s + c.s⟩ := by rw [sumC_app, sumC_one]; rfl
theorem sumC_m (l : List Cel) : (sumC l).m = massL l ∧ (sumC l).e - (sumC l).w = eastL l ∧ (sumC l).n - (sumC l).s = northL l := by
  have := sums_eq l
  simp only [sumC, Cel.m]
  omega
theorem rowK_length (w : Int) (cs : List Cel) (ax y : Int) : ∀ k, (rowK w cs ax y k).length = k
  | 0 => rfl
  | k + 1 => by rw [rowK, List.length_append, rowK_length w cs ax y k]; rfl
theorem blkK_length (w : Int) (cs : List Cel) (ax ay : Int) (n : Nat) : ∀ k, (blkK w cs ax ay n k).length = k * n
  | 0 => by simp [blkK]
  | k + 1 => by rw [blkK, List.length_append, blkK_length w cs ax ay n k, rowK_length, Nat.succ_mul]
/-! Bounds. -/
def bd9 (c : Cel) : Prop := (0 ≤ c.e ∧ c.e ≤ 1000000000) ∧ (0 ≤ c.n ∧ c.n ≤ 1000000000) ∧ (0 ≤ c.w ∧ c.w ≤ 1000000000) ∧ 0 ≤ c.s ∧ c.s ≤ 1000000000
theorem okL_bd9 {cs : List Cel} (h : okL cs = true) (i : Nat) : bd9 (cs.getD i default) := by
  by_cases hi : i < cs.length
  · have := Cel.ok_iff.1 (okL_iff.1 h _ (getD_mem default hi))
    unfold bd9; omega
  · rw [show cs.getD i default = default by simp [List.getD, List.getElem?_eq_none (show cs.length ≤ i by omega)]]
    show bd9 ⟨0, 0, 0, 0⟩
    unfold bd9; simp
theorem row_bd {w : Int} {cs : List Cel} (h : okL cs = true) (ax y : Int) : ∀ k : Nat, (0 ≤ (sumC (rowK w cs ax y k)).e ∧ (sumC (rowK w cs ax y k)).e ≤ 1000000000 * k) ∧ (0 ≤ (sumC (rowK w cs ax y k)).n ∧ (sumC (rowK w cs ax y k)).n ≤ 1000000000 * k) ∧ (0 ≤ (sumC (rowK w cs ax y k)).w ∧ (sumC (rowK w cs ax y k)).w ≤ 1000000000 * k) ∧ 0 ≤ (sumC (rowK w cs ax y k)).s ∧ (sumC (rowK w cs ax y k)).s ≤ 1000000000 * k
  | 0 => by simp [rowK, sumC_nil]
  | k + 1 => by
    have ih := row_bd (w := w) h ax y k
    have hb := okL_bd9 h (ax + k + w * y).toNat
    rw [rowK, sumC_snoc]
    unfold bd9 at hb
    simp only [atP]
    omega
theorem blk_bd {w : Int} {cs : List Cel} (h : okL cs = true) (ax ay : Int) {n : Nat} (hn : n ≤ 64) : ∀ k : Nat, (0 ≤ (sumC (blkK w cs ax ay n k)).e ∧ (sumC (blkK w cs ax ay n k)).e ≤ 64000000000 * k) ∧ (0 ≤ (sumC (blkK w cs ax ay n k)).n ∧ (sumC (blkK w cs ax ay n k)).n ≤ 64000000000 * k) ∧ (0 ≤ (sumC (blkK w cs ax ay n k)).w ∧ (sumC (blkK w cs ax ay n k)).w ≤ 64000000000 * k) ∧ 0 ≤ (sumC (blkK w cs ax ay n k)).s ∧ (sumC (blkK w cs ax ay n k)).s ≤ 64000000000 * k
  | 0 => by simp [blkK, sumC_nil]
  | k + 1 => by
    have ih := blk_bd (w := w) h ax ay hn k
    have hr := row_bd (w := w) h ax (ay + k) n
    rw [blkK, sumC_app]
    simp only [Cel.add]
    omega
/-- The sum, under way: whole rows and a part of one. -/
def sumJ (w : Int) (cs : List Cel) (a : Pnt) (n j i : Nat) : Cel := (sumC (blkK w cs a.x a.y n j)).add (sumC (rowK w cs a.x (a.y + j) i))
theorem sumJ_bd {w : Int} {cs : List Cel} (h : okL cs = true) (a : Pnt) {n j i : Nat} (hn : n ≤ 64) (hj : j ≤ 64) (hi : i ≤ 64) : (0 ≤ (sumJ w cs a n j i).e ∧ (sumJ w cs a n j i).e ≤ 5000000000000) ∧ (0 ≤ (sumJ w cs a n j i).n ∧ (sumJ w cs a n j i).n ≤ 5000000000000) ∧ (0 ≤ (sumJ w cs a n j i).w ∧ (sumJ w cs a n j i).w ≤ 5000000000000) ∧ 0 ≤ (sumJ w cs a n j i).s ∧ (sumJ w cs a n j i).s ≤ 5000000000000 := by
  have h1 := blk_bd (w := w) h a.x a.y hn j
  have h2 := row_bd (w := w) h a.x (a.y + j) i
  simp only [sumJ, Cel.add]
  omega
theorem sumJ_zero (w : Int) (cs : List Cel) (a : Pnt) (n : Nat) : sumJ w cs a n 0 0 = ⟨0, 0, 0, 0⟩ := rfl
theorem sumJ_row (w : Int) (cs : List Cel) (a : Pnt) (n j : Nat) : sumJ w cs a n (j + 1) 0 = sumJ w cs a n j n := by
  simp only [sumJ, blkK, rowK, sumC_app, sumC_nil, Cel.add, Int.add_zero]
theorem sumJ_next (w : Int) (cs : List Cel) (a : Pnt) (n j i : Nat) : sumJ w cs a n j (i + 1) = (sumJ w cs a n j i).add (atP w cs (a.x + i) (a.y + j)) := by
  simp only [sumJ, rowK, sumC_snoc, Cel.add, Int.add_assoc]
theorem sumJ_end (w : Int) (cs : List Cel) {a b : Pnt} {j : Nat} (hj : j = (b.y - a.y + 1).toNat) : sumJ w cs a (b.x - a.x + 1).toNat j 0 = sumC (blk w cs a b) := by
  subst hj
  simp only [sumJ, blk, rowK, sumC_nil, Cel.add, Int.add_zero]
/-- Corners of a block on a grid. -/
def onB (g : Grd) (p : Pnt) : Prop := 0 ≤ p.x ∧ p.x ≤ g.w - 1 ∧ 0 ≤ p.y ∧ p.y ≤ g.h - 1
def blkOk (g : Grd) (a b : Pnt) : Prop := onB g a ∧ onB g b ∧ a.x ≤ b.x ∧ a.y ≤ b.y
instance (g : Grd) (p : Pnt) : Decidable (onB g p) := by unfold onB; infer_instance
instance (g : Grd) (a b : Pnt) : Decidable (blkOk g a b) := by unfold blkOk; infer_instance
def blkE (g : Grd) (a b : Pnt) : Int := if g.ok then (if blkOk g a b then 0 else 7) else 1
theorem blkE_ways (g : Grd) (a b : Pnt) : (g.ok = false ∧ blkE g a b = 1) ∨ (g.ok = true ∧ ¬ blkOk g a b ∧ blkE g a b = 7) ∨ (g.ok = true ∧ blkOk g a b ∧ blkE g a b = 0) := by
  unfold blkE
  cases hg : g.ok
  · exact .inl ⟨rfl, rfl⟩
  · by_cases hb : blkOk g a b
    · exact .inr (.inr ⟨rfl, hb, by simp [hb]⟩)
    · exact .inr (.inl ⟨rfl, hb, by simp [hb]⟩)
/-- A place within a grid has an index. -/
theorem idx_in {g : Grd} (hg : g.ok = true) {x y : Int} (hx : 0 ≤ x ∧ x ≤ g.w - 1) (hy : 0 ≤ y ∧ y ≤ g.h - 1) : 0 ≤ x + g.w * y ∧ x + g.w * y < g.cs.length ∧ 0 ≤ g.w * y ∧ g.w * y ≤ 4096 := by
  have hb := gok_bds hg
  have h1 : 0 ≤ g.w * y := Int.mul_nonneg (by omega) hy.1
  have h2 : g.w * y ≤ g.w * (g.h - 1) := Int.mul_le_mul_of_nonneg_left hy.2 (by omega)
  rw [Int.mul_sub, Int.mul_one] at h2
  refine ⟨by omega, by omega, h1, ?_⟩
  omega
theorem blk_bds {g : Grd} (hg : g.ok = true) {a b : Pnt} (hb : blkOk g a b) : (0 ≤ (sumC (blk g.w g.cs a b)).e ∧ (sumC (blk g.w g.cs a b)).e ≤ 5000000000000) ∧ (0 ≤ (sumC (blk g.w g.cs a b)).n ∧ (sumC (blk g.w g.cs a b)).n ≤ 5000000000000) ∧ (0 ≤ (sumC (blk g.w g.cs a b)).w ∧ (sumC (blk g.w g.cs a b)).w ≤ 5000000000000) ∧ 0 ≤ (sumC (blk g.w g.cs a b)).s ∧ (sumC (blk g.w g.cs a b)).s ≤ 5000000000000 := by
  have h := gok_bds hg
  obtain ⟨h1, h2, h3, h4⟩ := hb
  unfold onB at h1 h2
  rw [← sumJ_end g.w g.cs (a := a) (b := b) rfl]
  exact sumJ_bd (gok_okL hg) a (by omega) (by omega) (by omega)
theorem blk_len {g : Grd} (hg : g.ok = true) {a b : Pnt} (hb : blkOk g a b) : ((blk g.w g.cs a b).length : Int) = (b.x - a.x + 1) * (b.y - a.y + 1) ∧ 1 ≤ (b.x - a.x + 1) * (b.y - a.y + 1) ∧ (b.x - a.x + 1) * (b.y - a.y + 1) ≤ 4096 := by
  have h := gok_bds hg
  obtain ⟨h1, h2, h3, h4⟩ := hb
  unfold onB at h1 h2
  have hm := mul_bd (a := b.x - a.x + 1) (b := b.y - a.y + 1) (by omega) (by omega) (by omega) (by omega)
  refine ⟨?_, hm.1, hm.2⟩
  unfold blk
  rw [blkK_length, Int.natCast_mul, Int.toNat_of_nonneg (by omega), Int.toNat_of_nonneg (by omega), Int.mul_comm]
/-- The direction with most particles, the first one of them. -/
def bestD (c : Cel) : Int := if c.e < c.n then (if c.n < c.w then (if c.w < c.s then 3 else 2) else (if c.n < c.s then 3 else 1)) else (if c.e < c.w then (if c.w < c.s then 3 else 2) else (if c.e < c.s then 3 else 0))
def someC (c : Cel) : Bool := decide (0 < c.e ∨ 0 < c.n ∨ 0 < c.w ∨ 0 < c.s)
theorem best_3 {c : Cel} (h1 : c.e < c.s) (h2 : c.n < c.s) (h3 : c.w < c.s) : bestD c = 3 := by
  unfold bestD; (repeat' split) <;> omega
theorem best_2 {c : Cel} (h1 : c.e < c.w) (h2 : c.n < c.w) (h3 : ¬ c.w < c.s) : bestD c = 2 := by
  unfold bestD; (repeat' split) <;> omega
theorem best_1 {c : Cel} (h1 : c.e < c.n) (h2 : ¬ c.n < c.w) (h3 : ¬ c.n < c.s) : bestD c = 1 := by
  unfold bestD; (repeat' split) <;> omega
theorem best_0 {c : Cel} (h1 : ¬ c.e < c.n) (h2 : ¬ c.e < c.w) (h3 : ¬ c.e < c.s) : bestD c = 0 := by
  unfold bestD; (repeat' split) <;> omega
theorem some_iff {c : Cel} {x : Int} (h : ((0 < c.e ∨ 0 < c.n ∨ 0 < c.w ∨ 0 < c.s) ↔ 0 < x)) : decide (0 < x) = someC c := by unfold someC; exact decide_eq_decide.2 h.symm
def mainE (g : Grd) (p : Pnt) : Int := if blkE g p p = 0 then (if someC (atP g.w g.cs p.x p.y) then 0 else 8) else blkE g p p
def mainD (g : Grd) (p : Pnt) : Int := if mainE g p = 0 then bestD (atP g.w g.cs p.x p.y) else 0
theorem blkE_one (g : Grd) (p : Pnt) : (g.ok = false ∧ blkE g p p = 1) ∨ (g.ok = true ∧ ¬ onB g p ∧ blkE g p p = 7) ∨ (g.ok = true ∧ onB g p ∧ blkE g p p = 0) := by
  rcases blkE_ways g p p with h | h | h
  · exact .inl h
  · exact .inr (.inl ⟨h.1, fun q => h.2.1 ⟨q, q, Int.le_refl _, Int.le_refl _⟩, h.2.2⟩)
  · exact .inr (.inr ⟨h.1, h.2.1.1, h.2.2⟩)
theorem blkE_bad {g : Grd} {p q : Pnt} (h : g.ok = false) : blkE g p q = 1 := by simp [blkE, h]
theorem blkE_seven {g : Grd} {p : Pnt} (h : g.ok = true) (hp : ¬ onB g p) : blkE g p p = 7 := by
  unfold blkE; rw [h, if_pos rfl, if_neg (fun q => hp q.1)]
theorem blkE_zero {g : Grd} {p : Pnt} (h : g.ok = true) (hp : onB g p) : blkE g p p = 0 := by
  unfold blkE; rw [h, if_pos rfl, if_pos ⟨hp, hp, Int.le_refl _, Int.le_refl _⟩]
theorem main_ways (g : Grd) (p : Pnt) : (g.ok = false ∧ mainE g p = 1 ∧ mainD g p = 0 ∧ True) ∨ (g.ok = true ∧ mainE g p = 7 ∧ mainD g p = 0 ∧ ¬ onB g p) ∨ (g.ok = true ∧ mainE g p = 8 ∧ mainD g p = 0 ∧ onB g p ∧ someC (atP g.w g.cs p.x p.y) = false) ∨ (g.ok = true ∧ mainE g p = 0 ∧ mainD g p = bestD (atP g.w g.cs p.x p.y) ∧ onB g p ∧ someC (atP g.w g.cs p.x p.y) = true) := by
  rcases blkE_one g p with ⟨h1, h2⟩ | ⟨h1, h2, h3⟩ | ⟨h1, h2, h3⟩
  · have e : mainE g p = 1 := by simp [mainE, h2]
    exact .inl ⟨h1, e, by simp [mainD, e], trivial⟩
  · have e : mainE g p = 7 := by simp [mainE, h3]
    exact .inr (.inl ⟨h1, e, by simp [mainD, e], h2⟩)
  · cases hs : someC (atP g.w g.cs p.x p.y)
    · have e : mainE g p = 8 := by simp [mainE, h3, hs]
      exact .inr (.inr (.inl ⟨h1, e, by simp [mainD, e], h2, rfl⟩))
    · have e : mainE g p = 0 := by simp [mainE, h3, hs]
      exact .inr (.inr (.inr ⟨h1, e, by simp [mainD, e], h2, rfl⟩))
/-- Parts that are far from the end of all numbers. -/
def cbd (c : Cel) : Prop := (-9000000000000 ≤ c.e ∧ c.e ≤ 9000000000000) ∧ (-9000000000000 ≤ c.n ∧ c.n ≤ 9000000000000) ∧ (-9000000000000 ≤ c.w ∧ c.w ≤ 9000000000000) ∧ -9000000000000 ≤ c.s ∧ c.s ≤ 9000000000000
theorem awake8A : mainE ⟨1, 1, [⟨1, 3, 2, 0⟩]⟩ ⟨0, 0⟩ = 0 := by decide
theorem awake8B : mainD ⟨1, 1, [⟨1, 3, 2, 0⟩]⟩ ⟨0, 0⟩ = 1 := by decide
/-! ### Fractions in lowest terms -/
def ratP (n d : Int) : Rat2 := ⟨n.tdiv (Nat.gcd n.natAbs d.toNat : Nat), d.tdiv (Nat.gcd n.natAbs d.toNat : Nat)⟩
theorem gcd_step (a b : Nat) (hb : 0 < b) : Nat.gcd b (a % b) = Nat.gcd a b := by rw [Nat.gcd_comm a b, Nat.gcd_rec b a, Nat.gcd_comm]
theorem gcd_pos {n d : Int} (hd : 0 < d) : 0 < Nat.gcd n.natAbs d.toNat := Nat.gcd_pos_of_pos_right _ (by omega)
theorem tdiv_bd (n : Int) (p : Nat) : -(n.natAbs : Int) ≤ n.tdiv p ∧ n.tdiv p ≤ n.natAbs := by
  have := Int.natAbs_tdiv_le_natAbs n p
  omega
theorem rat_den {p : Nat} {n d : Int} (hp : p = Nat.gcd n.natAbs d.toNat) (hd : 0 < d) : (p : Int) ≠ 0 := by
  have := gcd_pos (n := n) hd
  omega
theorem ratP_bd {n d : Int} (hd : 0 < d) : (Nat.gcd n.natAbs d.toNat : Int) ≤ d := by
  have := Nat.gcd_le_right (m := n.natAbs) (n := d.toNat) (by omega)
  omega
def densR (g : Grd) (a b : Pnt) : Rat2 := if blkE g a b = 0 then ratP (massL (blk g.w g.cs a b)) ((b.x - a.x + 1) * (b.y - a.y + 1)) else ⟨0, 0⟩
/-! ### Lists told row by row -/
def gridL {α : Type} (F : Nat → Nat → α) (n : Nat) : Nat → List α
  | 0 => []
  | j + 1 => gridL F n j ++ (List.range n).map (F j)
def gridJ {α : Type} (F : Nat → Nat → α) (n j i : Nat) : List α := gridL F n j ++ (List.range i).map (F j)
theorem gridL_length {α : Type} (F : Nat → Nat → α) (n : Nat) : ∀ j, (gridL F n j).length = j * n
  | 0 => by simp [gridL]
  | j + 1 => by rw [gridL, List.length_append, gridL_length F n j, Nat.succ_mul]; simp
theorem gridJ_length {α : Type} (F : Nat → Nat → α) (n j i : Nat) : (gridJ F n j i).length = j * n + i := by simp [gridJ, gridL_length]
theorem gridJ_zero {α : Type} (F : Nat → Nat → α) (n j : Nat) : gridJ F n j 0 = gridL F n j := by simp [gridJ]
theorem gridJ_next {α : Type} (F : Nat → Nat → α) (n j i : Nat) : gridJ F n j (i + 1) = gridJ F n j i ++ [F j i] := by simp [gridJ, List.range_succ]
theorem gridJ_row {α : Type} (F : Nat → Nat → α) (n j : Nat) : gridJ F n j n = gridL F n (j + 1) := rfl
/-- The block with some sides at a place. -/
def crn (wide high : Int) (x y : Int) : Pnt × Pnt := (⟨x, y⟩, ⟨x + wide - 1, y + high - 1⟩)
def crnC (g : Grd) (wide high x y : Int) : Cel := sumC (blk g.w g.cs ⟨x, y⟩ ⟨x + wide - 1, y + high - 1⟩)
def crnN (side wide : Int) : Nat := (side - wide + 1).toNat
theorem crn_ok {g : Grd} {wide high : Int} (hw : 1 ≤ wide) (hh : 1 ≤ high) {i j : Nat} (hi : i < crnN g.w wide) (hj : j < crnN g.h high) : blkOk g ⟨i, j⟩ ⟨(i : Int) + wide - 1, (j : Int) + high - 1⟩ := by
  unfold crnN at hi hj
  unfold blkOk onB
  simp only
  omega
end Go.Sy
