/- Cells of a block told one by one; the place of the greatest value; grids whose cells are alike. -/
import Derived.Test.YtjkdbnccgaheeaaSpField3
set_option linter.unusedSimpArgs false
set_option linter.unusedVariables false
set_option linter.unusedSectionVars false
namespace Go.Sy
/-! ### Cells of a block, under way -/
def blkJ (w : Int) (cs : List Cel) (a : Pnt) (n j i : Nat) : List Cel := blkK w cs a.x a.y n j ++ rowK w cs a.x (a.y + j) i
theorem blkK_len (w : Int) (cs : List Cel) (ax ay : Int) (n k : Nat) : (blkK w cs ax ay n k).length = n * k := by rw [blkK_length, Nat.mul_comm]
theorem blkJ_len (w : Int) (cs : List Cel) (a : Pnt) (n j i : Nat) : (blkJ w cs a n j i).length = n * j + i := by rw [blkJ, List.length_append, blkK_len, rowK_length]
theorem blkJ_zero (w : Int) (cs : List Cel) (a : Pnt) (n j : Nat) : blkJ w cs a n j 0 = blkK w cs a.x a.y n j := by simp [blkJ, rowK]
theorem blkJ_row (w : Int) (cs : List Cel) (a : Pnt) (n j : Nat) : blkJ w cs a n j n = blkK w cs a.x a.y n (j + 1) := rfl
theorem blkJ_app (w : Int) (cs : List Cel) (a : Pnt) (n j i : Nat) {c : Cel} (hc : c = atP w cs (a.x + i) (a.y + j)) : blkJ w cs a n j i ++ [c] = blkJ w cs a n j (i + 1) := by
  subst hc; simp only [blkJ, rowK, List.append_assoc]
theorem blk_end (w : Int) (cs : List Cel) {a b : Pnt} {j : Nat} (hj : j = (b.y - a.y + 1).toNat) : blkK w cs a.x a.y (b.x - a.x + 1).toNat j = blk w cs a b := by subst hj; rfl
theorem blk_length2 (w : Int) (cs : List Cel) (a b : Pnt) : (blk w cs a b).length = (b.x - a.x + 1).toNat * (b.y - a.y + 1).toNat := by rw [blk, blkK_len]
theorem okL_row {w : Int} {cs : List Cel} (h : okL cs = true) (ax y : Int) : ∀ k, okL (rowK w cs ax y k) = true
  | 0 => rfl
  | k + 1 => by
    have h1 := okL_row (w := w) h ax y k
    rw [okL_iff] at h1 ⊢
    intro c hc
    rw [rowK, List.mem_append, List.mem_singleton] at hc
    rcases hc with hc | rfl
    · exact h1 c hc
    · unfold atP
      by_cases hi : (ax + k + w * y).toNat < cs.length
      · exact okL_at h hi
      · rw [show cs.getD (ax + k + w * y).toNat default = default by simp [List.getD, List.getElem?_eq_none (show cs.length ≤ (ax + k + w * y).toNat by omega)]]
        decide
theorem okL_app {l m : List Cel} (h : okL l = true) (h2 : okL m = true) : okL (l ++ m) = true := by
  rw [okL_iff] at *
  intro c hc
  rw [List.mem_append] at hc
  exact hc.elim (h c) (h2 c)
theorem okL_blkK {w : Int} {cs : List Cel} (h : okL cs = true) (ax ay : Int) (n : Nat) : ∀ k, okL (blkK w cs ax ay n k) = true
  | 0 => rfl
  | k + 1 => by rw [blkK]; exact okL_app (okL_blkK h ax ay n k) (okL_row h _ _ _)
theorem okL_blk {g : Grd} (hg : g.ok = true) (a b : Pnt) : okL (blk g.w g.cs a b) = true := okL_blkK (gok_okL hg) _ _ _ _
theorem blk_len5 {g : Grd} (hg : g.ok = true) {a b : Pnt} (hb : blkOk g a b) : (blk g.w g.cs a b).length ≤ 4096 := by
  have := blk_len hg hb; omega
theorem blk_pos {g : Grd} (hg : g.ok = true) {a b : Pnt} (hb : blkOk g a b) : 0 < (blk g.w g.cs a b).length := by
  have := blk_len hg hb; omega
theorem sum_end {l : List Cel} {k : Nat} (hk : l.length ≤ k) : l.take k = l := List.take_of_length_le hk
/-! ### Sides -/
def sidE (g : Grd) (wide high : Int) : Int := if g.ok then (if (1 ≤ wide ∧ wide ≤ g.w) ∧ 1 ≤ high ∧ high ≤ g.h then 0 else 7) else 1
theorem sid_ways (g : Grd) (wide high : Int) : (g.ok = false ∧ sidE g wide high = 1) ∨ (g.ok = true ∧ sidE g wide high = 7 ∧ ¬ ((1 ≤ wide ∧ wide ≤ g.w) ∧ 1 ≤ high ∧ high ≤ g.h)) ∨ (g.ok = true ∧ sidE g wide high = 0 ∧ (1 ≤ wide ∧ wide ≤ g.w) ∧ 1 ≤ high ∧ high ≤ g.h) := by
  unfold sidE
  cases hg : g.ok
  · exact .inl ⟨rfl, rfl⟩
  · by_cases hb : (1 ≤ wide ∧ wide ≤ g.w) ∧ 1 ≤ high ∧ high ≤ g.h
    · exact .inr (.inr ⟨rfl, by simp [hb], hb⟩)
    · exact .inr (.inl ⟨rfl, by simp [hb], hb⟩)
/-! ### The first place with the greatest value -/
structure Bst where
  met : Bool
  x : Nat
  y : Nat
def stepB (key : Nat → Nat → Int) (j i : Nat) (s : Bst) : Bst := if s.met = false ∨ key s.y s.x < key j i then ⟨true, i, j⟩ else s
def rowB (key : Nat → Nat → Int) (j : Nat) (s : Bst) : Nat → Bst
  | 0 => s
  | i + 1 => stepB key j i (rowB key j s i)
def gridB (key : Nat → Nat → Int) (n : Nat) : Nat → Bst
  | 0 => ⟨false, 0, 0⟩
  | j + 1 => rowB key j (gridB key n j) n
def bstJ (key : Nat → Nat → Int) (n j i : Nat) : Bst := rowB key j (gridB key n j) i
def bval (F : Nat → Nat → Int) (s : Bst) : Int := if s.met then F s.y s.x else 0
theorem bstJ_zero (key : Nat → Nat → Int) (n j : Nat) : bstJ key n j 0 = gridB key n j := rfl
theorem bstJ_row (key : Nat → Nat → Int) (n j : Nat) : bstJ key n j n = gridB key n (j + 1) := rfl
theorem bst_new {key : Nat → Nat → Int} {n j i : Nat} (h : (bstJ key n j i).met = false ∨ key (bstJ key n j i).y (bstJ key n j i).x < key j i) : bstJ key n j (i + 1) = ⟨true, i, j⟩ := by
  show stepB key j i (bstJ key n j i) = _
  unfold stepB; rw [if_pos h]
theorem bst_old {key : Nat → Nat → Int} {n j i : Nat} (h : (bstJ key n j i).met = true) (h2 : ¬ key (bstJ key n j i).y (bstJ key n j i).x < key j i) : bstJ key n j (i + 1) = bstJ key n j i := by
  show stepB key j i (bstJ key n j i) = _
  unfold stepB; rw [if_neg (by rw [h]; simp; omega)]
theorem bst_in (key : Nat → Nat → Int) (n : Nat) : ∀ (j i : Nat), i ≤ n → ((bstJ key n j i).met = false ∧ (bstJ key n j i).x = 0 ∧ (bstJ key n j i).y = 0 ∧ j * n + i = 0) ∨ ((bstJ key n j i).met = true ∧ (bstJ key n j i).x < n ∧ (bstJ key n j i).y ≤ j ∧ ((bstJ key n j i).y = j → (bstJ key n j i).x < i))
  | 0, 0, _ => .inl ⟨rfl, rfl, rfl, by omega⟩
  | j + 1, 0, _ => by
    rw [bstJ_zero, ← bstJ_row]
    rcases bst_in key n j n (Nat.le_refl _) with ⟨h1, h2, h3, h4⟩ | ⟨h1, h2, h3, h4⟩
    · exact .inl ⟨h1, h2, h3, by rw [Nat.add_zero, Nat.succ_mul]; exact h4⟩
    · exact .inr ⟨h1, h2, by omega, by omega⟩
  | j, i + 1, hi => by
    have ih := bst_in key n j i (by omega)
    by_cases h : (bstJ key n j i).met = false ∨ key (bstJ key n j i).y (bstJ key n j i).x < key j i
    · rw [bst_new h]
      exact .inr ⟨rfl, by show i < n; omega, Nat.le_refl _, fun _ => by show i < i + 1; omega⟩
    · rw [not_or] at h
      have hm : (bstJ key n j i).met = true := by cases hq : (bstJ key n j i).met <;> simp_all
      rw [bst_old hm h.2]
      rcases ih with ⟨h1, _⟩ | ⟨h1, h2, h3, h4⟩
      · rw [hm] at h1; cases h1
      · exact .inr ⟨h1, h2, h3, fun q => by have := h4 q; omega⟩
theorem bval_new (F : Nat → Nat → Int) (i j : Nat) : bval F ⟨true, i, j⟩ = F j i := rfl
theorem bval_met {F : Nat → Nat → Int} {s : Bst} (h : s.met = true) : bval F s = F s.y s.x := by unfold bval; rw [h]; rfl
theorem bval_bd {F : Nat → Nat → Int} {lo up : Int} {n m : Nat} (hF : ∀ j i, j < m → i < n → lo ≤ F j i ∧ F j i ≤ up) (h0 : lo ≤ 0 ∧ 0 ≤ up) {key : Nat → Nat → Int} {j i : Nat} (hj : j < m ∨ j = m ∧ i = 0) (hi : i ≤ n) : lo ≤ bval F (bstJ key n j i) ∧ bval F (bstJ key n j i) ≤ up := by
  rcases bst_in key n j i hi with ⟨h1, _⟩ | ⟨h1, h2, h3, h4⟩
  · unfold bval; rw [h1]; exact h0
  · rw [bval_met h1]; exact hF _ _ (by omega) h2
/-! Vortices. -/
def vorF (g : Grd) (side : Int) (j i : Nat) : Int := circ g ⟨i, j⟩ ⟨(i : Int) + side - 1, (j : Int) + side - 1⟩
def vorK (g : Grd) (side : Int) (j i : Nat) : Int := (vorF g side j i).natAbs
/-- The mass of a block at a place. -/
def denK (g : Grd) (wide high : Int) (j i : Nat) : Int := (crnC g wide high i j).m
def vorB (g : Grd) (side : Int) : Bst := if sidE g side side = 0 then gridB (vorK g side) (crnN g.w side) (crnN g.h side) else ⟨false, 0, 0⟩
def vorV (g : Grd) (side : Int) : Int := bval (vorF g side) (vorB g side)
theorem vorF_bd {g : Grd} (hg : g.ok = true) {side : Int} (hs : 1 ≤ side) {j i : Nat} (hj : j < crnN g.h side) (hi : i < crnN g.w side) : -40000000000000 ≤ vorF g side j i ∧ vorF g side j i ≤ 40000000000000 := circ_bd hg (crn_ok hs hs hi hj)
theorem vor_ways (g : Grd) (side : Int) : (g.ok = false ∧ sidE g side side = 1 ∧ vorB g side = ⟨false, 0, 0⟩ ∧ vorV g side = 0 ∧ True) ∨ (g.ok = true ∧ sidE g side side = 7 ∧ vorB g side = ⟨false, 0, 0⟩ ∧ vorV g side = 0 ∧ ¬ ((1 ≤ side ∧ side ≤ g.w) ∧ 1 ≤ side ∧ side ≤ g.h)) ∨
    (g.ok = true ∧ sidE g side side = 0 ∧ vorB g side = gridB (vorK g side) (crnN g.w side) (crnN g.h side) ∧ vorV g side = bval (vorF g side) (gridB (vorK g side) (crnN g.w side) (crnN g.h side)) ∧ (1 ≤ side ∧ side ≤ g.w) ∧ 1 ≤ side ∧ side ≤ g.h) := by
  rcases sid_ways g side side with ⟨h1, h2⟩ | ⟨h1, h2, h3⟩ | ⟨h1, h2, h3⟩
  · have e : vorB g side = ⟨false, 0, 0⟩ := by simp [vorB, h2]
    exact .inl ⟨h1, h2, e, by simp [vorV, e, bval], trivial⟩
  · have e : vorB g side = ⟨false, 0, 0⟩ := by simp [vorB, h2]
    exact .inr (.inl ⟨h1, h2, e, by simp [vorV, e, bval], h3⟩)
  · have e : vorB g side = gridB (vorK g side) (crnN g.w side) (crnN g.h side) := by simp [vorB, h2]
    exact .inr (.inr ⟨h1, h2, e, by rw [vorV, e], h3⟩)
/-! ### Grids whose cells are alike -/
def alC (c : Cel) : Cel := ⟨c.e % 1000, c.n % 1000, c.w % 1000, c.s % 1000⟩
def alG (g : Grd) : Grd := ⟨g.w, g.h, List.replicate g.cs.length (alC (g.cs.getD 0 default))⟩
theorem massL_rep (c : Cel) : ∀ n : Nat, massL (List.replicate n c) = n * c.m
  | 0 => by simp [massL]
  | n + 1 => by
    rw [List.replicate_succ, massL, massL_rep c n, show ((n + 1 : Nat) : Int) = (n : Int) + 1 by omega, Int.add_mul, Int.one_mul, Int.add_comm]
theorem alC_bd (c : Cel) : (0 ≤ (alC c).e ∧ (alC c).e ≤ 999) ∧ (0 ≤ (alC c).n ∧ (alC c).n ≤ 999) ∧ (0 ≤ (alC c).w ∧ (alC c).w ≤ 999) ∧ 0 ≤ (alC c).s ∧ (alC c).s ≤ 999 := by
  unfold alC; simp only; omega
theorem alG_ok {g : Grd} (hg : g.ok = true) : (alG g).ok = true := by
  have h := Grd.ok_iff.1 hg
  have hb := gok_bds hg
  have hc := alC_bd (g.cs.getD 0 default)
  rw [Grd.ok_iff]
  refine ⟨h.1, by simp only [alG, List.length_replicate]; exact h.2.1, fun c q => ?_, ?_⟩
  · simp only [alG, List.mem_replicate] at q
    rw [q.2, Cel.ok_iff]
    unfold Cel.m at *
    omega
  · simp only [alG]
    rw [massL_rep]
    have hm : (alC (g.cs.getD 0 default)).m ≤ 3996 ∧ 0 ≤ (alC (g.cs.getD 0 default)).m := by unfold Cel.m; omega
    have h1 : (g.cs.length : Int) * (alC (g.cs.getD 0 default)).m ≤ 1024 * (alC (g.cs.getD 0 default)).m := Int.mul_le_mul_of_nonneg_right (by omega) hm.2
    omega
theorem segS_const (F : Int → Int) (a c : Int) : ∀ n : Nat, (∀ k : Nat, k < n → F (a + k) = c) → segS F a n = n * c
  | 0, _ => by simp [segS]
  | n + 1, h => by
    rw [segS, segS_const F a c n (fun k hk => h k (by omega)), h n (by omega), show ((n + 1 : Nat) : Int) = (n : Int) + 1 by omega, Int.add_mul, Int.one_mul]
theorem al_at {g : Grd} (hg : g.ok = true) {x y : Int} (hx : 0 ≤ x ∧ x ≤ g.w - 1) (hy : 0 ≤ y ∧ y ≤ g.h - 1) : atP (alG g).w (alG g).cs x y = alC (g.cs.getD 0 default) := by
  have hi := idx_in hg hx hy
  show (List.replicate g.cs.length (alC (g.cs.getD 0 default))).getD (x + g.w * y).toNat default = _
  have hl : (x + g.w * y).toNat < g.cs.length := by omega
  simp [List.getD, List.getElem?_replicate, hl]
theorem al_circ {g : Grd} (hg : g.ok = true) {a d : Pnt} (hb : blkOk g a d) : blkE (alG g) a d = 0 ∧ circR (alG g) a d = 0 := by
  have hk : blkOk (alG g) a d := hb
  obtain ⟨e1, e2⟩ := circ_at (alG_ok hg) hk
  refine ⟨e1, ?_⟩
  rw [e2, circ_seg]
  unfold blkOk onB at hb
  have row : ∀ (f : Cel → Int) (y : Int), 0 ≤ y ∧ y ≤ g.h - 1 → segS (fun q => f (atP (alG g).w (alG g).cs q y)) a.x (d.x - a.x + 1).toNat = (d.x - a.x + 1).toNat * f (alC (g.cs.getD 0 default)) := fun f y hy => segS_const _ _ _ _ fun k hk => congrArg f (al_at hg (by omega) hy)
  have col : ∀ (f : Cel → Int) (x : Int), 0 ≤ x ∧ x ≤ g.w - 1 → segS (fun q => f (atP (alG g).w (alG g).cs x q)) a.y (d.y - a.y + 1).toNat = (d.y - a.y + 1).toNat * f (alC (g.cs.getD 0 default)) := fun f x hx => segS_const _ _ _ _ fun k hk => congrArg f (al_at hg hx (by omega))
  rw [row (·.e) a.y (by omega), row (·.w) a.y (by omega), row (·.e) d.y (by omega), row (·.w) d.y (by omega), col (·.n) d.x (by omega), col (·.s) d.x (by omega), col (·.n) a.x (by omega), col (·.s) a.x (by omega)]
  omega
theorem rep_snoc (c : Cel) (n : Nat) : List.replicate n c ++ [c] = List.replicate (n + 1) c := by rw [List.replicate_succ']
/-! The ways of the law of loops. -/
theorem loopW (g : Grd) (a d : Pnt) : (decide (big8 g) = true ∧ True) ∨ (decide (big8 g) = false ∧ ¬ blkE g a d = 0 ∧ g.cs.length ≤ 1100) ∨ (decide (big8 g) = false ∧ blkE g a d = 0 ∧ g.cs.length ≤ 1100 ∧ g.ok = true ∧ blkE (alG g) a d = 0 ∧ circR (alG g) a d = 0) := by
  by_cases hb : big8 g
  · exact .inl ⟨decide_eq_true hb, trivial⟩
  · have hl : g.cs.length ≤ 1100 := by unfold big8 at hb; omega
    rcases circ_ways g a d with ⟨_, he, _⟩ | ⟨_, he, _⟩ | ⟨hv, he, hr, hk⟩
    · exact .inr (.inl ⟨decide_eq_false hb, by omega, hl⟩)
    · exact .inr (.inl ⟨decide_eq_false hb, by omega, hl⟩)
    · exact .inr (.inr ⟨decide_eq_false hb, he, hl, hv, (al_circ hv hk).1, (al_circ hv hk).2⟩)
theorem alC_t {c : Cel} (h : c.ok = true) : (c.e.tmod 1000 = (alC c).e ∧ c.n.tmod 1000 = (alC c).n) ∧ c.w.tmod 1000 = (alC c).w ∧ c.s.tmod 1000 = (alC c).s := by
  have hb := Cel.ok_iff.1 h
  unfold alC
  simp only
  refine ⟨⟨?_, ?_⟩, ?_, ?_⟩ <;> exact Int.tmod_eq_emod_of_nonneg (by omega)
theorem rep_app (c : Cel) (n : Nat) {e n' w s : Int} (he : e = c.e) (hn : n' = c.n) (hw : w = c.w) (hs : s = c.s) : Cts.cx (List.replicate n c ++ [⟨e, n', w, s⟩]) = Cts.cx (List.replicate (n + 1) c) := by
  subst he hn hw hs; rw [List.replicate_succ']
end Go.Sy
