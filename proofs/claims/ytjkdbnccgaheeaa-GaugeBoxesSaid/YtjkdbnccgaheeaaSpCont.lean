/- Profiles, crossings; what a line gains when a grid streams. -/
import Derived.Test.YtjkdbnccgaheeaaSpField
set_option linter.unusedSimpArgs false
set_option linter.unusedVariables false
set_option linter.unusedSectionVars false
namespace Go.Sy
theorem sumI_range_succ (F : Nat → Int) (k : Nat) : sumI ((List.range (k + 1)).map F) = sumI ((List.range k).map F) + F k := by
  rw [List.range_succ, List.map_append, sumI_app]; simp [sumI]
theorem sumP_row (f : Cel → Int) (w : Int) (cs : List Cel) (ax y : Int) : ∀ k, sumP f (rowK w cs ax y k) = sumI ((List.range k).map fun i : Nat => f (atP w cs (ax + (i : Int)) y))
  | 0 => rfl
  | k + 1 => by rw [rowK, sumP_app, sumP_row f w cs ax y k, sumI_range_succ]; simp [sumP, sumI]
theorem sumP_blk (f : Cel → Int) (w : Int) (cs : List Cel) (ax ay : Int) (n : Nat) : ∀ k, sumP f (blkK w cs ax ay n k) = sumI ((List.range k).map fun j : Nat => sumI ((List.range n).map fun i : Nat => f (atP w cs (ax + (i : Int)) (ay + (j : Int)))))
  | 0 => rfl
  | k + 1 => by rw [blkK, sumP_app, sumP_blk f w cs ax ay n k, sumI_range_succ, sumP_row]
/-- A line: a column (axis 0) or a row. -/
def lineA (axis i : Int) : Pnt := if axis = 0 then ⟨i, 0⟩ else ⟨0, i⟩
def lineZ (g : Grd) (axis i : Int) : Pnt := if axis = 0 then ⟨i, g.h - 1⟩ else ⟨g.w - 1, i⟩
def sideN (g : Grd) (axis : Int) : Int := if axis = 0 then g.w else g.h
def lineC (g : Grd) (axis i : Int) : Cel := sumC (blk g.w g.cs (lineA axis i) (lineZ g axis i))
def lineS (g : Grd) (axis i : Int) (f : Cel → Int) : Int := if axis = 0 then sumI ((List.range g.h.toNat).map fun j : Nat => f (atP g.w g.cs i (j : Int))) else sumI ((List.range g.w.toNat).map fun j : Nat => f (atP g.w g.cs (j : Int) i))
theorem line_sum (g : Grd) (axis i : Int) (f : Cel → Int) : sumP f (blk g.w g.cs (lineA axis i) (lineZ g axis i)) = lineS g axis i f := by
  unfold lineA lineZ lineS blk
  by_cases h : axis = 0
  · simp only [h, if_true]
    rw [sumP_blk, show (i - i + 1).toNat = 1 by omega, show (g.h - 1 - 0 + 1).toNat = g.h.toNat by omega]
    congr 1
    refine List.map_congr_left fun j _ => ?_
    simp [sumI]
  · simp only [h, if_false]
    rw [sumP_blk, show (i - i + 1).toNat = 1 by omega, show (g.w - 1 - 0 + 1).toNat = g.w.toNat by omega]
    simp [sumI]
theorem lineC_eq (g : Grd) (axis i : Int) : lineC g axis i = ⟨lineS g axis i (·.e), lineS g axis i (·.n), lineS g axis i (·.w), lineS g axis i (·.s)⟩ := by
  simp only [lineC, sumC, line_sum]
/-- Numbers in a ring, told from another one on. -/
theorem ring_sum (F : Int → Int) {n : Nat} (hn : 0 < n) (b : Int) : sumI ((List.range n).map fun j : Nat => F (((j : Int) + b) % n)) = sumI ((List.range n).map fun j : Nat => F (j : Int)) := by
  have e : ∀ j : Nat, ((((j : Int) + b) % n).toNat : Int) = ((j : Int) + b) % n := fun j => Int.toNat_of_nonneg (Int.emod_nonneg _ (by omega))
  have hp := perm_range (n := n) (f := fun j => (((j : Int) + b) % n).toNat) (fun i hi => by have := Int.emod_lt_of_pos ((i : Int) + b) (show (0 : Int) < n by omega); have := e i; omega)
    (fun i j hi hj h => by
      have h' : ((i : Int) + b) % n = ((j : Int) + b) % n := by rw [← e i, ← e j]; exact congrArg _ h
      have q : ∀ k : Nat, k < n → (((k : Int) + b) % n + -b) % n = k := fun k hk => by
        rw [Int.emod_add_emod, Int.add_assoc, show b + -b = 0 by omega, Int.add_zero]
        exact Int.emod_eq_of_lt (by omega) (by omega)
      have := q i hi
      rw [h', q j hj] at this
      omega)
  have := sumI_perm (hp.map fun j : Nat => F (j : Int))
  rw [List.map_map] at this
  rw [← this]
  congr 1
  refine List.map_congr_left fun j _ => ?_
  simp only [Function.comp_apply, e]
theorem flowP_at {g : Grd} (hg : g.ok = true) {x y : Int} (hx : 0 ≤ x ∧ x ≤ g.w - 1) (hy : 0 ≤ y ∧ y ≤ g.h - 1) :
    atP g.w (flow g.w g.h 1 g.cs) x y = ⟨(atP g.w g.cs ((x + -1) % g.w) y).e, (atP g.w g.cs x ((y + -1) % g.h)).n, (atP g.w g.cs ((x + 1) % g.w) y).w, (atP g.w g.cs x ((y + 1) % g.h)).s⟩ := by
  have hi := idx_in hg hx hy
  have hb := gok_bds hg
  have hlt : (x + g.w * y).toNat < g.cs.length := by omega
  have ei : (((x + g.w * y).toNat : Nat) : Int) = x + g.w * y := Int.toNat_of_nonneg hi.1
  have em : (x + g.w * y) % g.w = x := by rw [Int.add_mul_emod_self_left]; exact Int.emod_eq_of_lt hx.1 (by omega)
  have ed : (x + g.w * y) / g.w = y := by rw [Int.add_mul_ediv_left _ _ (show g.w ≠ 0 by omega), Int.ediv_eq_zero_of_lt hx.1 (by omega), Int.zero_add]
  have hx0 : x % g.w = x := Int.emod_eq_of_lt hx.1 (by omega)
  have hy0 : y % g.h = y := Int.emod_eq_of_lt hy.1 (by omega)
  unfold atP flow
  rw [tab_at _ hlt]
  simp only [shp, ei, em, ed, Int.add_zero, hx0, hy0]
theorem line_flow {g : Grd} (hg : g.ok = true) {axis i : Int} (ha : axis = 0 ∨ axis = 1) (hi : 0 ≤ i ∧ i ≤ sideN g axis - 1) :
    (lineC ⟨g.w, g.h, flow g.w g.h 1 g.cs⟩ axis i).m = (lineC g axis i).m + (if axis = 0 then (lineC g axis ((i + -1) % sideN g axis)).e else (lineC g axis ((i + -1) % sideN g axis)).n) - (if axis = 0 then (lineC g axis i).w else (lineC g axis i).s) - (if axis = 0 then (lineC g axis i).e else (lineC g axis i).n) + (if axis = 0 then (lineC g axis ((i + 1) % sideN g axis)).w else (lineC g axis ((i + 1) % sideN g axis)).s) := by
  have hb := gok_bds hg
  rcases ha with rfl | rfl
  · simp only [sideN, if_true] at hi ⊢
    have hN : ((g.h.toNat : Nat) : Int) = g.h := Int.toNat_of_nonneg (by omega)
    have q : ∀ (f : Cel → Int) (c : Nat → Cel), (∀ j : Nat, (j : Int) ≤ g.h - 1 → f (atP g.w (flow g.w g.h 1 g.cs) i (j : Int)) = f (c j)) → lineS ⟨g.w, g.h, flow g.w g.h 1 g.cs⟩ 0 i f = sumI ((List.range g.h.toNat).map fun j : Nat => f (c j)) := fun f c h => by
      simp only [lineS, if_true]
      exact congrArg sumI (List.map_congr_left fun j hj => h j (by have := List.mem_range.1 hj; omega))
    have fe : lineS ⟨g.w, g.h, flow g.w g.h 1 g.cs⟩ 0 i (·.e) = lineS g 0 ((i + -1) % g.w) (·.e) := by
      rw [q (·.e) (fun j : Nat => atP g.w g.cs ((i + -1) % g.w) (j : Int)) fun j hj => by rw [flowP_at hg hi ⟨by omega, hj⟩]]
      simp only [lineS, if_true]
    have fw : lineS ⟨g.w, g.h, flow g.w g.h 1 g.cs⟩ 0 i (·.w) = lineS g 0 ((i + 1) % g.w) (·.w) := by
      rw [q (·.w) (fun j : Nat => atP g.w g.cs ((i + 1) % g.w) (j : Int)) fun j hj => by rw [flowP_at hg hi ⟨by omega, hj⟩]]
      simp only [lineS, if_true]
    have fn : lineS ⟨g.w, g.h, flow g.w g.h 1 g.cs⟩ 0 i (·.n) = lineS g 0 i (·.n) := by
      rw [q (·.n) (fun j : Nat => atP g.w g.cs i (((j : Int) + -1) % g.h)) fun j hj => by rw [flowP_at hg hi ⟨by omega, hj⟩]]
      have := ring_sum (fun j => (atP g.w g.cs i j).n) (show 0 < g.h.toNat by omega) (-1)
      rw [hN] at this
      simp only [lineS, if_true]; exact this
    have fs : lineS ⟨g.w, g.h, flow g.w g.h 1 g.cs⟩ 0 i (·.s) = lineS g 0 i (·.s) := by
      rw [q (·.s) (fun j : Nat => atP g.w g.cs i (((j : Int) + 1) % g.h)) fun j hj => by rw [flowP_at hg hi ⟨by omega, hj⟩]]
      have := ring_sum (fun j => (atP g.w g.cs i j).s) (show 0 < g.h.toNat by omega) 1
      rw [hN] at this
      simp only [lineS, if_true]; exact this
    simp only [lineC_eq, Cel.m, fe, fw, fn, fs]
    omega
  · simp only [sideN, Int.one_ne_zero, if_false] at hi ⊢
    have hN : ((g.w.toNat : Nat) : Int) = g.w := Int.toNat_of_nonneg (by omega)
    have q : ∀ (f : Cel → Int) (c : Nat → Cel), (∀ j : Nat, (j : Int) ≤ g.w - 1 → f (atP g.w (flow g.w g.h 1 g.cs) (j : Int) i) = f (c j)) → lineS ⟨g.w, g.h, flow g.w g.h 1 g.cs⟩ 1 i f = sumI ((List.range g.w.toNat).map fun j : Nat => f (c j)) := fun f c h => by
      simp only [lineS, Int.one_ne_zero, if_false]
      exact congrArg sumI (List.map_congr_left fun j hj => h j (by have := List.mem_range.1 hj; omega))
    have fe : lineS ⟨g.w, g.h, flow g.w g.h 1 g.cs⟩ 1 i (·.e) = lineS g 1 i (·.e) := by
      rw [q (·.e) (fun j : Nat => atP g.w g.cs (((j : Int) + -1) % g.w) i) fun j hj => by rw [flowP_at hg ⟨by omega, hj⟩ hi]]
      have := ring_sum (fun j => (atP g.w g.cs j i).e) (show 0 < g.w.toNat by omega) (-1)
      rw [hN] at this
      simp only [lineS, Int.one_ne_zero, if_false]; exact this
    have fw : lineS ⟨g.w, g.h, flow g.w g.h 1 g.cs⟩ 1 i (·.w) = lineS g 1 i (·.w) := by
      rw [q (·.w) (fun j : Nat => atP g.w g.cs (((j : Int) + 1) % g.w) i) fun j hj => by rw [flowP_at hg ⟨by omega, hj⟩ hi]]
      have := ring_sum (fun j => (atP g.w g.cs j i).w) (show 0 < g.w.toNat by omega) 1
      rw [hN] at this
      simp only [lineS, Int.one_ne_zero, if_false]; exact this
    have fn : lineS ⟨g.w, g.h, flow g.w g.h 1 g.cs⟩ 1 i (·.n) = lineS g 1 ((i + -1) % g.h) (·.n) := by
      rw [q (·.n) (fun j : Nat => atP g.w g.cs (j : Int) ((i + -1) % g.h)) fun j hj => by rw [flowP_at hg ⟨by omega, hj⟩ hi]]
      simp only [lineS, Int.one_ne_zero, if_false]
    have fs : lineS ⟨g.w, g.h, flow g.w g.h 1 g.cs⟩ 1 i (·.s) = lineS g 1 ((i + 1) % g.h) (·.s) := by
      rw [q (·.s) (fun j : Nat => atP g.w g.cs (j : Int) ((i + 1) % g.h)) fun j hj => by rw [flowP_at hg ⟨by omega, hj⟩ hi]]
      simp only [lineS, Int.one_ne_zero, if_false]
    simp only [lineC_eq, Cel.m, fe, fw, fn, fs]
    omega
def profE (g : Grd) (axis : Int) : Int := if g.ok then (if 0 ≤ axis ∧ axis ≤ 1 then 0 else 7) else 1
def axW (g : Grd) (axis : Int) : Int := if axis = 1 then g.w else 1
def axH (g : Grd) (axis : Int) : Int := if axis = 1 then 1 else g.h
def profF (g : Grd) (axis : Int) (j i : Nat) : Int := (crnC g (axW g axis) (axH g axis) i j).m
def profL (g : Grd) (axis : Int) : List Int := if profE g axis = 0 then gridL (profF g axis) (crnN g.w (axW g axis)) (crnN g.h (axH g axis)) else []
theorem prof_ways (g : Grd) (axis : Int) : (g.ok = false ∧ profE g axis = 1 ∧ profL g axis = [] ∧ True) ∨ (g.ok = true ∧ profE g axis = 7 ∧ profL g axis = [] ∧ ¬ (0 ≤ axis ∧ axis ≤ 1)) ∨
    (g.ok = true ∧ profE g axis = 0 ∧ profL g axis = gridL (profF g axis) (crnN g.w (axW g axis)) (crnN g.h (axH g axis)) ∧ (axis = 0 ∧ axW g axis = 1 ∧ axH g axis = g.h)) ∨
    (g.ok = true ∧ profE g axis = 0 ∧ profL g axis = gridL (profF g axis) (crnN g.w (axW g axis)) (crnN g.h (axH g axis)) ∧ (axis = 1 ∧ axW g axis = g.w ∧ axH g axis = 1)) := by
  unfold profL
  cases hg : g.ok
  · have e : profE g axis = 1 := by simp [profE, hg]
    exact .inl ⟨rfl, e, by simp [e], trivial⟩
  · by_cases h0 : axis = 0
    · subst h0
      have e : profE g 0 = 0 := by simp [profE, hg]
      exact .inr (.inr (.inl ⟨rfl, e, by simp [e], rfl, rfl, rfl⟩))
    · by_cases h1 : axis = 1
      · subst h1
        have e : profE g 1 = 0 := by simp [profE, hg]
        exact .inr (.inr (.inr ⟨rfl, e, by simp [e], rfl, rfl, rfl⟩))
      · have e : profE g axis = 7 := by unfold profE; rw [hg, if_pos rfl, if_neg (by omega)]
        exact .inr (.inl ⟨rfl, e, by simp [e], by omega⟩)
theorem prof_len {g : Grd} (hg : g.ok = true) {axis : Int} (ha : axis = 0 ∨ axis = 1) : ((profL g axis).length : Int) = sideN g axis ∧ 1 ≤ sideN g axis ∧ sideN g axis ≤ 64 := by
  have hb := gok_bds hg
  rcases ha with rfl | rfl
  · have e : profE g 0 = 0 := by simp [profE, hg]
    unfold profL
    rw [if_pos e, gridL_length]
    simp only [crnN, axW, axH, sideN, if_true, Int.zero_ne_one, if_false]
    rw [show (g.h - g.h + 1).toNat = 1 by omega]
    omega
  · have e : profE g 1 = 0 := by simp [profE, hg]
    unfold profL
    rw [if_pos e, gridL_length]
    simp only [crnN, axW, axH, sideN, if_true, Int.one_ne_zero, if_false]
    rw [show (g.w - g.w + 1).toNat = 1 by omega]
    omega
theorem gridL_one {α : Type} (F : Nat → Nat → α) : ∀ j, gridL F 1 j = (List.range j).map fun k => F k 0
  | 0 => rfl
  | j + 1 => by
    rw [gridL, gridL_one F j, List.range_succ (n := j), List.map_append]
    rfl
theorem prof_at {g : Grd} (hg : g.ok = true) {axis : Int} (ha : axis = 0 ∨ axis = 1) {i : Nat} (hi : (i : Int) < sideN g axis) : (profL g axis).getD i 0 = (lineC g axis i).m := by
  have hb := gok_bds hg
  rcases ha with rfl | rfl
  · have e : profE g 0 = 0 := by simp [profE, hg]
    simp only [sideN, if_true] at hi
    unfold profL
    rw [if_pos e]
    simp only [crnN, axW, axH, if_true, Int.zero_ne_one, if_false]
    rw [show (g.h - g.h + 1).toNat = 1 by omega]
    simp only [gridL, List.nil_append, List.getD_eq_getElem?_getD, List.getElem?_map, List.getElem?_range (show i < (g.w - 1 + 1).toNat by omega), Option.map_some, Option.getD_some]
    simp only [profF, crnC, axW, axH, Int.zero_ne_one, if_false, lineC, lineA, lineZ, if_true]
    congr 3 <;> (try (congr 1 <;> omega)) <;> omega
  · have e : profE g 1 = 0 := by simp [profE, hg]
    simp only [sideN, Int.one_ne_zero, if_false] at hi
    unfold profL
    rw [if_pos e]
    simp only [crnN, axW, axH, if_true]
    rw [show (g.w - g.w + 1).toNat = 1 by omega, gridL_one]
    simp only [List.getD_eq_getElem?_getD, List.getElem?_map, List.getElem?_range (show i < (g.h - 1 + 1).toNat by omega), Option.map_some, Option.getD_some]
    simp only [profF, crnC, axW, axH, if_true, lineC, lineA, lineZ, Int.one_ne_zero, if_false]
    congr 3 <;> (try (congr 1 <;> omega)) <;> omega
/-! Crossings. -/
def crossOk (g : Grd) (axis at_ : Int) : Prop := (axis = 0 ∧ 0 ≤ at_ ∧ at_ ≤ g.w - 1) ∨ (axis = 1 ∧ 0 ≤ at_ ∧ at_ ≤ g.h - 1)
instance (g : Grd) (axis at_ : Int) : Decidable (crossOk g axis at_) := by unfold crossOk; infer_instance
def crossE (g : Grd) (axis at_ : Int) : Int := if g.ok then (if crossOk g axis at_ then 0 else 7) else 1
def crossF (g : Grd) (axis at_ : Int) : Int := if crossE g axis at_ = 0 then (if axis = 0 then (lineC g axis ((at_ + -1) % sideN g axis)).e else (lineC g axis ((at_ + -1) % sideN g axis)).n) else 0
def crossB (g : Grd) (axis at_ : Int) : Int := if crossE g axis at_ = 0 then (if axis = 0 then (lineC g axis at_).w else (lineC g axis at_).s) else 0
theorem cross_ways (g : Grd) (axis at_ : Int) : (g.ok = false ∧ crossE g axis at_ = 1 ∧ crossF g axis at_ = 0 ∧ crossB g axis at_ = 0 ∧ True) ∨ (g.ok = true ∧ crossE g axis at_ = 7 ∧ crossF g axis at_ = 0 ∧ crossB g axis at_ = 0 ∧ ¬ crossOk g axis at_) ∨
    (g.ok = true ∧ crossE g axis at_ = 0 ∧ crossF g axis at_ = (lineC g 0 ((at_ + -1) % g.w)).e ∧ crossB g axis at_ = (lineC g 0 at_).w ∧ axis = 0 ∧ 0 ≤ at_ ∧ at_ ≤ g.w - 1) ∨
    (g.ok = true ∧ crossE g axis at_ = 0 ∧ crossF g axis at_ = (lineC g 1 ((at_ + -1) % g.h)).n ∧ crossB g axis at_ = (lineC g 1 at_).s ∧ axis = 1 ∧ 0 ≤ at_ ∧ at_ ≤ g.h - 1) := by
  unfold crossF crossB
  cases hg : g.ok
  · have e : crossE g axis at_ = 1 := by simp [crossE, hg]
    exact .inl ⟨rfl, e, by simp [e], by simp [e], trivial⟩
  · by_cases hc : crossOk g axis at_
    · have e : crossE g axis at_ = 0 := by simp [crossE, hg, hc]
      rcases hc with ⟨rfl, h1⟩ | ⟨rfl, h1⟩
      · exact .inr (.inr (.inl ⟨rfl, e, by simp [e, sideN], by simp [e], rfl, h1⟩))
      · exact .inr (.inr (.inr ⟨rfl, e, by simp [e, sideN], by simp [e], rfl, h1⟩))
    · have e : crossE g axis at_ = 7 := by simp [crossE, hg, hc]
      exact .inr (.inl ⟨rfl, e, by simp [e], by simp [e], hc⟩)
theorem line_bds {g : Grd} (hg : g.ok = true) {axis i : Int} (ha : axis = 0 ∨ axis = 1) (hi : 0 ≤ i ∧ i ≤ sideN g axis - 1) : blkOk g (lineA axis i) (lineZ g axis i) := by
  have hb := gok_bds hg
  rcases ha with rfl | rfl
  · simp only [sideN, lineA, lineZ, if_true, blkOk, onB] at *; omega
  · simp only [sideN, lineA, lineZ, Int.one_ne_zero, if_false, blkOk, onB] at *; omega
theorem mod_line {n i : Int} (hn : 1 ≤ n) (hi : 0 ≤ i ∧ i ≤ n - 1) : 0 ≤ (i + -1) % n ∧ (i + -1) % n ≤ n - 1 ∧ (i + n - 1).tmod n = (i + -1) % n := by
  have h1 := Int.emod_nonneg (i + -1) (show n ≠ 0 by omega)
  have h2 := Int.emod_lt_of_pos (i + -1) (show 0 < n by omega)
  refine ⟨h1, by omega, ?_⟩
  rw [Int.tmod_eq_emod_of_nonneg (by omega), show i + n - 1 = i + -1 + n by omega, Int.add_emod_right]
theorem den_tup1 {n j : Nat} {a : Option Nm} {s len len' cap : Nat} {e e' : SV} (hl : len = len') (he : den e = den e') : den (.tup [.sl n a 0 s len cap, e]) = den (.tup [.sl j a 0 s len' cap, e']) := by
  subst hl; simp [den, denL, he]
theorem gridL_len {α : Type} (F : Nat → Nat → α) (n j : Nat) : (gridL F n j).length = n * j := by rw [gridL_length, Nat.mul_comm]
theorem gridJ_len {α : Type} (F : Nat → Nat → α) (n j i : Nat) : (gridJ F n j i).length = n * j + i := by rw [gridJ_length, Nat.mul_comm]
theorem gridJ_app (F : Nat → Nat → Int) (n j i : Nat) {x : Int} (hx : x = F j i) : Cts.ix (gridJ F n j i ++ seg [x] 0 1) = Cts.ix (gridJ F n j (i + 1)) := by
  subst hx; rw [gridJ_next]; rfl
end Go.Sy
