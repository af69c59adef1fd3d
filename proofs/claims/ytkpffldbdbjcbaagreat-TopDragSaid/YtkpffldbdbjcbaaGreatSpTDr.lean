/- Boxes and walls: the momentum in a box, and what flows in and out. -/
import Derived.Test.YtkpffldbdbjcbaaGreatSpGau
import Derived.Test.YtkpffldbdbjcbaaGreatSpGrid
import Derived.Test.YtkpffldbdbjcbaaGreatSpOrder
import Derived.Test.YtkpffldbdbjcbaaGreatSpRule
import Derived.Test.YtkpffldbdbjcbaaGreatSpRuns
import Derived.Test.YtkpffldbdbjcbaaGreatSpTrue
import Derived.Test.YtkpffldbdbjcbaaGreatSyG
set_option linter.unusedSimpArgs false
set_option linter.unusedVariables false
namespace Go.Sy
theorem tupB_eq {x : SV} {f : BF} {b : Bool} (h : f.b = b) : den (.tup [x, .bool f]) = den (.tup [x, .bool (.atom b)]) := by subst h; simp [den, denL, BF.b]
theorem tupF_eq {x : SV} {b : Bool} (h : b = false) : den (.tup [x, ofConst (.bool false)]) = den (.tup [x, .bool (.atom b)]) := by subst h; simp [den, denL, BF.b, den_ofConst]
theorem res_b2 {f f' : BF} (h : f.b = f'.b) : den (.bool f) = den (.bool f') := by simp [den, h]
/-! ### Boxes -/
def inQ (x : Cel) (p q : Int) : Bool := decide ((x.e ≤ p ∧ p ≤ x.w) ∧ x.n ≤ q ∧ q ≤ x.s)
def boxC (a d : Pnt) : Cel := ⟨min a.x d.x, min a.y d.y, max a.x d.x, max a.y d.y⟩
def onG (g : Grd) (a d : Pnt) : Prop := (0 ≤ min a.x d.x ∧ 0 ≤ min a.y d.y) ∧ max a.x d.x < g.w ∧ max a.y d.y < g.h
instance (g : Grd) (a d : Pnt) : Decidable (onG g a d) := by unfold onG; infer_instance
def inK (g : Grd) (x : Cel) (k : Int) : Bool := inQ x (k % g.w) (k / g.w)
/-- The momentum of a cell on an axis. -/
def cellM (axis : Int) (c : Cel) : Int := if axis = 0 then c.e - c.w else c.n - c.s
def momS (g : Grd) (x : Cel) (axis : Int) : Nat → Int
  | 0 => 0
  | k + 1 => momS g x axis k + (if inK g x k then cellM axis (g.cs.getD k default) else 0)
theorem momS_t {g : Grd} {x : Cel} {axis : Int} {k : Nat} (h : inK g x k = true) : momS g x axis (k + 1) = momS g x axis k + cellM axis (g.cs.getD k default) := by simp only [momS, h, if_true]
theorem momS_f {g : Grd} {x : Cel} {axis : Int} {k : Nat} (h : inK g x k = false) : momS g x axis (k + 1) = momS g x axis k := by simp [momS, h]
theorem cel_bd {g : Grd} (hg : g.ok = true) (k : Nat) : (0 ≤ (g.cs.getD k default).e ∧ (g.cs.getD k default).e ≤ 1000000000) ∧ (0 ≤ (g.cs.getD k default).n ∧ (g.cs.getD k default).n ≤ 1000000000) ∧ (0 ≤ (g.cs.getD k default).w ∧ (g.cs.getD k default).w ≤ 1000000000) ∧ 0 ≤ (g.cs.getD k default).s ∧ (g.cs.getD k default).s ≤ 1000000000 := by
  by_cases hi : k < g.cs.length
  · have := Cel.ok_iff.1 (okL_iff.1 (gok_okL hg) _ (getD_mem default hi))
    omega
  · rw [show g.cs.getD k default = (default : Cel) by rw [List.getD_eq_getElem?_getD, List.getElem?_eq_none (by omega)]; rfl]
    show (0 ≤ (0 : Int) ∧ (0 : Int) ≤ 1000000000) ∧ (0 ≤ (0 : Int) ∧ (0 : Int) ≤ 1000000000) ∧ (0 ≤ (0 : Int) ∧ (0 : Int) ≤ 1000000000) ∧ 0 ≤ (0 : Int) ∧ (0 : Int) ≤ 1000000000
    omega
theorem momS_bd {g : Grd} (hg : g.ok = true) (x : Cel) (axis : Int) : ∀ k : Nat, -(2000000000 * (k : Int)) ≤ momS g x axis k ∧ momS g x axis k ≤ 2000000000 * (k : Int)
  | 0 => by simp [momS]
  | k + 1 => by
    have ih := momS_bd hg x axis k
    have hc := cel_bd hg k
    have hm : -2000000000 ≤ cellM axis (g.cs.getD k default) ∧ cellM axis (g.cs.getD k default) ≤ 2000000000 := by unfold cellM; split <;> omega
    simp only [momS]
    split <;> omega
/-- Where the index of a cell lies. -/
theorem k_at {g : Grd} (hg : g.ok = true) {k : Int} (h0 : 0 ≤ k) (h1 : k < g.cs.length) : k.tmod g.w = k % g.w ∧ k.tdiv g.w = k / g.w ∧ (0 ≤ k % g.w ∧ k % g.w < g.w) ∧ 0 ≤ k / g.w ∧ k / g.w < g.h := by
  have hb := gok_bds hg
  have m1 := Int.emod_nonneg k (show g.w ≠ 0 by omega)
  have m2 := Int.emod_lt_of_pos k (show 0 < g.w by omega)
  have d1 := Int.ediv_nonneg h0 (show 0 ≤ g.w by omega)
  have d2 : k / g.w < g.h := Int.ediv_lt_of_lt_mul (show 0 < g.w by omega) (by rw [Int.mul_comm]; omega)
  exact ⟨Int.tmod_eq_emod_of_nonneg h0, Int.tdiv_eq_ediv_of_nonneg h0, ⟨m1, m2⟩, d1, d2⟩
/-! ### Walls -/
structure brk (k b : Int) : Prop where
  k0 : 0 ≤ k
  k3 : k ≤ 3
  lo : min k 1 ≤ b
  hi : b ≤ min k 1 * 9
instance (k b : Int) : Decidable (brk k b) := decidable_of_iff ((0 ≤ k ∧ k ≤ 3) ∧ min k 1 ≤ b ∧ b ≤ min k 1 * 9) ⟨fun h => ⟨h.1.1, h.1.2, h.2.1, h.2.2⟩, fun h => ⟨⟨h.k0, h.k3⟩, h.lo, h.hi⟩⟩
theorem brk_no {k b : Int} (h : ¬ ((0 ≤ k ∧ k ≤ 3) ∧ min k 1 ≤ b ∧ b ≤ min k 1 * 9)) : ¬ brk k b := fun q => h ⟨⟨q.k0, q.k3⟩, q.lo, q.hi⟩
theorem brk_of {k b : Int} (h : (0 ≤ k ∧ k ≤ 3) ∧ min k 1 ≤ b ∧ b ≤ min k 1 * 9) : brk k b := ⟨h.1.1, h.1.2, h.2.1, h.2.2⟩
def walB (g : Grd) (w : Wal) : Bool := decide (g.ok = true ∧ w.k.length = g.cs.length ∧ w.b.length = g.cs.length ∧ ∀ i, i < g.cs.length → brk (w.k.getD i 0) (w.b.getD i 0))
theorem wal_ok {g : Grd} {w : Wal} (h : walB g w = true) : g.ok = true ∧ w.k.length = g.cs.length ∧ w.b.length = g.cs.length ∧ ∀ i, i < g.cs.length → brk (w.k.getD i 0) (w.b.getD i 0) := of_decide_eq_true h
theorem wal_ways (g : Grd) (w : Wal) : (g.ok = false ∧ walB g w = false) ∨ (g.ok = true ∧ w.k.length ≠ g.cs.length ∧ walB g w = false) ∨ (g.ok = true ∧ w.k.length = g.cs.length ∧ w.b.length ≠ g.cs.length ∧ walB g w = false) ∨
    (g.ok = true ∧ w.k.length = g.cs.length ∧ w.b.length = g.cs.length ∧ True) := by
  cases hv : g.ok
  · exact .inl ⟨rfl, decide_eq_false fun q => by rw [hv] at q; cases q.1⟩
  · by_cases h1 : w.k.length = g.cs.length
    · by_cases h2 : w.b.length = g.cs.length
      · exact .inr (.inr (.inr ⟨rfl, h1, h2, trivial⟩))
      · exact .inr (.inr (.inl ⟨rfl, h1, h2, decide_eq_false fun q => h2 q.2.2.1⟩))
    · exact .inr (.inl ⟨rfl, h1, decide_eq_false fun q => h1 q.2.1⟩)
theorem wal_f {g : Grd} {w : Wal} {k : Nat} (hk : k < g.cs.length) (h : ¬ brk (w.k.getD k 0) (w.b.getD k 0)) : walB g w = false := decide_eq_false fun q => h (q.2.2.2 k hk)
theorem wal_t {g : Grd} {w : Wal} (h0 : g.ok = true) (h1 : w.k.length = g.cs.length) (h2 : w.b.length = g.cs.length) (h : ∀ i, i < g.cs.length → brk (w.k.getD i 0) (w.b.getD i 0)) : walB g w = true := decide_eq_true ⟨h0, h1, h2, h⟩
theorem brk_more {w : Wal} {k : Nat} (h : ∀ j, j < k → brk (w.k.getD j 0) (w.b.getD j 0)) (hk : brk (w.k.getD k 0) (w.b.getD k 0)) : ∀ j, j < k + 1 → brk (w.k.getD j 0) (w.b.getD j 0) := fun j hj => by
  by_cases e : j = k
  · subst e; exact hk
  · exact h j (by omega)
/-- What a kind of wall makes of a cell. -/
def wsent (k : Int) (c : Cel) : Cel := if k = 1 then ⟨c.w, c.s, c.e, c.n⟩ else if k = 2 then ⟨c.n, c.e, c.s, c.w⟩ else if k = 3 then ⟨c.s, c.w, c.n, c.e⟩ else c
theorem wsent_ok {k : Int} {c : Cel} (h : c.ok = true) : (wsent k c).ok = true := by
  have h1 := Cel.ok_iff.1 h
  refine Cel.ok_iff.2 ?_
  unfold wsent
  split
  · simp only; omega
  · split
    · simp only; omega
    · split
      · simp only; omega
      · exact h1
def sntE (c : Cel) (k : Int) : Int := if c.ok then (if 0 ≤ k ∧ k ≤ 3 then 0 else 7) else 1
def sntR (c : Cel) (k : Int) : Cel := if sntE c k = 0 then wsent k c else ⟨0, 0, 0, 0⟩
theorem snt_ways (c : Cel) (k : Int) : (c.ok = false ∧ sntE c k = 1 ∧ sntR c k = ⟨0, 0, 0, 0⟩) ∨ (c.ok = true ∧ ¬ (0 ≤ k ∧ k ≤ 3) ∧ sntE c k = 7 ∧ sntR c k = ⟨0, 0, 0, 0⟩) ∨ (c.ok = true ∧ (0 ≤ k ∧ k ≤ 3) ∧ sntE c k = 0 ∧ sntR c k = wsent k c) := by
  cases hv : c.ok
  · exact .inl ⟨rfl, by simp [sntE, hv], by simp [sntR, sntE, hv]⟩
  · by_cases hk : 0 ≤ k ∧ k ≤ 3
    · exact .inr (.inr ⟨rfl, hk, by simp only [sntE, hv, if_true, if_pos hk], by simp only [sntR, sntE, hv, if_true, if_pos hk]⟩)
    · exact .inr (.inl ⟨rfl, hk, by simp only [sntE, hv, if_true, if_neg hk], by simp only [sntR, sntE, hv, if_true, if_neg hk]; rfl⟩)
/-- A cell after the collision, or the wall, of a step. -/
def metC (r : Rul) (k : Int) (c : Cel) : Cel := if k = 0 then c.after r else wsent k c
theorem metC_ok {r : Rul} {k : Int} {c : Cel} (h : c.ok = true) (hr : r.ok = true) : (metC r k c).ok = true := by
  unfold metC
  split
  · exact Cel.after_ok h hr
  · exact wsent_ok h
theorem collide_ok {c : Cel} {r : Rul} (h : c.ok = true) (hr : r.ok = true) : c.collide r = (c.after r, 0) := by simp [Cel.collide, h, hr]
/-! ### What flows -/
def alg (d axis : Int) : Int := if d % 2 = axis then (if d < 2 then 1 else -1) else 0
def dirV (c : Cel) (d : Nat) : Int := match d with
  | 0 => c.e
  | 1 => c.n
  | 2 => c.w
  | _ => c.s
def cntV (axis : Int) (c : Cel) (d : Nat) : Int := dirV c d * alg d axis
theorem alg_mul {a : Int} (h : 0 ≤ a ∧ a ≤ 1000000000) (d axis : Int) : -1000000000 ≤ a * alg d axis ∧ a * alg d axis ≤ 1000000000 := by
  unfold alg
  split
  · split <;> omega
  · omega
def nxX (g : Grd) (k : Int) (d : Nat) : Int := match d with
  | 0 => (k % g.w + 1) % g.w
  | 2 => (k % g.w + g.w - 1) % g.w
  | _ => k % g.w
def nxY (g : Grd) (k : Int) (d : Nat) : Int := match d with
  | 1 => (k / g.w + 1) % g.h
  | 3 => (k / g.w + g.h - 1) % g.h
  | _ => k / g.w
theorem nx_in {g : Grd} (hg : g.ok = true) {k : Int} (h0 : 0 ≤ k) (h1 : k < g.cs.length) (d : Nat) : (0 ≤ nxX g k d ∧ nxX g k d < g.w) ∧ 0 ≤ nxY g k d ∧ nxY g k d < g.h := by
  have hb := gok_bds hg
  have hk := k_at hg h0 h1
  have e1 := fun a : Int => Int.emod_nonneg a (show g.w ≠ 0 by omega)
  have e2 := fun a : Int => Int.emod_lt_of_pos a (show 0 < g.w by omega)
  have e3 := fun a : Int => Int.emod_nonneg a (show g.h ≠ 0 by omega)
  have e4 := fun a : Int => Int.emod_lt_of_pos a (show 0 < g.h by omega)
  refine ⟨?_, ?_⟩
  · unfold nxX; split
    · exact ⟨e1 _, e2 _⟩
    · exact ⟨e1 _, e2 _⟩
    · exact hk.2.2.1
  · unfold nxY; split
    · exact ⟨e3 _, e4 _⟩
    · exact ⟨e3 _, e4 _⟩
    · exact hk.2.2.2
def nxK (g : Grd) (k : Int) (d : Nat) : Int := nxX g k d + g.w * nxY g k d
theorem nxK_at {g : Grd} (hg : g.ok = true) {k : Int} (h0 : 0 ≤ k) (h1 : k < g.cs.length) (d : Nat) : (nxK g k d) % g.w = nxX g k d ∧ (nxK g k d) / g.w = nxY g k d ∧ 0 ≤ nxK g k d ∧ nxK g k d < g.cs.length := by
  have hb := gok_bds hg
  have hn := nx_in hg h0 h1 d
  have h2 : g.w * nxY g k d ≤ g.w * (g.h - 1) := Int.mul_le_mul_of_nonneg_left (by omega) (by omega)
  have h3 : 0 ≤ g.w * nxY g k d := Int.mul_nonneg (by omega) (by omega)
  have h4 : g.w * (g.h - 1) = g.w * g.h - g.w := by rw [Int.mul_sub, Int.mul_one]
  refine ⟨?_, ?_, ?_, ?_⟩
  · unfold nxK; rw [Int.add_mul_emod_self_left]; exact Int.emod_eq_of_lt hn.1.1 hn.1.2
  · unfold nxK; rw [Int.add_mul_ediv_left _ _ (by omega), Int.ediv_eq_zero_of_lt hn.1.1 hn.1.2, Int.zero_add]
  · unfold nxK; omega
  · unfold nxK; omega
theorem inK_nx {g : Grd} (hg : g.ok = true) {k : Int} (h0 : 0 ≤ k) (h1 : k < g.cs.length) (d : Nat) (x : Cel) : inK g x (nxK g k d) = inQ x (nxX g k d) (nxY g k d) := by
  have h := nxK_at hg h0 h1 d
  unfold inK; rw [h.1, h.2.1]
def toB (g : Grd) (x : Cel) (k : Int) (d : Nat) : Bool := inQ x (nxX g k d) (nxY g k d)
def flD (g : Grd) (x : Cel) (axis : Int) (c : Cel) (k : Int) (p : Int × Int) : Nat → Int × Int
  | 0 => p
  | d + 1 => (if !inK g x k && toB g x k d then (flD g x axis c k p d).1 + cntV axis c d else (flD g x axis c k p d).1, if inK g x k && !toB g x k d then (flD g x axis c k p d).2 + cntV axis c d else (flD g x axis c k p d).2)
def flS (g : Grd) (w : Wal) (r : Rul) (x : Cel) (axis : Int) : Nat → Int × Int
  | 0 => (0, 0)
  | k + 1 => flD g x axis (metC r (w.k.getD k 0) (g.cs.getD k default)) k (flS g w r x axis k) 4
theorem flD_tf {g : Grd} {x : Cel} {axis : Int} {c : Cel} {k : Int} {p : Int × Int} {d : Nat} (h1 : inK g x k = true) (h2 : toB g x k d = false) : flD g x axis c k p (d + 1) = ((flD g x axis c k p d).1, (flD g x axis c k p d).2 + cntV axis c d) := by simp [flD, h1, h2]
theorem flD_ft {g : Grd} {x : Cel} {axis : Int} {c : Cel} {k : Int} {p : Int × Int} {d : Nat} (h1 : inK g x k = false) (h2 : toB g x k d = true) : flD g x axis c k p (d + 1) = ((flD g x axis c k p d).1 + cntV axis c d, (flD g x axis c k p d).2) := by simp [flD, h1, h2]
theorem flD_tt {g : Grd} {x : Cel} {axis : Int} {c : Cel} {k : Int} {p : Int × Int} {d : Nat} (h1 : inK g x k = true) (h2 : toB g x k d = true) : flD g x axis c k p (d + 1) = flD g x axis c k p d := by simp [flD, h1, h2]
theorem flD_ff {g : Grd} {x : Cel} {axis : Int} {c : Cel} {k : Int} {p : Int × Int} {d : Nat} (h1 : inK g x k = false) (h2 : toB g x k d = false) : flD g x axis c k p (d + 1) = flD g x axis c k p d := by simp [flD, h1, h2]
theorem cntV_bd {axis : Int} {c : Cel} (h : c.ok = true) (d : Nat) : -1000000000 ≤ cntV axis c d ∧ cntV axis c d ≤ 1000000000 := by
  have := Cel.ok_iff.1 h
  refine alg_mul ?_ _ _
  unfold dirV
  split <;> omega
theorem flD_bd {g : Grd} {x : Cel} {axis : Int} {c : Cel} {k : Int} {p : Int × Int} (h : c.ok = true) {m : Int} (hp : (-m ≤ p.1 ∧ p.1 ≤ m) ∧ -m ≤ p.2 ∧ p.2 ≤ m) : ∀ d : Nat, (-(m + 1000000000 * d) ≤ (flD g x axis c k p d).1 ∧ (flD g x axis c k p d).1 ≤ m + 1000000000 * d) ∧ -(m + 1000000000 * d) ≤ (flD g x axis c k p d).2 ∧ (flD g x axis c k p d).2 ≤ m + 1000000000 * d
  | 0 => by simp only [flD]; omega
  | d + 1 => by
    have ih := flD_bd (x := x) (g := g) (axis := axis) (k := k) h hp d
    have hc := cntV_bd (axis := axis) h d
    simp only [flD]
    refine ⟨?_, ?_⟩ <;> split <;> omega
theorem flS_bd {g : Grd} {w : Wal} {r : Rul} (hg : g.ok = true) (hr : r.ok = true) (x : Cel) (axis : Int) : ∀ k : Nat, k ≤ g.cs.length → (-(4000000000 * (k : Int)) ≤ (flS g w r x axis k).1 ∧ (flS g w r x axis k).1 ≤ 4000000000 * k) ∧ -(4000000000 * (k : Int)) ≤ (flS g w r x axis k).2 ∧ (flS g w r x axis k).2 ≤ 4000000000 * k
  | 0, _ => by simp [flS]
  | k + 1, hk => by
    have ih := flS_bd hg hr (w := w) x axis k (by omega)
    have hc : (g.cs.getD k default).ok = true := okL_iff.1 (gok_okL hg) _ (getD_mem default (by omega))
    have := flD_bd (g := g) (x := x) (axis := axis) (k := (k : Int)) (metC_ok (k := w.k.getD k 0) hc hr) ih 4
    simp only [flS]
    omega
/-! ### What the layer answers -/
def askE (g : Grd) (w : Wal) (l : List Rul) : Int := if walB g w && rulesB l then 0 else 1
theorem ask_ways (g : Grd) (w : Wal) (l : List Rul) : (g.ok = false ∧ walB g w = false ∧ True ∧ askE g w l = 1) ∨ (g.ok = true ∧ walB g w = false ∧ True ∧ askE g w l = 1) ∨ (g.ok = true ∧ walB g w = true ∧ rulesB l = false ∧ askE g w l = 1) ∨ (g.ok = true ∧ walB g w = true ∧ rulesB l = true ∧ askE g w l = 0) := by
  cases hw : walB g w
  · cases hv : g.ok
    · exact .inl ⟨rfl, rfl, trivial, by simp [askE, hw]⟩
    · exact .inr (.inl ⟨rfl, rfl, trivial, by simp [askE, hw]⟩)
  · have hv := (wal_ok hw).1
    cases hr : rulesB l
    · exact .inr (.inr (.inl ⟨hv, rfl, rfl, by simp [askE, hw, hr]⟩))
    · exact .inr (.inr (.inr ⟨hv, rfl, rfl, by simp [askE, hw, hr]⟩))
theorem ask_ok {g : Grd} {w : Wal} {l : List Rul} (h : askE g w l = 0) : g.ok = true := by
  rcases ask_ways g w l with ⟨_, _, _, hA⟩ | ⟨_, _, _, hA⟩ | ⟨_, _, _, hA⟩ | ⟨hv, _, _, _⟩
  · omega
  · omega
  · omega
  · exact hv
end Go.Sy

/- Runs of a grid between walls. -/
set_option linter.unusedSimpArgs false
set_option linter.unusedVariables false
namespace Go.Sy
theorem wsent_m (k : Int) (c : Cel) : (wsent k c).m = c.m := by
  unfold wsent Cel.m
  split
  · simp only; omega
  · split
    · simp only; omega
    · split
      · simp only; omega
      · rfl
theorem metC_m (r : Rul) (k : Int) (c : Cel) : (metC r k c).m = c.m := by
  unfold metC
  split
  · exact (Cel.after_m r).1
  · exact wsent_m k c
def metF (r : Rul) (w : Wal) (cs : List Cel) (j : Nat) : Cel := metC r (w.k.getD j 0) (cs.getD j default)
def metL (r : Rul) (w : Wal) (cs : List Cel) : List Cel := prog (metF r w cs) cs.length cs
theorem metL_length (r : Rul) (w : Wal) (cs : List Cel) : (metL r w cs).length = cs.length := prog_length _ _ _
theorem massL_setW (cs : List Cel) (v : Cel) : ∀ (k : Nat), k < cs.length → massL (cs.set k v) = massL cs - (cs.getD k default).m + v.m := by
  induction cs with
  | nil => intro k hk; simp at hk
  | cons c cs ih =>
    intro k hk
    cases k with
    | zero => simp [massL]; omega
    | succ k =>
      have := ih k (by simpa using hk)
      simp only [List.set_cons_succ, massL, List.getD_cons_succ]; omega
theorem massL_met (r : Rul) (w : Wal) (cs : List Cel) : ∀ k : Nat, k ≤ cs.length → massL (prog (metF r w cs) k cs) = massL cs
  | 0, _ => by rw [prog_zero]
  | k + 1, hk => by
    have ih := massL_met r w cs k (by omega)
    rw [← prog_set (metF r w cs) k cs rfl, massL_setW _ _ k (by rw [prog_length]; omega), ih, prog_getD _ _ _ (by omega), if_neg (Nat.lt_irrefl k)]
    unfold metF
    rw [metC_m]; omega
theorem gok_met {g : Grd} {r : Rul} (hr : r.ok = true) (w : Wal) (h : g.ok = true) : (⟨g.w, g.h, metL r w g.cs⟩ : Grd).ok = true := by
  obtain ⟨h1, h2, h3, h4⟩ := Grd.ok_iff.1 h
  refine gok_mk h1 (by rw [metL_length]; exact h2) (okL_nn (okL_iff.2 fun c hc => ?_)) (by unfold metL; rw [massL_met _ _ _ _ (Nat.le_refl _)]; exact h4)
  unfold metL at hc
  rw [prog_full _ _ (Nat.le_refl _)] at hc
  obtain ⟨j, hj, rfl⟩ := List.mem_map.1 hc
  exact metC_ok (okL_at (gok_okL h) (List.mem_range.1 hj)) hr
def walkC (w h : Int) (u : Wal) (ρ : Nat → Rul) (cs : List Cel) : Nat → List Cel
  | 0 => cs
  | k + 1 => flow w h 1 (metL (ρ k) u (walkC w h u ρ cs k))
theorem walkC_length (w h : Int) (u : Wal) (ρ : Nat → Rul) (cs : List Cel) : ∀ k, (walkC w h u ρ cs k).length = cs.length
  | 0 => rfl
  | k + 1 => by rw [walkC, flow_length, metL_length, walkC_length w h u ρ cs k]
theorem walkC_ok {g : Grd} {u : Wal} {ρ : Nat → Rul} (h : g.ok = true) (hr : ∀ k, (ρ k).ok = true) : ∀ k, (⟨g.w, g.h, walkC g.w g.h u ρ g.cs k⟩ : Grd).ok = true
  | 0 => h
  | k + 1 => gok_flow (g := ⟨g.w, g.h, metL (ρ k) u (walkC g.w g.h u ρ g.cs k)⟩) 1 (gok_met (hr k) u (walkC_ok h hr k))
theorem metF_e {r : Rul} {w : Wal} {cs : List Cel} {j : Nat} (ho : (cs.getD j default).ok = true) (hr : r.ok = true) (h : w.k.getD j 0 = 0) : (Cel.collide (cs.getD j default) r).1 = metF r w cs j := by
  rw [collide_ok ho hr]; unfold metF metC; rw [if_pos h]
theorem metF_n {r : Rul} {w : Wal} {cs : List Cel} {j : Nat} (h : w.k.getD j 0 ≠ 0) : wsent (w.k.getD j 0) (cs.getD j default) = metF r w cs j := by
  unfold metF metC; rw [if_neg h]
def wrunE (g : Grd) (u : Wal) (l : List Rul) (t n : Int) : Int := if walB g u && rulesB l then (if timesP t n then 0 else 7) else 1
def wrunG (g : Grd) (u : Wal) (l : List Rul) (t n : Int) : Grd := if wrunE g u l t n = 0 then ⟨g.w, g.h, walkC g.w g.h u (rho l t) g.cs n.toNat⟩ else ⟨0, 0, []⟩
theorem wrun_ways (g : Grd) (u : Wal) (l : List Rul) (t n : Int) : (walB g u = false ∧ True ∧ True ∧ wrunE g u l t n = 1 ∧ wrunG g u l t n = ⟨0, 0, []⟩) ∨ (walB g u = true ∧ rulesB l = false ∧ True ∧ wrunE g u l t n = 1 ∧ wrunG g u l t n = ⟨0, 0, []⟩) ∨
    (walB g u = true ∧ rulesB l = true ∧ ¬ ((0 ≤ t ∧ t ≤ 1000000) ∧ (0 ≤ n ∧ n ≤ 1000) ∧ (0 < n → t + n - 1 ≤ 1000000)) ∧ wrunE g u l t n = 7 ∧ wrunG g u l t n = ⟨0, 0, []⟩) ∨
    (walB g u = true ∧ rulesB l = true ∧ ((0 ≤ t ∧ t ≤ 1000000) ∧ (0 ≤ n ∧ n ≤ 1000) ∧ (0 < n → t + n - 1 ≤ 1000000)) ∧ wrunE g u l t n = 0 ∧ wrunG g u l t n = ⟨g.w, g.h, walkC g.w g.h u (rho l t) g.cs n.toNat⟩ ∧
      (1 ≤ l.length ∧ l.length ≤ 8) ∧ (1 ≤ g.cs.length ∧ g.cs.length ≤ 1024) ∧ (∀ k, (rho l t k).ok = true ∧ 0 ≤ (t + (k : Int)).tmod (l.length : Int) ∧ (t + (k : Int)).tmod (l.length : Int) < l.length) ∧
      (∀ k, (⟨g.w, g.h, walkC g.w g.h u (rho l t) g.cs k⟩ : Grd).ok = true ∧ okL (walkC g.w g.h u (rho l t) g.cs k) = true ∧ (walkC g.w g.h u (rho l t) g.cs k).length = g.cs.length) ∧
      u.k.length = g.cs.length ∧ u.b.length = g.cs.length ∧ ∀ i, i < g.cs.length → brk (u.k.getD i 0) (u.b.getD i 0)) := by
  have no : wrunE g u l t n ≠ 0 → wrunG g u l t n = ⟨0, 0, []⟩ := fun h => if_neg h
  cases h : walB g u
  · have e : wrunE g u l t n = 1 := by simp [wrunE, h]
    exact .inl ⟨rfl, trivial, trivial, e, no (by omega)⟩
  · cases hr : rulesB l
    · have e : wrunE g u l t n = 1 := by simp [wrunE, hr]
      exact .inr (.inl ⟨rfl, rfl, trivial, e, no (by omega)⟩)
    · by_cases ht : timesP t n
      · have e : wrunE g u l t n = 0 := by simp [wrunE, h, hr, ht]
        obtain ⟨hok, w1, w2, w3⟩ := wal_ok h
        have hb := gok_bds hok
        have h1 := rulesB_iff.1 hr
        have ho := fun k => rho_ok hr ht.1.1 k
        refine .inr (.inr (.inr ⟨rfl, rfl, ht, e, if_pos e, h1.1, by omega, ho, fun k => ?_, w1, w2, w3⟩))
        have := walkC_ok (u := u) hok (fun k => (ho k).1) k
        exact ⟨this, gok_okL this, walkC_length ..⟩
      · have e : wrunE g u l t n = 7 := by simp only [wrunE, h, hr, Bool.and_true, if_true, if_neg ht]
        exact .inr (.inr (.inl ⟨rfl, rfl, ht, e, no (by omega)⟩))
end Go.Sy

/- The gauge of a box over some steps. -/
set_option linter.unusedSimpArgs false
set_option linter.unusedVariables false
namespace Go.Sy
theorem walB_at {g g' : Grd} {u : Wal} (h : walB g u = true) (hg : g'.ok = true) (hl : g'.cs.length = g.cs.length) : walB g' u = true := by
  obtain ⟨_, w1, w2, w3⟩ := wal_ok h
  exact decide_eq_true ⟨hg, by rw [w1, hl], by rw [w2, hl], fun i hi => w3 i (by omega)⟩
/-- The grid after some steps between walls. -/
def wgr (g : Grd) (u : Wal) (l : List Rul) (t : Int) (k : Nat) : Grd := ⟨g.w, g.h, walkC g.w g.h u (rho l t) g.cs k⟩
theorem rho_more (l : List Rul) (t : Int) (k : Nat) : rho l (t + (k : Int)) 0 = rho l t k := by unfold rho; simp
theorem wgr_ok {g : Grd} {u : Wal} {l : List Rul} {t : Int} (h : walB g u = true) (hr : rulesB l = true) (ht : 0 ≤ t) (k : Nat) : (wgr g u l t k).ok = true ∧ walB (wgr g u l t k) u = true ∧ (wgr g u l t k).cs.length = g.cs.length := by
  have hok := (wal_ok h).1
  have h1 := walkC_ok (u := u) hok (ρ := rho l t) (fun k => (rho_ok hr ht k).1) k
  exact ⟨h1, walB_at h h1 (walkC_length ..), walkC_length ..⟩
/-- A step more. -/
theorem wgr_step {g : Grd} {u : Wal} {l : List Rul} {t : Int} (h : walB g u = true) (hr : rulesB l = true) (ht : 0 ≤ t) {k : Nat} (hk : t + (k : Int) ≤ 1000000) : wrunE (wgr g u l t k) u l (t + k) 1 = 0 ∧ wrunG (wgr g u l t k) u l (t + k) 1 = wgr g u l t (k + 1) := by
  have hw := wgr_ok h hr ht k
  have e : wrunE (wgr g u l t k) u l (t + k) 1 = 0 := by
    unfold wrunE
    rw [hw.2.1, hr, Bool.and_true, if_pos rfl, if_pos (by unfold timesP; omega)]
  refine ⟨e, ?_⟩
  unfold wrunG
  rw [if_pos e]
  show (⟨g.w, g.h, flow g.w g.h 1 (metL (rho l (t + k) 0) u (wgr g u l t k).cs)⟩ : Grd) = _
  rw [rho_more]; rfl
/-- What comes in and goes out in so many steps. -/
def tolS (g : Grd) (u : Wal) (l : List Rul) (t : Int) (x : Cel) (axis : Int) : Nat → Int × Int
  | 0 => (0, 0)
  | k + 1 => ((tolS g u l t x axis k).1 + (flS (wgr g u l t k) u (rho l t k) x axis g.cs.length).1, (tolS g u l t x axis k).2 + (flS (wgr g u l t k) u (rho l t k) x axis g.cs.length).2)
theorem fl_bd {g : Grd} {u : Wal} {l : List Rul} {t : Int} (h : walB g u = true) (hr : rulesB l = true) (ht : 0 ≤ t) (x : Cel) (axis : Int) (k : Nat) : (-5000000000000 ≤ (flS (wgr g u l t k) u (rho l t k) x axis g.cs.length).1 ∧ (flS (wgr g u l t k) u (rho l t k) x axis g.cs.length).1 ≤ 5000000000000) ∧ -5000000000000 ≤ (flS (wgr g u l t k) u (rho l t k) x axis g.cs.length).2 ∧ (flS (wgr g u l t k) u (rho l t k) x axis g.cs.length).2 ≤ 5000000000000 := by
  have hw := wgr_ok h hr ht k
  have hb := gok_bds (wal_ok h).1
  have := flS_bd hw.1 (rho_ok hr ht k).1 (w := u) x axis g.cs.length (by omega)
  omega
theorem tolS_bd {g : Grd} {u : Wal} {l : List Rul} {t : Int} (h : walB g u = true) (hr : rulesB l = true) (ht : 0 ≤ t) (x : Cel) (axis : Int) : ∀ k : Nat, (-(5000000000000 * (k : Int)) ≤ (tolS g u l t x axis k).1 ∧ (tolS g u l t x axis k).1 ≤ 5000000000000 * k) ∧ -(5000000000000 * (k : Int)) ≤ (tolS g u l t x axis k).2 ∧ (tolS g u l t x axis k).2 ≤ 5000000000000 * k
  | 0 => by simp [tolS]
  | k + 1 => by
    have ih := tolS_bd h hr ht x axis k
    have hf := fl_bd h hr ht x axis k
    simp only [tolS]; omega
/-- The gauge of sharp numbers. -/
def tgau (g : Grd) (u : Wal) (l : List Rul) (t s : Int) (a d : Pnt) (axis : Int) : Gau :=
  ⟨t, s, momS g (boxC a d) axis g.cs.length, momS g (boxC a d) axis g.cs.length, (tolS g u l t (boxC a d) axis (s - t).toNat).1, (tolS g u l t (boxC a d) axis (s - t).toNat).1, (tolS g u l t (boxC a d) axis (s - t).toNat).2, (tolS g u l t (boxC a d) axis (s - t).toNat).2,
   momS (wgr g u l t (s - t).toNat) (boxC a d) axis g.cs.length, momS (wgr g u l t (s - t).toNat) (boxC a d) axis g.cs.length⟩
def tolP (g : Grd) (t s : Int) (a d : Pnt) (axis : Int) : Prop := (onG g a d ∧ 0 ≤ axis ∧ axis ≤ 1) ∧ 0 ≤ t ∧ t < s ∧ s ≤ 1000000 ∧ s - t ≤ 1000
instance (g : Grd) (t s : Int) (a d : Pnt) (axis : Int) : Decidable (tolP g t s a d axis) := by unfold tolP; infer_instance
def tolE (g : Grd) (u : Wal) (l : List Rul) (t s : Int) (a d : Pnt) (axis : Int) : Int := if askE g u l = 0 then (if tolP g t s a d axis then (if (tgau g u l t s a d axis).ok then 0 else 4) else 7) else 1
def tolR (g : Grd) (u : Wal) (l : List Rul) (t s : Int) (a d : Pnt) (axis : Int) : Gau := if tolE g u l t s a d axis = 0 then tgau g u l t s a d axis else ⟨0, 0, 0, 0, 0, 0, 0, 0, 0, 0⟩
theorem tol_ways (g : Grd) (u : Wal) (l : List Rul) (t s : Int) (a d : Pnt) (axis : Int) : (askE g u l = 1 ∧ True ∧ True ∧ tolE g u l t s a d axis = 1 ∧ tolR g u l t s a d axis = ⟨0, 0, 0, 0, 0, 0, 0, 0, 0, 0⟩ ∧ True) ∨
    (askE g u l = 0 ∧ decide (onG g a d) = false ∧ decide (onG g a d ∧ 0 ≤ axis ∧ axis ≤ 1) = false ∧ tolE g u l t s a d axis = 7 ∧ tolR g u l t s a d axis = ⟨0, 0, 0, 0, 0, 0, 0, 0, 0, 0⟩ ∧ True) ∨
    (askE g u l = 0 ∧ decide (onG g a d) = true ∧ decide (onG g a d ∧ 0 ≤ axis ∧ axis ≤ 1) = false ∧ tolE g u l t s a d axis = 7 ∧ tolR g u l t s a d axis = ⟨0, 0, 0, 0, 0, 0, 0, 0, 0, 0⟩ ∧ ¬ (0 ≤ axis ∧ axis ≤ 1)) ∨
    (askE g u l = 0 ∧ decide (onG g a d) = true ∧ decide (onG g a d ∧ 0 ≤ axis ∧ axis ≤ 1) = true ∧ tolE g u l t s a d axis = 7 ∧ tolR g u l t s a d axis = ⟨0, 0, 0, 0, 0, 0, 0, 0, 0, 0⟩ ∧ ¬ (0 ≤ t ∧ t < s ∧ s ≤ 1000000 ∧ s - t ≤ 1000)) ∨
    (askE g u l = 0 ∧ decide (onG g a d) = true ∧ decide (onG g a d ∧ 0 ≤ axis ∧ axis ≤ 1) = true ∧ tolE g u l t s a d axis = 4 ∧ tolR g u l t s a d axis = ⟨0, 0, 0, 0, 0, 0, 0, 0, 0, 0⟩ ∧ (0 ≤ t ∧ t < s ∧ s ≤ 1000000 ∧ s - t ≤ 1000) ∧ walB g u = true ∧ rulesB l = true ∧ (0 ≤ axis ∧ axis ≤ 1) ∧ (tgau g u l t s a d axis).ok = false) ∨
    (askE g u l = 0 ∧ decide (onG g a d) = true ∧ decide (onG g a d ∧ 0 ≤ axis ∧ axis ≤ 1) = true ∧ tolE g u l t s a d axis = 0 ∧ tolR g u l t s a d axis = tgau g u l t s a d axis ∧ (0 ≤ t ∧ t < s ∧ s ≤ 1000000 ∧ s - t ≤ 1000) ∧ walB g u = true ∧ rulesB l = true ∧ (0 ≤ axis ∧ axis ≤ 1) ∧ (tgau g u l t s a d axis).ok = true) := by
  rcases ask_ways g u l with ⟨_, _, _, hA⟩ | ⟨_, _, _, hA⟩ | ⟨_, _, _, hA⟩ | ⟨_, hW, hR, hA⟩
  · exact .inl ⟨hA, trivial, trivial, by simp [tolE, hA], by simp [tolR, tolE, hA], trivial⟩
  · exact .inl ⟨hA, trivial, trivial, by simp [tolE, hA], by simp [tolR, tolE, hA], trivial⟩
  · exact .inl ⟨hA, trivial, trivial, by simp [tolE, hA], by simp [tolR, tolE, hA], trivial⟩
  · refine .inr ?_
    by_cases ho : onG g a d
    · by_cases hx : 0 ≤ axis ∧ axis ≤ 1
      · by_cases ht : 0 ≤ t ∧ t < s ∧ s ≤ 1000000 ∧ s - t ≤ 1000
        · have h8 : tolP g t s a d axis := ⟨⟨ho, hx⟩, ht⟩
          cases hq : (tgau g u l t s a d axis).ok
          · have e : tolE g u l t s a d axis = 4 := by simp only [tolE, hA, if_true, if_pos h8, hq, Bool.false_eq_true, if_false]
            exact .inr (.inr (.inr (.inl ⟨hA, decide_eq_true ho, decide_eq_true ⟨ho, hx⟩, e, by unfold tolR; rw [e]; rfl, ht, hW, hR, hx, rfl⟩)))
          · have e : tolE g u l t s a d axis = 0 := by simp only [tolE, hA, if_true, if_pos h8, hq]
            exact .inr (.inr (.inr (.inr ⟨hA, decide_eq_true ho, decide_eq_true ⟨ho, hx⟩, e, if_pos e, ht, hW, hR, hx, rfl⟩)))
        · have h9 : ¬ tolP g t s a d axis := fun q => ht q.2
          have e : tolE g u l t s a d axis = 7 := by simp only [tolE, hA, if_true, if_neg h9]
          exact .inr (.inr (.inl ⟨hA, decide_eq_true ho, decide_eq_true ⟨ho, hx⟩, e, by unfold tolR; rw [e]; rfl, ht⟩))
      · have h9 : ¬ tolP g t s a d axis := fun q => hx q.1.2
        have e : tolE g u l t s a d axis = 7 := by simp only [tolE, hA, if_true, if_neg h9]
        exact .inr (.inl ⟨hA, decide_eq_true ho, decide_eq_false fun q => hx q.2, e, by unfold tolR; rw [e]; rfl, hx⟩)
    · have h9 : ¬ tolP g t s a d axis := fun q => ho q.1.1
      have e : tolE g u l t s a d axis = 7 := by simp only [tolE, hA, if_true, if_neg h9]
      exact .inl ⟨hA, decide_eq_false ho, decide_eq_false fun q => ho q.1, e, by unfold tolR; rw [e]; rfl, trivial⟩
theorem tol_ways2 (g : Grd) (u : Wal) (l : List Rul) (t s : Int) (a d : Pnt) (axis : Int) : (askE g u l = 1 ∧ True ∧ True ∧ tolE g u l t s a d axis = 1 ∧ tolR g u l t s a d axis = ⟨0, 0, 0, 0, 0, 0, 0, 0, 0, 0⟩ ∧ True) ∨
    (askE g u l = 0 ∧ decide (onG g a d) = false ∧ decide (onG g a d ∧ 0 ≤ axis ∧ axis ≤ 1) = false ∧ tolE g u l t s a d axis = 7 ∧ tolR g u l t s a d axis = ⟨0, 0, 0, 0, 0, 0, 0, 0, 0, 0⟩ ∧ True) ∨
    (askE g u l = 0 ∧ decide (onG g a d) = true ∧ decide (onG g a d ∧ 0 ≤ axis ∧ axis ≤ 1) = false ∧ tolE g u l t s a d axis = 7 ∧ tolR g u l t s a d axis = ⟨0, 0, 0, 0, 0, 0, 0, 0, 0, 0⟩ ∧ ¬ (0 ≤ axis ∧ axis ≤ 1)) ∨
    (askE g u l = 0 ∧ decide (onG g a d) = true ∧ decide (onG g a d ∧ 0 ≤ axis ∧ axis ≤ 1) = true ∧ tolE g u l t s a d axis = 7 ∧ tolR g u l t s a d axis = ⟨0, 0, 0, 0, 0, 0, 0, 0, 0, 0⟩ ∧ ¬ (0 ≤ t ∧ t < s ∧ s ≤ 1000000 ∧ s - t ≤ 1000)) ∨
    (askE g u l = 0 ∧ decide (onG g a d) = true ∧ decide (onG g a d ∧ 0 ≤ axis ∧ axis ≤ 1) = true ∧ True ∧ True ∧ (0 ≤ t ∧ t < s ∧ s ≤ 1000000 ∧ s - t ≤ 1000) ∧ walB g u = true ∧ rulesB l = true ∧ (0 ≤ axis ∧ axis ≤ 1) ∧
      (((tgau g u l t s a d axis).ok = false ∧ tolE g u l t s a d axis = 4 ∧ tolR g u l t s a d axis = ⟨0, 0, 0, 0, 0, 0, 0, 0, 0, 0⟩) ∨ ((tgau g u l t s a d axis).ok = true ∧ tolE g u l t s a d axis = 0 ∧ tolR g u l t s a d axis = tgau g u l t s a d axis))) := by
  rcases tol_ways g u l t s a d axis with h | h | h | h | ⟨h1, h2, h3, h4, h5, h6, h7, h8, h9, h⟩ | ⟨h1, h2, h3, h4, h5, h6, h7, h8, h9, h⟩
  · exact .inl h
  · exact .inr (.inl h)
  · exact .inr (.inr (.inl h))
  · exact .inr (.inr (.inr (.inl h)))
  · exact .inr (.inr (.inr (.inr ⟨h1, h2, h3, trivial, trivial, h6, h7, h8, h9, .inl ⟨h, h4, h5⟩⟩)))
  · exact .inr (.inr (.inr (.inr ⟨h1, h2, h3, trivial, trivial, h6, h7, h8, h9, .inr ⟨h, h4, h5⟩⟩)))
theorem at_rho {l : List Rul} {t : Int} {k : Nat} (hR : rulesB l = true) (ht : 0 ≤ t) (hk : t + (k : Int) ≤ 1000000) : atR l (t + k) = rho l t k ∧ atE l (t + k) = 0 ∧ (atR l (t + k)).ok = true := by
  have h2 : 0 ≤ t + (k : Int) ∧ t + (k : Int) ≤ 1000000 := by omega
  have e : atR l (t + k) = rho l t k := by unfold atR; rw [if_pos ⟨hR, h2⟩]; rfl
  exact ⟨e, by simp only [atE, hR, if_true, if_pos h2], by rw [e]; exact (rho_ok hR ht k).1⟩
theorem wgr_mom {g : Grd} {u : Wal} {l : List Rul} {t : Int} (h : walB g u = true) (hr : rulesB l = true) (ht : 0 ≤ t) (x : Cel) (axis : Int) (k : Nat) : -(2000000000 * (g.cs.length : Int)) ≤ momS (wgr g u l t k) x axis g.cs.length ∧ momS (wgr g u l t k) x axis g.cs.length ≤ 2000000000 * (g.cs.length : Int) := momS_bd (wgr_ok h hr ht k).1 x axis _
theorem metQ_e {r : Rul} {u : Wal} {cs : List Cel} {k : Nat} (ho : (cs.getD k default).ok = true) (hr : r.ok = true) (h : u.k.getD k 0 = 0) : prog (metF r u cs) (k + 1) cs = (prog (metF r u cs) k cs).set k (Cel.collide (cs.getD k default) r).1 := by
  rw [metF_e ho hr h]; exact (prog_set _ _ _ rfl).symm
theorem metQ_n {r : Rul} {u : Wal} {cs : List Cel} {k : Nat} (h : u.k.getD k 0 ≠ 0) : prog (metF r u cs) (k + 1) cs = (prog (metF r u cs) k cs).set k (wsent (u.k.getD k 0) (cs.getD k default)) := by
  rw [metF_n h]; exact (prog_set _ _ _ rfl).symm
theorem metL_prog (r : Rul) (u : Wal) {cs : List Cel} {k : Nat} (hk : cs.length ≤ k) : prog (metF r u cs) k cs = metL r u cs := by
  unfold metL; rw [prog_full _ _ hk, prog_full _ _ (Nat.le_refl _)]
theorem strm_met {w h : Int} {r : Rul} {u : Wal} {cs : List Cel} {j : Nat} (hok : (⟨w, h, cs⟩ : Grd).ok = true) (hr : r.ok = true) (hj : cs.length ≤ j) : streamG 1 ⟨w, h, prog (metF r u cs) j cs⟩ = ⟨w, h, flow w h 1 (metL r u cs)⟩ := by
  rw [metL_prog _ _ hj]; exact if_pos (gok_met hr u hok)
end Go.Sy

/- Gauges that tell what a potential tells: bounds of chains, exact ones. -/
set_option linter.unusedSimpArgs false
set_option linter.unusedVariables false
namespace Go.Sy
/-- The potential's difference is in what all gauges tell. -/
structure truS (l : List Gau) (S : Int → Int) : Prop where
  lo : ∀ u ∈ l, u.lo ≤ S u.t - S u.f
  hi : ∀ u ∈ l, S u.t - S u.f ≤ u.hi
/-- .. and is all that they tell. -/
structure exaS (l : List Gau) (S : Int → Int) : Prop where
  lo : ∀ u ∈ l, u.lo = S u.t - S u.f
  hi : ∀ u ∈ l, u.hi = S u.t - S u.f
theorem exaS.tru {l : List Gau} {S : Int → Int} (h : exaS l S) : truS l S := ⟨fun u hu => by rw [h.lo u hu]; omega, fun u hu => by rw [h.hi u hu]; omega⟩
theorem bstF_S {l : List Gau} {S : Int → Int} (ht : truS l S) {c : Int} : ∀ (n : Nat) (s : Int), ((bstF l c false n s).2 = true → (bstF l c false n s).1 ≤ S c - S s) ∧ ((bstF l c true n s).2 = true → S c - S s ≤ (bstF l c true n s).1)
  | 0, s => by
    refine ⟨fun q => ?_, fun q => ?_⟩ <;> (have e : s = c := of_decide_eq_true q; subst e; simp only [bstF]; omega)
  | n + 1, s => by
    unfold bstF
    by_cases e : s = c
    · subst e
      simp only [if_true]
      refine ⟨fun _ => ?_, fun _ => ?_⟩ <;> omega
    · simp only [if_neg e]
      refine ⟨fun q => ?_, fun q => ?_⟩
      · refine (fold_inv (I := fun m : Int × Bool => m.2 = true → m.1 ≤ S c - S s) l (0, false) (fun m u hu hm q => ?_) (fun q => by cases q)) q
        unfold bstU at q ⊢
        split at q
        · rename_i hq
          rw [if_pos hq]
          simp only [Bool.and_eq_true] at hq
          obtain ⟨h1, _⟩ := goB_t hq.1.1
          have h4 := (bstF_S (c := c) ht n u.t).1 hq.1.2
          have h5 := ht.lo u hu
          rw [h1] at h5
          show u.lo + (bstF l c false n u.t).1 ≤ _
          omega
        · rename_i hq
          rw [if_neg hq]; exact hm q
      · refine (fold_inv (I := fun m : Int × Bool => m.2 = true → S c - S s ≤ m.1) l (0, false) (fun m u hu hm q => ?_) (fun q => by cases q)) q
        unfold bstU at q ⊢
        split at q
        · rename_i hq
          rw [if_pos hq]
          simp only [Bool.and_eq_true] at hq
          obtain ⟨h1, _⟩ := goB_t hq.1.1
          have h4 := (bstF_S (c := c) ht n u.t).2 hq.1.2
          have h5 := ht.hi u hu
          rw [h1] at h5
          show _ ≤ u.hi + (bstF l c true n u.t).1
          omega
        · rename_i hq
          rw [if_neg hq]; exact hm q
theorem bstF_X {l : List Gau} {S : Int → Int} (ht : exaS l S) {c : Int} (h : Bool) : ∀ (n : Nat) (s : Int), (bstF l c h n s).2 = true → (bstF l c h n s).1 = S c - S s
  | 0, s, q => by have e : s = c := of_decide_eq_true q; subst e; simp only [bstF]; omega
  | n + 1, s, q => by
    unfold bstF at q ⊢
    by_cases e : s = c
    · subst e
      simp only [if_true]; omega
    · simp only [if_neg e] at q ⊢
      refine (fold_inv (I := fun m : Int × Bool => m.2 = true → m.1 = S c - S s) l (0, false) (fun m u hu hm q => ?_) (fun q => by cases q)) q
      unfold bstU at q ⊢
      split at q
      · rename_i hq
        rw [if_pos hq]
        simp only [Bool.and_eq_true] at hq
        obtain ⟨h1, _⟩ := goB_t hq.1.1
        have h4 := bstF_X (c := c) ht h n u.t hq.1.2
        have h5 := ht.lo u hu
        have h6 := ht.hi u hu
        rw [h1] at h5 h6
        show u.side h + (bstF l c h n u.t).1 = _
        unfold Gau.side
        cases h <;> simp only [if_true, if_false, Bool.false_eq_true] <;> omega
      · rename_i hq
        rw [if_neg hq]; exact hm q
/-- A gauge is no better than the best. -/
theorem fold_ge {h : Bool} {c s : Int} {g : Int → Int × Bool} {u : Gau} (hg : goB c s u = true) (hr : (g u.t).2 = true) : ∀ (k : List Gau) (m : Int × Bool), u ∈ k → nbR h (u.side h + (g u.t).1, true) (k.foldl (bstU h c s g) m)
  | [], _, hu => by cases hu
  | v :: k, m, hu => by
    simp only [List.foldl_cons]
    by_cases e : u = v
    · subst e
      refine fold_inv (I := nbR h (u.side h + (g u.t).1, true)) k _ (fun m v _ hm => nbR_more hm) fun _ => ?_
      unfold bstU
      rw [hg, hr]
      cases h2 : m.2
      · simp only [Bool.not_false, Bool.true_or, Bool.true_and, if_true]
        exact ⟨trivial, btr_f.2 (by cases h <;> simp)⟩
      · cases h3 : btr h (u.side h + (g u.t).1) m.1
        · simp only [Bool.not_true, Bool.or_self, Bool.and_false, Bool.false_eq_true, if_false]
          exact ⟨h2, h3⟩
        · simp only [Bool.or_true, Bool.true_and, if_true]
          exact ⟨trivial, btr_f.2 (by cases h <;> simp)⟩
    · exact fold_ge hg hr k _ ((List.mem_cons.1 hu).resolve_left e)
theorem bst_ge {l : List Gau} (hl : fwd l) {c s : Int} {h : Bool} (hs : s ≠ c) {u : Gau} (hu : u ∈ l) (hf : u.f = s) (ht : u.t ≤ c) (hr : (bst l c h u.t).2 = true) : (bst l c h s).2 = true ∧ btr h (u.side h + (bst l c h u.t).1) (bst l c h s).1 = false := by
  rw [bst_all hl h hs]
  unfold bstT
  rw [List.take_length]
  exact fold_ge (decide_eq_true ⟨hf, ht⟩) hr l _ hu rfl
/-- Stations, one behind the other, each with a gauge to the next one. -/
theorem bst_row {l : List Gau} (hl : fwd l) {c : Int} (h : Bool) (T : Nat → Int) {n : Nat} (hn : T n = c) (hT : ∀ i, i < n → ∃ u ∈ l, u.f = T i ∧ u.t = T (i + 1)) : ∀ (k i : Nat), i + k = n → T i ≤ c ∧ (bst l c h (T i)).2 = true
  | 0, i, e => by
    have : i = n := by omega
    subst this
    rw [hn, bst_end]; exact ⟨Int.le_refl c, rfl⟩
  | k + 1, i, e => by
    obtain ⟨h1, h2⟩ := bst_row hl h T hn hT k (i + 1) (by omega)
    obtain ⟨u, hu, hf, ht⟩ := hT i (by omega)
    have hok := hl u hu
    unfold Gau.Ok at hok
    refine ⟨by omega, ?_⟩
    exact (bst_ge (u := u) (h := h) hl (by omega) hu hf (by omega) (by rw [ht]; exact h2)).1
/-- What Bounds answers for a row of stations: in general, exactly, with a sharp gauge for all. -/
theorem row_bnd {l : List Gau} {S : Int → Int} (hg : gausB l = true) (ht : truS l S) {c : Int} (T : Nat → Int) {n : Nat} (h0 : 0 ≤ T 0) (h1 : T 0 < c) (hc : c ≤ 1000000) (hn : T n = c) (hT : ∀ i, i < n → ∃ u ∈ l, u.f = T i ∧ u.t = T (i + 1)) :
    bndE l (T 0) c = 0 ∧ bndL l (T 0) c = (bst l c false (T 0)).1 ∧ bndH l (T 0) c = (bst l c true (T 0)).1 ∧ (bst l c false (T 0)).1 ≤ S c - S (T 0) ∧ S c - S (T 0) ≤ (bst l c true (T 0)).1 := by
  have hl := fwd_of hg
  have hf := (bst_row hl false T hn hT n 0 (by omega)).2
  have hh := (bst_row hl true T hn hT n 0 (by omega)).2
  have hs : strE l (T 0) c = 0 := by unfold strE; rw [hg]; simp only [if_true]; exact if_pos ⟨h0, h1, hc⟩
  have e1 : exE l (T 0) c false = 0 := by unfold exE; rw [hs, hf]; rfl
  have e2 : exE l (T 0) c true = 0 := by rw [exE_is]; exact e1
  have n1 : exN l (T 0) c false = (bst l c false (T 0)).1 := by unfold exN; rw [e1]; rfl
  have n2 : exN l (T 0) c true = (bst l c true (T 0)).1 := by unfold exN; rw [e2]; rfl
  have q1 := (bstF_S ht (c := c) _ (T 0)).1 hf
  have q2 := (bstF_S ht (c := c) _ (T 0)).2 hh
  have q1' : (bst l c false (T 0)).1 ≤ S c - S (T 0) := q1
  have q2' : S c - S (T 0) ≤ (bst l c true (T 0)).1 := q2
  rcases bnd_ways l (T 0) c with ⟨h, _⟩ | ⟨_, _, _, _, h⟩ | ⟨_, e, b1, b2, _⟩
  · exact absurd e1 h
  · rw [n1, n2] at h; omega
  · exact ⟨e, by rw [b1, n1], by rw [b2, n2], q1', q2'⟩
theorem noW_S {l : List Gau} {S : Int → Int} (ht : truS l S) : noW l := ⟨fun a c q => by
  rcases bnd_ways l a c with ⟨h, e, _⟩ | ⟨h, _, _, _, h2⟩ | ⟨_, e, _⟩
  · rw [e] at q
    rcases ex_ways l a c false with ⟨h1, e1, _⟩ | ⟨_, e1, _⟩ | ⟨_, e1, _⟩
    · rw [e1] at q
      rcases str_ways l a c with ⟨_, h⟩ | ⟨_, _, h⟩ | ⟨_, _, h⟩ <;> rw [h] at q <;> cases q
    · rw [e1] at q; cases q
    · rw [e1] at q; cases q
  · rcases ex_ways l a c false with ⟨h1, e1, _⟩ | ⟨_, e1, _⟩ | ⟨_, e1, n1, _, h3, _⟩
    · exact absurd (e1 ▸ h) h1
    · rw [e1] at h; cases h
    · have e2 : exE l a c true = 0 := by rw [exE_is]; exact e1
      have n2 : exN l a c true = (bst l c true a).1 := by unfold exN; rw [e2]; rfl
      have q1 : (bst l c false a).1 ≤ S c - S a := (bstF_S ht (c := c) _ a).1 h3
      have q2 : S c - S a ≤ (bst l c true a).1 := (bstF_S ht (c := c) _ a).2 (by rw [show (bstF l c true (c - a).toNat a).2 = (bst l c true a).2 from rfl, ← bst_is]; exact h3)
      rw [n1, n2] at h2; omega
  · rw [e] at q; cases q⟩
/-- A row of exact gauges. -/
theorem row_exa {l : List Gau} {S : Int → Int} (hg : gausB l = true) (ht : exaS l S) {c : Int} (T : Nat → Int) {n : Nat} (h0 : 0 ≤ T 0) (h1 : T 0 < c) (hc : c ≤ 1000000) (hn : T n = c) (hT : ∀ i, i < n → ∃ u ∈ l, u.f = T i ∧ u.t = T (i + 1)) :
    bndE l (T 0) c = 0 ∧ bndL l (T 0) c = S c - S (T 0) ∧ bndH l (T 0) c = S c - S (T 0) := by
  have hl := fwd_of hg
  obtain ⟨e, b1, b2, _⟩ := row_bnd hg ht.tru T h0 h1 hc hn hT
  have hf := (bst_row hl false T hn hT n 0 (by omega)).2
  have hh := (bst_row hl true T hn hT n 0 (by omega)).2
  exact ⟨e, by rw [b1]; exact bstF_X ht false _ _ hf, by rw [b2]; exact bstF_X ht true _ _ hh⟩
/-- .. with a sharp gauge for all of it. -/
theorem row_all {l : List Gau} {S : Int → Int} (hg : gausB l = true) (ht : truS l S) {a c : Int} (h0 : 0 ≤ a) (h1 : a < c) (hc : c ≤ 1000000) {v : Gau} (hv : v ∈ l) (hf : v.f = a) (hvt : v.t = c) (hlo : v.lo = S c - S a) (hhi : v.hi = S c - S a) :
    bndE l a c = 0 ∧ bndL l a c = S c - S a ∧ bndH l a c = S c - S a := by
  have hl := fwd_of hg
  have hr := fun h : Bool => (show (bst l c h v.t).2 = true by rw [hvt, bst_end])
  have hz := fun h : Bool => (show (bst l c h v.t).1 = 0 by rw [hvt, bst_end])
  obtain ⟨p1, p2⟩ := bst_ge (u := v) (h := false) hl (s := a) (c := c) (by omega) hv hf (by omega) (hr false)
  obtain ⟨p3, p4⟩ := bst_ge (u := v) (h := true) hl (s := a) (c := c) (by omega) hv hf (by omega) (hr true)
  rw [hz, btr_f] at p2 p4
  simp only [Gau.side, if_true, if_false, Bool.false_eq_true, hlo, hhi] at p2 p4
  obtain ⟨e, b1, b2, q1, q2⟩ := row_bnd hg ht (fun i => if i = 0 then a else c) (n := 1) h0 h1 hc rfl fun i hi => by
    have : i = 0 := by omega
    subst this
    exact ⟨v, hv, hf, hvt⟩
  simp only [if_true] at e b1 b2 q1 q2
  exact ⟨e, by rw [b1]; omega, by rw [b2]; omega⟩
end Go.Sy

/- A loop's round as a theorem of its own. -/
set_option linter.unusedVariables false
namespace Go.Sy
/-- The loop with this number, and what follows it. -/
def atL (id : Nat) : Code → List Code → Option (Code × List Code)
  | .seq x y, t => match atL id x (y :: t) with
    | some r => some r
    | none => atL id y t
  | .block i (.loop b), t => match Nat.beq i id with
    | true => some (b, t)
    | false => none
  | _, _ => none
def atLoop (id : Nat) (c : Code) : Code × List Code := (atL id c []).getD (.skip, [])
def codeOf (f : Func) : Code := f.body.getD .skip
/-- What the loop's rule (Wk.inv) asks of a round. -/
def RoundG {P : Program} (X : Env P) (Q : Post) (x : Code) (t : List It) {ι : Type} (I : ι → Prop) (kf : List (Nat × SV)) (U : ι → List (Nat × SV)) (hp : List HB) (V : ι → List (Nat × (HB → HB))) (μ : ι → Nat) (i : ι) : Prop :=
  updK hp (V i) fun H => Wk X none Q (.c x :: .k [] (fun fr' hp' => ∃ j, I j ∧ μ j < μ i ∧ fsub fr' (U j ++ kf) ∧ hsel (updL hp (V j)) hp') :: t) [] (U i ++ kf) H
end Go.Sy

/- The gauges of a box over the parts of a run: one behind the other they are that of the whole. -/
set_option linter.unusedSimpArgs false
set_option linter.unusedVariables false
namespace Go.Sy
theorem walkC_add (w h : Int) (u : Wal) (ρ : Nat → Rul) (cs : List Cel) (m : Nat) : ∀ k, walkC w h u ρ cs (m + k) = walkC w h u (fun j => ρ (m + j)) (walkC w h u ρ cs m) k
  | 0 => rfl
  | k + 1 => by
    show walkC w h u ρ cs (m + k + 1) = _
    rw [walkC, walkC_add w h u ρ cs m k]; rfl
theorem rho_add (l : List Rul) (t : Int) (m k : Nat) : rho l (t + (m : Int)) k = rho l t (m + k) := by
  unfold rho
  rw [show t + (m : Int) + (k : Int) = t + ((m + k : Nat) : Int) by omega]
theorem wgr_add (g : Grd) (u : Wal) (l : List Rul) (t : Int) (m k : Nat) : wgr (wgr g u l t m) u l (t + (m : Int)) k = wgr g u l t (m + k) := by
  unfold wgr
  simp only
  rw [walkC_add, show rho l (t + (m : Int)) = fun j => rho l t (m + j) from funext fun j => rho_add l t m j]
theorem wgr_len (g : Grd) (u : Wal) (l : List Rul) (t : Int) (k : Nat) : (wgr g u l t k).cs.length = g.cs.length := walkC_length ..
theorem tolS_add (g : Grd) (u : Wal) (l : List Rul) (t : Int) (x : Cel) (axis : Int) (m : Nat) : ∀ k, tolS g u l t x axis (m + k) = ((tolS g u l t x axis m).1 + (tolS (wgr g u l t m) u l (t + (m : Int)) x axis k).1, (tolS g u l t x axis m).2 + (tolS (wgr g u l t m) u l (t + (m : Int)) x axis k).2)
  | 0 => by simp [tolS]
  | k + 1 => by
    show tolS g u l t x axis (m + k + 1) = _
    simp only [tolS, tolS_add g u l t x axis m k, wgr_add, rho_add, wgr_len]
    refine Prod.ext ?_ ?_ <;> simp only <;> omega
/-- What the box has lost to walls up to a step. -/
def pot (g : Grd) (u : Wal) (l : List Rul) (x : Cel) (axis : Int) (s : Int) : Int :=
  momS g x axis g.cs.length + (tolS g u l 0 x axis s.toNat).1 - (tolS g u l 0 x axis s.toNat).2 - momS (wgr g u l 0 s.toNat) x axis g.cs.length
/-- The gauge of a part of the run. -/
def pgau (g : Grd) (u : Wal) (l : List Rul) (t s : Int) (a d : Pnt) (axis : Int) : Gau := tgau (wgr g u l 0 t.toNat) u l t s a d axis
theorem pgau_eq (g : Grd) (u : Wal) (l : List Rul) {t s : Int} (ht : 0 ≤ t) (hs : t ≤ s) (a d : Pnt) (axis : Int) : pgau g u l t s a d axis =
    ⟨t, s, momS (wgr g u l 0 t.toNat) (boxC a d) axis g.cs.length, momS (wgr g u l 0 t.toNat) (boxC a d) axis g.cs.length,
      (tolS g u l 0 (boxC a d) axis s.toNat).1 - (tolS g u l 0 (boxC a d) axis t.toNat).1, (tolS g u l 0 (boxC a d) axis s.toNat).1 - (tolS g u l 0 (boxC a d) axis t.toNat).1,
      (tolS g u l 0 (boxC a d) axis s.toNat).2 - (tolS g u l 0 (boxC a d) axis t.toNat).2, (tolS g u l 0 (boxC a d) axis s.toNat).2 - (tolS g u l 0 (boxC a d) axis t.toNat).2,
      momS (wgr g u l 0 s.toNat) (boxC a d) axis g.cs.length, momS (wgr g u l 0 s.toNat) (boxC a d) axis g.cs.length⟩ := by
  have e : s.toNat = t.toNat + (s - t).toNat := by omega
  have h := tolS_add g u l 0 (boxC a d) axis t.toNat (s - t).toNat
  have hw := wgr_add g u l 0 t.toNat (s - t).toNat
  rw [show (0 : Int) + (t.toNat : Int) = t by omega, ← e] at h hw
  unfold pgau tgau
  rw [wgr_len, hw, h]
  simp only [Gau.mk.injEq, true_and]
  refine ⟨?_, ?_, ?_, ?_, ?_⟩ <;> first | trivial | rfl | omega
theorem pgau_lo {g : Grd} {u : Wal} {l : List Rul} {t s : Int} (ht : 0 ≤ t) (hs : t ≤ s) (a d : Pnt) (axis : Int) : (pgau g u l t s a d axis).lo = pot g u l (boxC a d) axis s - pot g u l (boxC a d) axis t ∧ (pgau g u l t s a d axis).hi = pot g u l (boxC a d) axis s - pot g u l (boxC a d) axis t := by
  rw [pgau_eq g u l ht hs a d axis]
  unfold Gau.lo Gau.hi pot
  simp only
  constructor <;> omega
theorem pgau_join {g : Grd} {u : Wal} {l : List Rul} {t s : Int} (ht : 0 ≤ t) (hs : t ≤ s) (a d : Pnt) (axis : Int) : (pgau g u l 0 t a d axis).join (pgau g u l t s a d axis) = pgau g u l 0 s a d axis := by
  rw [pgau_eq g u l ht hs a d axis, pgau_eq g u l (t := 0) (s := t) (by omega) ht a d axis, pgau_eq g u l (t := 0) (s := s) (by omega) (by omega) a d axis]
  unfold Gau.join
  simp only [Gau.mk.injEq, true_and, and_true]
  refine ⟨?_, ?_, ?_, ?_⟩ <;> omega
/-- The steps at which the parts begin. -/
def stT (P : List Int) (i : Nat) : Int := sumZ (P.take i)
theorem stT_zero (P : List Int) : stT P 0 = 0 := by simp [stT, sumZ]
theorem stT_succ {P : List Int} {i : Nat} (h : i < P.length) : stT P (i + 1) = stT P i + P.getD i 0 := by
  unfold stT
  rw [List.take_add_one, sumZ_app, List.getElem?_eq_getElem h, List.getD_eq_getElem?_getD, List.getElem?_eq_getElem h]
  simp [sumZ]
/-- The parts' gauges. -/
def tlG (g : Grd) (u : Wal) (l : List Rul) (P : List Int) (a d : Pnt) (axis : Int) (i : Nat) : List Gau := (List.range i).map fun j => pgau g u l (stT P j) (stT P (j + 1)) a d axis
def tlB (g : Grd) (u : Wal) (l : List Rul) (P : List Int) (a d : Pnt) (axis q : Int) (i : Nat) : List Gau := (tlG g u l P a d axis i).map fun v => v.blur q
theorem tlG_succ (g : Grd) (u : Wal) (l : List Rul) (P : List Int) (a d : Pnt) (axis : Int) (i : Nat) : tlG g u l P a d axis (i + 1) = tlG g u l P a d axis i ++ [pgau g u l (stT P i) (stT P (i + 1)) a d axis] := by
  unfold tlG; rw [List.range_succ, List.map_append]; rfl
theorem tlB_succ (g : Grd) (u : Wal) (l : List Rul) (P : List Int) (a d : Pnt) (axis q : Int) (i : Nat) : tlB g u l P a d axis q (i + 1) = tlB g u l P a d axis q i ++ [(pgau g u l (stT P i) (stT P (i + 1)) a d axis).blur q] := by
  unfold tlB; rw [tlG_succ, List.map_append]; rfl
theorem tlG_len (g : Grd) (u : Wal) (l : List Rul) (P : List Int) (a d : Pnt) (axis : Int) (i : Nat) : (tlG g u l P a d axis i).length = i := by simp [tlG]
theorem tlB_len (g : Grd) (u : Wal) (l : List Rul) (P : List Int) (a d : Pnt) (axis q : Int) (i : Nat) : (tlB g u l P a d axis q i).length = i := by simp [tlB, tlG]
/-- What the law's loop has found after i parts. -/
structure tdrK (g : Grd) (u : Wal) (l : List Rul) (P : List Int) (a d : Pnt) (axis : Int) (i : Nat) : Prop where
  pr : ∀ j, j < i → 1 ≤ P.getD j 0 ∧ P.getD j 0 ≤ 4
  ok : ∀ j, j < i → (pgau g u l (stT P j) (stT P (j + 1)) a d axis).ok = true
  jn : 0 < i → (pgau g u l 0 (stT P i) a d axis).ok = true
theorem tdrK_zero (g : Grd) (u : Wal) (l : List Rul) (P : List Int) (a d : Pnt) (axis : Int) : tdrK g u l P a d axis 0 := ⟨fun j h => by omega, fun j h => by omega, fun h => by omega⟩
theorem tdrK_next {g : Grd} {u : Wal} {l : List Rul} {P : List Int} {a d : Pnt} {axis : Int} {i : Nat} (h : tdrK g u l P a d axis i) (h1 : 1 ≤ P.getD i 0) (h2 : P.getD i 0 ≤ 4) (h3 : (pgau g u l (stT P i) (stT P (i + 1)) a d axis).ok = true) (h4 : (pgau g u l 0 (stT P (i + 1)) a d axis).ok = true) : tdrK g u l P a d axis (i + 1) :=
  ⟨fun j hj => by
    by_cases e : j = i
    · subst e; exact ⟨h1, h2⟩
    · exact h.pr j (by omega), fun j hj => by
    by_cases e : j = i
    · subst e; exact h3
    · exact h.ok j (by omega), fun _ => h4⟩
theorem stT_bd {g : Grd} {u : Wal} {l : List Rul} {P : List Int} {a d : Pnt} {axis : Int} {n : Nat} (h : tdrK g u l P a d axis n) (hn : n ≤ P.length) : ∀ i, i ≤ n → (i : Int) ≤ stT P i ∧ stT P i ≤ 4 * i
  | 0, _ => by rw [stT_zero]; omega
  | i + 1, hi => by
    have := stT_bd h hn i (by omega)
    have := h.pr i (by omega)
    rw [stT_succ (by omega)]; omega
theorem stT_le {g : Grd} {u : Wal} {l : List Rul} {P : List Int} {a d : Pnt} {axis : Int} {n : Nat} (h : tdrK g u l P a d axis n) (hn : n ≤ P.length) {i : Nat} (hi : i < n) : 0 ≤ stT P i ∧ stT P i < stT P (i + 1) := by
  have h1 := stT_bd h hn i (by omega)
  have h2 := h.pr i hi
  rw [stT_succ (by omega)]; omega
theorem tlG_mem {g : Grd} {u : Wal} {l : List Rul} {P : List Int} {a d : Pnt} {axis : Int} {n : Nat} {v : Gau} (hv : v ∈ tlG g u l P a d axis n) : ∃ i, i < n ∧ v = pgau g u l (stT P i) (stT P (i + 1)) a d axis := by
  unfold tlG at hv
  obtain ⟨i, hi, rfl⟩ := List.mem_map.1 hv
  exact ⟨i, List.mem_range.1 hi, rfl⟩
theorem tlG_exa {g : Grd} {u : Wal} {l : List Rul} {P : List Int} {a d : Pnt} {axis : Int} {n : Nat} (h : tdrK g u l P a d axis n) (hn : n ≤ P.length) : exaS (tlG g u l P a d axis n) (pot g u l (boxC a d) axis) := by
  refine ⟨fun v hv => ?_, fun v hv => ?_⟩ <;> obtain ⟨i, hi, rfl⟩ := tlG_mem hv <;> have hT := stT_le h hn hi
  · exact (pgau_lo hT.1 (by omega) a d axis).1
  · exact (pgau_lo hT.1 (by omega) a d axis).2
theorem blur_in {v : Gau} (h : v.Ok) {q : Int} (hq : 0 ≤ q) : (v.blur q).lo ≤ v.lo ∧ v.hi ≤ (v.blur q).hi ∧ (v.blur q).f = v.f ∧ (v.blur q).t = v.t := by
  unfold Gau.Ok at h; unfold Gau.blur Gau.lo Gau.hi; simp only
  refine ⟨?_, ?_, trivial, trivial⟩ <;> omega
theorem tlB_tru {g : Grd} {u : Wal} {l : List Rul} {P : List Int} {a d : Pnt} {axis q : Int} {n : Nat} (h : tdrK g u l P a d axis n) (hn : n ≤ P.length) (hq : 0 ≤ q) : truS (tlB g u l P a d axis q n) (pot g u l (boxC a d) axis) := by
  refine ⟨fun v hv => ?_, fun v hv => ?_⟩ <;> (unfold tlB at hv; obtain ⟨w, hw, rfl⟩ := List.mem_map.1 hv; obtain ⟨i, hi, rfl⟩ := tlG_mem hw; have hT := stT_le h hn hi; have hb := blur_in (gau_ok (h.ok i hi)) hq; have hp := pgau_lo (g := g) (u := u) (l := l) hT.1 (Int.le_of_lt hT.2) a d axis; rw [hb.2.2.1, hb.2.2.2, show (pgau g u l (stT P i) (stT P (i + 1)) a d axis).f = stT P i from rfl, show (pgau g u l (stT P i) (stT P (i + 1)) a d axis).t = stT P (i + 1) from rfl])
  · rw [← hp.1]; exact hb.1
  · rw [← hp.2]; exact hb.2.1
theorem gausB_of {l : List Gau} (h1 : 1 ≤ l.length) (h2 : l.length ≤ 60) (h : ∀ v ∈ l, v.ok = true) : gausB l = true := gaus_t h1 h2 fun i hi => by
  rw [getD_getE hi]; exact h _ (List.getElem_mem hi)
/-- All that the law compares. -/
structure tdrE (g : Grd) (u : Wal) (l : List Rul) (P : List Int) (a d : Pnt) (axis q : Int) (n : Nat) : Prop where
  oW : (pgau g u l 0 (stT P n) a d axis).ok = true
  eq : (pgau g u l 0 (stT P n) a d axis).lo = (pgau g u l 0 (stT P n) a d axis).hi
  gT : gausB (tlG g u l P a d axis n) = true
  eT : bndE (tlG g u l P a d axis n) 0 (stT P n) = 0
  lT : bndL (tlG g u l P a d axis n) 0 (stT P n) = (pgau g u l 0 (stT P n) a d axis).lo
  hT : bndH (tlG g u l P a d axis n) 0 (stT P n) = (pgau g u l 0 (stT P n) a d axis).lo
  gB : gausB (tlB g u l P a d axis q n) = true
  eB : bndE (tlB g u l P a d axis q n) 0 (stT P n) = 0
  lB : bndL (tlB g u l P a d axis q n) 0 (stT P n) ≤ (pgau g u l 0 (stT P n) a d axis).lo
  hB : (pgau g u l 0 (stT P n) a d axis).lo ≤ bndH (tlB g u l P a d axis q n) 0 (stT P n)
  gA : gausB (tlB g u l P a d axis q n ++ [pgau g u l 0 (stT P n) a d axis]) = true
  nA : noW (tlB g u l P a d axis q n ++ [pgau g u l 0 (stT P n) a d axis])
  eA : bndE (tlB g u l P a d axis q n ++ [pgau g u l 0 (stT P n) a d axis]) 0 (stT P n) = 0
  lA : bndL (tlB g u l P a d axis q n ++ [pgau g u l 0 (stT P n) a d axis]) 0 (stT P n) = (pgau g u l 0 (stT P n) a d axis).lo
  hA : bndH (tlB g u l P a d axis q n ++ [pgau g u l 0 (stT P n) a d axis]) 0 (stT P n) = (pgau g u l 0 (stT P n) a d axis).lo
  bd : 0 < stT P n ∧ stT P n ≤ 16
theorem tdr_all {g : Grd} {u : Wal} {l : List Rul} {P : List Int} {a d : Pnt} {axis q : Int} (h : tdrK g u l P a d axis P.length) (h1 : 1 ≤ P.length) (h4 : P.length ≤ 4) (hq : 0 ≤ q ∧ q ≤ 1000000000) : tdrE g u l P a d axis q P.length := by
  have hb := stT_bd h (Nat.le_refl _) P.length (Nat.le_refl _)
  have ht0 : 0 < stT P P.length := by omega
  have oW := h.jn h1
  have pw := pgau_lo (g := g) (u := u) (l := l) (t := 0) (s := stT P P.length) (by omega) (by omega) a d axis
  have mG : ∀ v ∈ tlG g u l P a d axis P.length, v.ok = true := fun v hv => by
    obtain ⟨i, hi, rfl⟩ := tlG_mem hv; exact h.ok i hi
  have mB : ∀ v ∈ tlB g u l P a d axis q P.length, v.ok = true := fun v hv => by
    unfold tlB at hv
    obtain ⟨w, hw, rfl⟩ := List.mem_map.1 hv
    exact gau_t (blur_ok (gau_ok (mG w hw)) hq)
  have gT := gausB_of (l := tlG g u l P a d axis P.length) (by rw [tlG_len]; omega) (by rw [tlG_len]; omega) mG
  have gB := gausB_of (l := tlB g u l P a d axis q P.length) (by rw [tlB_len]; omega) (by rw [tlB_len]; omega) mB
  have mA : ∀ v ∈ tlB g u l P a d axis q P.length ++ [pgau g u l 0 (stT P P.length) a d axis], v.ok = true := fun v hv => by
    rcases List.mem_append.1 hv with hv | hv
    · exact mB v hv
    · rw [List.mem_singleton] at hv; subst hv; exact oW
  have gA := gausB_of (l := tlB g u l P a d axis q P.length ++ [pgau g u l 0 (stT P P.length) a d axis]) (by simp [tlB_len]) (by simp [tlB_len]; omega) mA
  have xG := tlG_exa h (Nat.le_refl _)
  have tB := tlB_tru (q := q) h (Nat.le_refl _) hq.1
  have tA : truS (tlB g u l P a d axis q P.length ++ [pgau g u l 0 (stT P P.length) a d axis]) (pot g u l (boxC a d) axis) := by
    refine ⟨fun v hv => ?_, fun v hv => ?_⟩ <;> rcases List.mem_append.1 hv with hv | hv
    · exact tB.lo v hv
    · rw [List.mem_singleton] at hv; subst hv; rw [pw.1]; exact Int.le_refl _
    · exact tB.hi v hv
    · rw [List.mem_singleton] at hv; subst hv; rw [pw.2]; exact Int.le_refl _
  have rG : ∀ i, i < P.length → ∃ v ∈ tlG g u l P a d axis P.length, v.f = stT P i ∧ v.t = stT P (i + 1) := fun i hi => ⟨pgau g u l (stT P i) (stT P (i + 1)) a d axis, List.mem_map.2 ⟨i, List.mem_range.2 hi, rfl⟩, rfl, rfl⟩
  have rB : ∀ i, i < P.length → ∃ v ∈ tlB g u l P a d axis q P.length, v.f = stT P i ∧ v.t = stT P (i + 1) := fun i hi => ⟨(pgau g u l (stT P i) (stT P (i + 1)) a d axis).blur q, List.mem_map.2 ⟨_, List.mem_map.2 ⟨i, List.mem_range.2 hi, rfl⟩, rfl⟩, rfl, rfl⟩
  have z := stT_zero P
  obtain ⟨a1, a2, a3⟩ := row_exa gT xG (stT P) (c := stT P P.length) (n := P.length) (by omega) (by omega) (by omega) rfl rG
  obtain ⟨b1, b2, b3, b4, b5⟩ := row_bnd gB tB (stT P) (c := stT P P.length) (n := P.length) (by omega) (by omega) (by omega) rfl rB
  obtain ⟨c1, c2, c3⟩ := row_all gA tA (a := 0) (c := stT P P.length) (v := pgau g u l 0 (stT P P.length) a d axis) (by omega) ht0 (by omega) (by simp) rfl rfl pw.1 pw.2
  rw [z] at a1 a2 a3 b1 b2 b3 b4 b5
  exact ⟨oW, by rw [pw.1, pw.2], gT, a1, by rw [a2, pw.1], by rw [a3, pw.1], gB, b1, by rw [b2, pw.1]; exact b4, by rw [b3, pw.1]; exact b5, gA, noW_S tA, c1, by rw [c2, pw.1], by rw [c3, pw.1], ⟨ht0, by omega⟩⟩
/-- What is asked of the law's grid, walls, rules, corners and axis. -/
structure tdrO (g : Grd) (u : Wal) (l : List Rul) (a d : Pnt) (axis : Int) : Prop where
  hW : walB g u = true
  hR : rulesB l = true
  on : onG g a d
  ax : 0 ≤ axis ∧ axis ≤ 1
theorem tdr_tol {g : Grd} {u : Wal} {l : List Rul} {a d : Pnt} {axis : Int} (h : tdrO g u l a d axis) {t s : Int} (ht : 0 ≤ t) (hs : t < s) (hm : s ≤ 1000) :
    ((pgau g u l t s a d axis).ok = false ∧ tolE (wgr g u l 0 t.toNat) u l t s a d axis = 4) ∨ ((pgau g u l t s a d axis).ok = true ∧ tolE (wgr g u l 0 t.toNat) u l t s a d axis = 0 ∧ tolR (wgr g u l 0 t.toNat) u l t s a d axis = pgau g u l t s a d axis) := by
  have hw := wgr_ok h.hW h.hR (Int.le_refl 0) t.toNat
  have hA : askE (wgr g u l 0 t.toNat) u l = 0 := by
    rcases ask_ways (wgr g u l 0 t.toNat) u l with ⟨q, _⟩ | ⟨_, q, _⟩ | ⟨_, _, q, _⟩ | ⟨_, _, _, q⟩
    · rw [hw.1] at q; cases q
    · rw [hw.2.1] at q; cases q
    · rw [h.hR] at q; cases q
    · exact q
  have ho : onG (wgr g u l 0 t.toNat) a d := h.on
  have hP : tolP (wgr g u l 0 t.toNat) t s a d axis := ⟨⟨ho, h.ax⟩, ht, hs, by omega, by omega⟩
  have e1 : tolE (wgr g u l 0 t.toNat) u l t s a d axis = if (pgau g u l t s a d axis).ok then 0 else 4 := by
    unfold tolE; rw [if_pos hA, if_pos hP]; rfl
  cases hk : (pgau g u l t s a d axis).ok
  · rw [hk] at e1; exact .inl ⟨rfl, e1⟩
  · rw [hk] at e1
    exact .inr ⟨rfl, e1, by unfold tolR; rw [e1]; rfl⟩
/-- The gauge joined so far. -/
def tdj (g : Grd) (u : Wal) (l : List Rul) (P : List Int) (a d : Pnt) (axis : Int) (i : Nat) : Gau := if i = 0 then ⟨0, 0, 0, 0, 0, 0, 0, 0, 0, 0⟩ else pgau g u l 0 (stT P i) a d axis
/-- The ways of a round. -/
theorem tdr_rnd {g : Grd} {u : Wal} {l : List Rul} {a d : Pnt} {axis : Int} (h : tdrO g u l a d axis) {P : List Int} {q : Int} (hq : 0 ≤ q ∧ q ≤ 1000000000) (hn : P.length ≤ 4) {i : Nat} (hi : i < P.length) (hk : tdrK g u l P a d axis i) :
    (¬ (1 ≤ P.getD i 0 ∧ P.getD i 0 ≤ 4) ∧ True ∧ True ∧ True) ∨
    ((1 ≤ P.getD i 0 ∧ P.getD i 0 ≤ 4) ∧ (tolE (wgr g u l 0 (stT P i).toNat) u l (stT P i) (stT P i + P.getD i 0) a d axis = 4) ∧ True ∧ True) ∨
    ((1 ≤ P.getD i 0 ∧ P.getD i 0 ≤ 4) ∧ (tolE (wgr g u l 0 (stT P i).toNat) u l (stT P i) (stT P i + P.getD i 0) a d axis = 0 ∧ tolR (wgr g u l 0 (stT P i).toNat) u l (stT P i) (stT P i + P.getD i 0) a d axis = pgau g u l (stT P i) (stT P (i + 1)) a d axis ∧ blrE (pgau g u l (stT P i) (stT P (i + 1)) a d axis) q = 0 ∧ blrR (pgau g u l (stT P i) (stT P (i + 1)) a d axis) q = (pgau g u l (stT P i) (stT P (i + 1)) a d axis).blur q) ∧
      (0 < i ∧ jnE (tdj g u l P a d axis i) (pgau g u l (stT P i) (stT P (i + 1)) a d axis) = 4) ∧ True) ∨
    ((1 ≤ P.getD i 0 ∧ P.getD i 0 ≤ 4) ∧ (tolE (wgr g u l 0 (stT P i).toNat) u l (stT P i) (stT P i + P.getD i 0) a d axis = 0 ∧ tolR (wgr g u l 0 (stT P i).toNat) u l (stT P i) (stT P i + P.getD i 0) a d axis = pgau g u l (stT P i) (stT P (i + 1)) a d axis ∧ blrE (pgau g u l (stT P i) (stT P (i + 1)) a d axis) q = 0 ∧ blrR (pgau g u l (stT P i) (stT P (i + 1)) a d axis) q = (pgau g u l (stT P i) (stT P (i + 1)) a d axis).blur q) ∧
      ((i = 0 ∧ pgau g u l (stT P i) (stT P (i + 1)) a d axis = tdj g u l P a d axis (i + 1)) ∨ (0 < i ∧ jnE (tdj g u l P a d axis i) (pgau g u l (stT P i) (stT P (i + 1)) a d axis) = 0 ∧ jnR (tdj g u l P a d axis i) (pgau g u l (stT P i) (stT P (i + 1)) a d axis) = tdj g u l P a d axis (i + 1))) ∧
      (wrunE (wgr g u l 0 (stT P i).toNat) u l (stT P i) (P.getD i 0) = 0 ∧ wrunG (wgr g u l 0 (stT P i).toNat) u l (stT P i) (P.getD i 0) = wgr g u l 0 (stT P (i + 1)).toNat ∧ stT P i + P.getD i 0 = stT P (i + 1) ∧ tdrK g u l P a d axis (i + 1))) := by
  by_cases hp : 1 ≤ P.getD i 0 ∧ P.getD i 0 ≤ 4
  · have hb := stT_bd hk (by omega) i (Nat.le_refl _)
    have hT : stT P (i + 1) = stT P i + P.getD i 0 := stT_succ hi
    have h0 : 0 ≤ stT P i := by omega
    have hlt : stT P i < stT P (i + 1) := by omega
    rcases tdr_tol h (t := stT P i) (s := stT P (i + 1)) h0 hlt (by omega) with ⟨_, e⟩ | ⟨ho, e, er⟩
    · exact .inr (.inl ⟨hp, by rw [← hT]; exact e, trivial, trivial⟩)
    · have hB : blrE (pgau g u l (stT P i) (stT P (i + 1)) a d axis) q = 0 := by unfold blrE; rw [ho]; simp only [if_true, if_pos hq]
      have hT2 : tolE (wgr g u l 0 (stT P i).toNat) u l (stT P i) (stT P i + P.getD i 0) a d axis = 0 ∧ tolR (wgr g u l 0 (stT P i).toNat) u l (stT P i) (stT P i + P.getD i 0) a d axis = pgau g u l (stT P i) (stT P (i + 1)) a d axis ∧ blrE (pgau g u l (stT P i) (stT P (i + 1)) a d axis) q = 0 ∧ blrR (pgau g u l (stT P i) (stT P (i + 1)) a d axis) q = (pgau g u l (stT P i) (stT P (i + 1)) a d axis).blur q := by
        rw [← hT]; exact ⟨e, er, hB, by unfold blrR; rw [hB]; rfl⟩
      have hw := wgr_ok h.hW h.hR (Int.le_refl 0) (stT P i).toNat
      have hr : wrunE (wgr g u l 0 (stT P i).toNat) u l (stT P i) (P.getD i 0) = 0 := by
        unfold wrunE
        rw [hw.2.1, h.hR, Bool.and_true, if_pos rfl, if_pos (by unfold timesP; omega)]
      have hr2 : wrunG (wgr g u l 0 (stT P i).toNat) u l (stT P i) (P.getD i 0) = wgr g u l 0 (stT P (i + 1)).toNat := by
        unfold wrunG
        rw [if_pos hr]
        have := wgr_add g u l 0 (stT P i).toNat (P.getD i 0).toNat
        rw [show (0 : Int) + ((stT P i).toNat : Int) = stT P i by omega, show (stT P i).toNat + (P.getD i 0).toNat = (stT P (i + 1)).toNat by omega] at this
        exact this
      by_cases hz : i = 0
      · subst hz
        have hj : pgau g u l (stT P 0) (stT P (0 + 1)) a d axis = tdj g u l P a d axis (0 + 1) := by
          unfold tdj; rw [if_neg (by omega), stT_zero]
        have hok1 : (pgau g u l 0 (stT P (0 + 1)) a d axis).ok = true := by rw [stT_zero] at ho; exact ho
        exact .inr (.inr (.inr ⟨hp, hT2, .inl ⟨rfl, hj⟩, hr, hr2, hT.symm, tdrK_next hk hp.1 hp.2 ho hok1⟩))
      · have hpos : 0 < i := by omega
        have hjo := hk.jn hpos
        have hd : tdj g u l P a d axis i = pgau g u l 0 (stT P i) a d axis := if_neg hz
        have hd2 : tdj g u l P a d axis (i + 1) = pgau g u l 0 (stT P (i + 1)) a d axis := if_neg (by omega)
        have hjn := pgau_join (g := g) (u := u) (l := l) h0 (Int.le_of_lt hlt) a d axis
        have he : jnE (pgau g u l 0 (stT P i) a d axis) (pgau g u l (stT P i) (stT P (i + 1)) a d axis) = if (pgau g u l 0 (stT P (i + 1)) a d axis).ok then 0 else 4 := by
          unfold jnE
          rw [hjo, ho, hjn]
          simp only [Bool.and_self, if_true]
          exact if_pos rfl
        rw [hd, hd2]
        cases hk2 : (pgau g u l 0 (stT P (i + 1)) a d axis).ok
        · rw [hk2] at he
          exact .inr (.inr (.inl ⟨hp, hT2, ⟨hpos, he⟩, trivial⟩))
        · rw [hk2] at he
          have he : jnE (pgau g u l 0 (stT P i) a d axis) (pgau g u l (stT P i) (stT P (i + 1)) a d axis) = 0 := he
          exact .inr (.inr (.inr ⟨hp, hT2, .inr ⟨hpos, he, by unfold jnR; rw [he]; simp only [if_true]; exact hjn⟩, hr, hr2, hT.symm, tdrK_next hk hp.1 hp.2 ho hk2⟩))
  · exact .inl ⟨hp, trivial, trivial, trivial⟩
/-- The ways of a round, and of the end. -/
theorem tdr_go {g : Grd} {u : Wal} {l : List Rul} {a d : Pnt} {axis : Int} (h : tdrO g u l a d axis) {P : List Int} {q : Int} (hq : 0 ≤ q ∧ q ≤ 1000000000) (h1 : 1 ≤ P.length) (hn : P.length ≤ 4) {i : Nat} (hi : i ≤ P.length) (hk : tdrK g u l P a d axis i) :
    ((i < P.length ∧ ¬ (1 ≤ P.getD i 0 ∧ P.getD i 0 ≤ 4)) ∧ True ∧ True ∧ True ∧ True) ∨
    ((i < P.length ∧ (1 ≤ P.getD i 0 ∧ P.getD i 0 ≤ 4) ∧ 0 ≤ stT P i ∧ stT P i ≤ 16) ∧ tolE (wgr g u l 0 (stT P i).toNat) u l (stT P i) (stT P i + P.getD i 0) a d axis = 4 ∧ True ∧ True ∧ True) ∨
    (((i < P.length ∧ (1 ≤ P.getD i 0 ∧ P.getD i 0 ≤ 4) ∧ 0 ≤ stT P i ∧ stT P i ≤ 16) ∧ 0 < i) ∧ (tolE (wgr g u l 0 (stT P i).toNat) u l (stT P i) (stT P i + P.getD i 0) a d axis = 0 ∧ tolR (wgr g u l 0 (stT P i).toNat) u l (stT P i) (stT P i + P.getD i 0) a d axis = (pgau g u l (stT P i) (stT P (i + 1)) a d axis) ∧ blrE (pgau g u l (stT P i) (stT P (i + 1)) a d axis) q = 0 ∧ blrR (pgau g u l (stT P i) (stT P (i + 1)) a d axis) q = (pgau g u l (stT P i) (stT P (i + 1)) a d axis).blur q) ∧ jnE (tdj g u l P a d axis i) (pgau g u l (stT P i) (stT P (i + 1)) a d axis) = 4 ∧ True ∧ True) ∨
    (((i < P.length ∧ (1 ≤ P.getD i 0 ∧ P.getD i 0 ≤ 4) ∧ 0 ≤ stT P i ∧ stT P i ≤ 16) ∧ i = 0) ∧ (tolE (wgr g u l 0 (stT P i).toNat) u l (stT P i) (stT P i + P.getD i 0) a d axis = 0 ∧ tolR (wgr g u l 0 (stT P i).toNat) u l (stT P i) (stT P i + P.getD i 0) a d axis = (pgau g u l (stT P i) (stT P (i + 1)) a d axis) ∧ blrE (pgau g u l (stT P i) (stT P (i + 1)) a d axis) q = 0 ∧ blrR (pgau g u l (stT P i) (stT P (i + 1)) a d axis) q = (pgau g u l (stT P i) (stT P (i + 1)) a d axis).blur q) ∧ tdj g u l P a d axis (i + 1) = (pgau g u l (stT P i) (stT P (i + 1)) a d axis) ∧ (wrunE (wgr g u l 0 (stT P i).toNat) u l (stT P i) (P.getD i 0) = 0 ∧ wrunG (wgr g u l 0 (stT P i).toNat) u l (stT P i) (P.getD i 0) = wgr g u l 0 (stT P (i + 1)).toNat ∧ stT P i + P.getD i 0 = stT P (i + 1) ∧ tdrK g u l P a d axis (i + 1)) ∧ True) ∨
    (((i < P.length ∧ (1 ≤ P.getD i 0 ∧ P.getD i 0 ≤ 4) ∧ 0 ≤ stT P i ∧ stT P i ≤ 16) ∧ 0 < i) ∧ (tolE (wgr g u l 0 (stT P i).toNat) u l (stT P i) (stT P i + P.getD i 0) a d axis = 0 ∧ tolR (wgr g u l 0 (stT P i).toNat) u l (stT P i) (stT P i + P.getD i 0) a d axis = (pgau g u l (stT P i) (stT P (i + 1)) a d axis) ∧ blrE (pgau g u l (stT P i) (stT P (i + 1)) a d axis) q = 0 ∧ blrR (pgau g u l (stT P i) (stT P (i + 1)) a d axis) q = (pgau g u l (stT P i) (stT P (i + 1)) a d axis).blur q) ∧ (jnE (tdj g u l P a d axis i) (pgau g u l (stT P i) (stT P (i + 1)) a d axis) = 0 ∧ jnR (tdj g u l P a d axis i) (pgau g u l (stT P i) (stT P (i + 1)) a d axis) = tdj g u l P a d axis (i + 1)) ∧ (wrunE (wgr g u l 0 (stT P i).toNat) u l (stT P i) (P.getD i 0) = 0 ∧ wrunG (wgr g u l 0 (stT P i).toNat) u l (stT P i) (P.getD i 0) = wgr g u l 0 (stT P (i + 1)).toNat ∧ stT P i + P.getD i 0 = stT P (i + 1) ∧ tdrK g u l P a d axis (i + 1)) ∧ True) ∨
    ((i = P.length ∧ 0 < stT P i ∧ stT P i ≤ 16) ∧ (tolE g u l 0 (stT P i) a d axis = 0 ∧ tolR g u l 0 (stT P i) a d axis = pgau g u l 0 (stT P i) a d axis ∧ gauE (pgau g u l 0 (stT P i) a d axis) = 0 ∧ gauLo (pgau g u l 0 (stT P i) a d axis) = (pgau g u l 0 (stT P i) a d axis).lo ∧ gauHi (pgau g u l 0 (stT P i) a d axis) = (pgau g u l 0 (stT P i) a d axis).lo) ∧ tdj g u l P a d axis i = pgau g u l 0 (stT P i) a d axis ∧ True ∧ tdrE g u l P a d axis q i) := by
  rcases Nat.lt_or_ge i P.length with hlt | hge
  · have hb := stT_bd hk hi i (Nat.le_refl _)
    rcases tdr_rnd h hq hn hlt hk with ⟨w1, w2, w3, w4⟩ | ⟨w1, w2, w3, w4⟩ | ⟨w1, w2, w3, w4⟩ | ⟨w1, w2, w3 | w3, w4⟩
    · exact .inl ⟨⟨hlt, w1⟩, trivial, trivial, trivial, trivial⟩
    · exact .inr (.inl ⟨⟨hlt, w1, by omega, by omega⟩, w2, trivial, trivial, trivial⟩)
    · exact .inr (.inr (.inl ⟨⟨⟨hlt, w1, by omega, by omega⟩, w3.1⟩, w2, w3.2, trivial, trivial⟩))
    · exact .inr (.inr (.inr (.inl ⟨⟨⟨hlt, w1, by omega, by omega⟩, w3.1⟩, w2, w3.2.symm, w4, trivial⟩)))
    · exact .inr (.inr (.inr (.inr (.inl ⟨⟨⟨hlt, w1, by omega, by omega⟩, w3.1⟩, w2, w3.2, w4, trivial⟩))))
  · have e : i = P.length := by omega
    subst e
    have hA := tdr_all hk h1 hn hq
    have hT := hA.bd
    have ho : (pgau g u l 0 (stT P P.length) a d axis).ok = true := hA.oW
    rcases tdr_tol h (t := 0) (s := stT P P.length) (Int.le_refl 0) hT.1 (by omega) with ⟨q1, _⟩ | ⟨_, q2, q3⟩
    · rw [ho] at q1; cases q1
    · exact .inr (.inr (.inr (.inr (.inr ⟨⟨rfl, hT.1, hT.2⟩, ⟨q2, q3, by unfold gauE; rw [ho]; rfl, by unfold gauLo; rw [ho]; rfl, by unfold gauHi; rw [ho]; exact hA.eq.symm⟩, if_neg (by omega), trivial, hA⟩))))
theorem seg_len {α : Type} {xs : List α} {n : Nat} (h : xs.length = n) : seg xs 0 n = xs := by subst h; exact seg_all xs
theorem seg_one {α : Type} (x : α) : seg [x] 0 1 = [x] := rfl
end Go.Sy
