/- Boxes and walls: the momentum in a box, and what flows in and out. -/
import Derived.Test.YtpagagbokinjiaaSpGau
import Derived.Test.YtpagagbokinjiaaSpGrid
import Derived.Test.YtpagagbokinjiaaSpOrder
import Derived.Test.YtpagagbokinjiaaSpRule
import Derived.Test.YtpagagbokinjiaaSpRuns
set_option linter.unusedSimpArgs false
set_option linter.unusedVariables false
namespace Go.Sy
theorem tupB_eq {x : SV} {f : BF} {b : Bool} (h : f.b = b) : den (.tup [x, .bool f]) = den (.tup [x, .bool (.atom b)]) := by subst h; simp [den, denL, BF.b]
theorem tupF_eq {x : SV} {b : Bool} (h : b = false) : den (.tup [x, ofConst (.bool false)]) = den (.tup [x, .bool (.atom b)]) := by subst h; simp [den, denL, BF.b, den_ofConst]
theorem res_b2 {f f' : BF} (h : f.b = f'.b) : den (.bool f) = den (.bool f') := by simp [den, h]
/-! ### Boxes -/
def inQ (x : Cel) (p q : Int) : Bool := decide ((x.e ≤ p ∧ p ≤ x.w) ∧ x.n ≤ q ∧ q ≤ x.s)
def boxC (a d : Pnt) : Cel := ⟨min a.x d.x, min a.y d.y, max a.x d.x, max a.y d.y⟩
def onG (g : Grd) (a d : Pnt) : Prop := (0 ≤ min a.x d.x ∧ 0 ≤ min a.y d.y) ∧ max a.x d.x < g.w ∧ max a.y d.y < g.h
instance (g : Grd) (a d : Pnt) : Decidable (onG g a d) := by unfold onG; infer_instance
def inK (g : Grd) (x : Cel) (k : Int) : Bool := inQ x (k % g.w) (k / g.w)
/-- The momentum of a cell on an axis. -/
def cellM (axis : Int) (c : Cel) : Int := if axis = 0 then c.e - c.w else c.n - c.s
def momS (g : Grd) (x : Cel) (axis : Int) : Nat → Int
  | 0 => 0
  | k + 1 => momS g x axis k + (if inK g x k then cellM axis (g.cs.getD k default) else 0)
theorem momS_t {g : Grd} {x : Cel} {axis : Int} {k : Nat} (h : inK g x k = true) : momS g x axis (k + 1) = momS g x axis k + cellM axis (g.cs.getD k default) := by simp only [momS, h, if_true]
theorem momS_f {g : Grd} {x : Cel} {axis : Int} {k : Nat} (h : inK g x k = false) : momS g x axis (k + 1) = momS g x axis k := by simp [momS, h]
theorem cel_bd {g : Grd} (hg : g.ok = true) (k : Nat) : (0 ≤ (g.cs.getD k default).e ∧ (g.cs.getD k default).e ≤ 1000000000) ∧ (0 ≤ (g.cs.getD k default).n ∧ (g.cs.getD k default).n ≤ 1000000000) ∧ (0 ≤ (g.cs.getD k default).w ∧ (g.cs.getD k default).w ≤ 1000000000) ∧ 0 ≤ (g.cs.getD k default).s ∧ (g.cs.getD k default).s ≤ 1000000000 := by
  by_cases hi : k < g.cs.length
  · have := Cel.ok_iff.1 (okL_iff.1 (gok_okL hg) _ (getD_mem default hi))
    omega
  · rw [show g.cs.getD k default = (default : Cel) by rw [List.getD_eq_getElem?_getD, List.getElem?_eq_none (by omega)]; rfl]
    show (0 ≤ (0 : Int) ∧ (0 : Int) ≤ 1000000000) ∧ (0 ≤ (0 : Int) ∧ (0 : Int) ≤ 1000000000) ∧ (0 ≤ (0 : Int) ∧ (0 : Int) ≤ 1000000000) ∧ 0 ≤ (0 : Int) ∧ (0 : Int) ≤ 1000000000
    omega
theorem momS_bd {g : Grd} (hg : g.ok = true) (x : Cel) (axis : Int) : ∀ k : Nat, -(2000000000 * (k : Int)) ≤ momS g x axis k ∧ momS g x axis k ≤ 2000000000 * (k : Int)
  | 0 => by simp [momS]
  | k + 1 => by
    have ih := momS_bd hg x axis k
    have hc := cel_bd hg k
    have hm : -2000000000 ≤ cellM axis (g.cs.getD k default) ∧ cellM axis (g.cs.getD k default) ≤ 2000000000 := by unfold cellM; split <;> omega
    simp only [momS]
    split <;> omega
/-- Where the index of a cell lies. -/
theorem k_at {g : Grd} (hg : g.ok = true) {k : Int} (h0 : 0 ≤ k) (h1 : k < g.cs.length) : k.tmod g.w = k % g.w ∧ k.tdiv g.w = k / g.w ∧ (0 ≤ k % g.w ∧ k % g.w < g.w) ∧ 0 ≤ k / g.w ∧ k / g.w < g.h := by
  have hb := gok_bds hg
  have m1 := Int.emod_nonneg k (show g.w ≠ 0 by omega)
  have m2 := Int.emod_lt_of_pos k (show 0 < g.w by omega)
  have d1 := Int.ediv_nonneg h0 (show 0 ≤ g.w by omega)
  have d2 : k / g.w < g.h := Int.ediv_lt_of_lt_mul (show 0 < g.w by omega) (by rw [Int.mul_comm]; omega)
  exact ⟨Int.tmod_eq_emod_of_nonneg h0, Int.tdiv_eq_ediv_of_nonneg h0, ⟨m1, m2⟩, d1, d2⟩
/-! ### Walls -/
structure brk (k b : Int) : Prop where
  k0 : 0 ≤ k
  k3 : k ≤ 3
  lo : min k 1 ≤ b
  hi : b ≤ min k 1 * 9
instance (k b : Int) : Decidable (brk k b) := decidable_of_iff ((0 ≤ k ∧ k ≤ 3) ∧ min k 1 ≤ b ∧ b ≤ min k 1 * 9) ⟨fun h => ⟨h.1.1, h.1.2, h.2.1, h.2.2⟩, fun h => ⟨⟨h.k0, h.k3⟩, h.lo, h.hi⟩⟩
theorem brk_no {k b : Int} (h : ¬ ((0 ≤ k ∧ k ≤ 3) ∧ min k 1 ≤ b ∧ b ≤ min k 1 * 9)) : ¬ brk k b := fun q => h ⟨⟨q.k0, q.k3⟩, q.lo, q.hi⟩
theorem brk_of {k b : Int} (h : (0 ≤ k ∧ k ≤ 3) ∧ min k 1 ≤ b ∧ b ≤ min k 1 * 9) : brk k b := ⟨h.1.1, h.1.2, h.2.1, h.2.2⟩
def walB (g : Grd) (w : Wal) : Bool := decide (g.ok = true ∧ w.k.length = g.cs.length ∧ w.b.length = g.cs.length ∧ ∀ i, i < g.cs.length → brk (w.k.getD i 0) (w.b.getD i 0))
theorem wal_ok {g : Grd} {w : Wal} (h : walB g w = true) : g.ok = true ∧ w.k.length = g.cs.length ∧ w.b.length = g.cs.length ∧ ∀ i, i < g.cs.length → brk (w.k.getD i 0) (w.b.getD i 0) := of_decide_eq_true h
theorem wal_ways (g : Grd) (w : Wal) : (g.ok = false ∧ walB g w = false) ∨ (g.ok = true ∧ w.k.length ≠ g.cs.length ∧ walB g w = false) ∨ (g.ok = true ∧ w.k.length = g.cs.length ∧ w.b.length ≠ g.cs.length ∧ walB g w = false) ∨
    (g.ok = true ∧ w.k.length = g.cs.length ∧ w.b.length = g.cs.length ∧ True) := by
  cases hv : g.ok
  · exact .inl ⟨rfl, decide_eq_false fun q => by rw [hv] at q; cases q.1⟩
  · by_cases h1 : w.k.length = g.cs.length
    · by_cases h2 : w.b.length = g.cs.length
      · exact .inr (.inr (.inr ⟨rfl, h1, h2, trivial⟩))
      · exact .inr (.inr (.inl ⟨rfl, h1, h2, decide_eq_false fun q => h2 q.2.2.1⟩))
    · exact .inr (.inl ⟨rfl, h1, decide_eq_false fun q => h1 q.2.1⟩)
theorem wal_f {g : Grd} {w : Wal} {k : Nat} (hk : k < g.cs.length) (h : ¬ brk (w.k.getD k 0) (w.b.getD k 0)) : walB g w = false := decide_eq_false fun q => h (q.2.2.2 k hk)
theorem wal_t {g : Grd} {w : Wal} (h0 : g.ok = true) (h1 : w.k.length = g.cs.length) (h2 : w.b.length = g.cs.length) (h : ∀ i, i < g.cs.length → brk (w.k.getD i 0) (w.b.getD i 0)) : walB g w = true := decide_eq_true ⟨h0, h1, h2, h⟩
theorem brk_more {w : Wal} {k : Nat} (h : ∀ j, j < k → brk (w.k.getD j 0) (w.b.getD j 0)) (hk : brk (w.k.getD k 0) (w.b.getD k 0)) : ∀ j, j < k + 1 → brk (w.k.getD j 0) (w.b.getD j 0) := fun j hj => by
  by_cases e : j = k
  · subst e; exact hk
  · exact h j (by omega)
/-- What a kind of wall makes of a cell. -/
def wsent (k : Int) (c : Cel) : Cel := if k = 1 then ⟨c.w, c.s, c.e, c.n⟩ else if k = 2 then ⟨c.n, c.e, c.s, c.w⟩ else if k = 3 then ⟨c.s, c.w, c.n, c.e⟩ else c
theorem wsent_ok {k : Int} {c : Cel} (h : c.ok = true) : (wsent k c).ok = true := by
  have h1 := Cel.ok_iff.1 h
  refine Cel.ok_iff.2 ?_
  unfold wsent
  split
  · simp only; omega
  · split
    · simp only; omega
    · split
      · simp only; omega
      · exact h1
def sntE (c : Cel) (k : Int) : Int := if c.ok then (if 0 ≤ k ∧ k ≤ 3 then 0 else 7) else 1
def sntR (c : Cel) (k : Int) : Cel := if sntE c k = 0 then wsent k c else ⟨0, 0, 0, 0⟩
theorem snt_ways (c : Cel) (k : Int) : (c.ok = false ∧ sntE c k = 1 ∧ sntR c k = ⟨0, 0, 0, 0⟩) ∨ (c.ok = true ∧ ¬ (0 ≤ k ∧ k ≤ 3) ∧ sntE c k = 7 ∧ sntR c k = ⟨0, 0, 0, 0⟩) ∨ (c.ok = true ∧ (0 ≤ k ∧ k ≤ 3) ∧ sntE c k = 0 ∧ sntR c k = wsent k c) := by
  cases hv : c.ok
  · exact .inl ⟨rfl, by simp [sntE, hv], by simp [sntR, sntE, hv]⟩
  · by_cases hk : 0 ≤ k ∧ k ≤ 3
    · exact .inr (.inr ⟨rfl, hk, by simp only [sntE, hv, if_true, if_pos hk], by simp only [sntR, sntE, hv, if_true, if_pos hk]⟩)
    · exact .inr (.inl ⟨rfl, hk, by simp only [sntE, hv, if_true, if_neg hk], by simp only [sntR, sntE, hv, if_true, if_neg hk]; rfl⟩)
/-- A cell after the collision, or the wall, of a step. -/
def metC (r : Rul) (k : Int) (c : Cel) : Cel := if k = 0 then c.after r else wsent k c
theorem metC_ok {r : Rul} {k : Int} {c : Cel} (h : c.ok = true) (hr : r.ok = true) : (metC r k c).ok = true := by
  unfold metC
  split
  · exact Cel.after_ok h hr
  · exact wsent_ok h
theorem collide_ok {c : Cel} {r : Rul} (h : c.ok = true) (hr : r.ok = true) : c.collide r = (c.after r, 0) := by simp [Cel.collide, h, hr]
/-! ### What flows -/
def alg (d axis : Int) : Int := if d % 2 = axis then (if d < 2 then 1 else -1) else 0
def dirV (c : Cel) (d : Nat) : Int := match d with
  | 0 => c.e
  | 1 => c.n
  | 2 => c.w
  | _ => c.s
def cntV (axis : Int) (c : Cel) (d : Nat) : Int := dirV c d * alg d axis
theorem alg_mul {a : Int} (h : 0 ≤ a ∧ a ≤ 1000000000) (d axis : Int) : -1000000000 ≤ a * alg d axis ∧ a * alg d axis ≤ 1000000000 := by
  unfold alg
  split
  · split <;> omega
  · omega
theorem alg_mulC {a : Int} (h : 0 ≤ a ∧ a ≤ 1000000000) (d axis : Int) : -1000000000 ≤ alg d axis * a ∧ alg d axis * a ≤ 1000000000 := by rw [Int.mul_comm]; exact alg_mul h d axis
def nxX (g : Grd) (k : Int) (d : Nat) : Int := match d with
  | 0 => (k % g.w + 1) % g.w
  | 2 => (k % g.w + g.w - 1) % g.w
  | _ => k % g.w
def nxY (g : Grd) (k : Int) (d : Nat) : Int := match d with
  | 1 => (k / g.w + 1) % g.h
  | 3 => (k / g.w + g.h - 1) % g.h
  | _ => k / g.w
theorem nx_in {g : Grd} (hg : g.ok = true) {k : Int} (h0 : 0 ≤ k) (h1 : k < g.cs.length) (d : Nat) : (0 ≤ nxX g k d ∧ nxX g k d < g.w) ∧ 0 ≤ nxY g k d ∧ nxY g k d < g.h := by
  have hb := gok_bds hg
  have hk := k_at hg h0 h1
  have e1 := fun a : Int => Int.emod_nonneg a (show g.w ≠ 0 by omega)
  have e2 := fun a : Int => Int.emod_lt_of_pos a (show 0 < g.w by omega)
  have e3 := fun a : Int => Int.emod_nonneg a (show g.h ≠ 0 by omega)
  have e4 := fun a : Int => Int.emod_lt_of_pos a (show 0 < g.h by omega)
  refine ⟨?_, ?_⟩
  · unfold nxX; split
    · exact ⟨e1 _, e2 _⟩
    · exact ⟨e1 _, e2 _⟩
    · exact hk.2.2.1
  · unfold nxY; split
    · exact ⟨e3 _, e4 _⟩
    · exact ⟨e3 _, e4 _⟩
    · exact hk.2.2.2
def nxK (g : Grd) (k : Int) (d : Nat) : Int := nxX g k d + g.w * nxY g k d
theorem nxK_at {g : Grd} (hg : g.ok = true) {k : Int} (h0 : 0 ≤ k) (h1 : k < g.cs.length) (d : Nat) : (nxK g k d) % g.w = nxX g k d ∧ (nxK g k d) / g.w = nxY g k d ∧ 0 ≤ nxK g k d ∧ nxK g k d < g.cs.length := by
  have hb := gok_bds hg
  have hn := nx_in hg h0 h1 d
  have h2 : g.w * nxY g k d ≤ g.w * (g.h - 1) := Int.mul_le_mul_of_nonneg_left (by omega) (by omega)
  have h3 : 0 ≤ g.w * nxY g k d := Int.mul_nonneg (by omega) (by omega)
  have h4 : g.w * (g.h - 1) = g.w * g.h - g.w := by rw [Int.mul_sub, Int.mul_one]
  refine ⟨?_, ?_, ?_, ?_⟩
  · unfold nxK; rw [Int.add_mul_emod_self_left]; exact Int.emod_eq_of_lt hn.1.1 hn.1.2
  · unfold nxK; rw [Int.add_mul_ediv_left _ _ (by omega), Int.ediv_eq_zero_of_lt hn.1.1 hn.1.2, Int.zero_add]
  · unfold nxK; omega
  · unfold nxK; omega
theorem inK_nx {g : Grd} (hg : g.ok = true) {k : Int} (h0 : 0 ≤ k) (h1 : k < g.cs.length) (d : Nat) (x : Cel) : inK g x (nxK g k d) = inQ x (nxX g k d) (nxY g k d) := by
  have h := nxK_at hg h0 h1 d
  unfold inK; rw [h.1, h.2.1]
def toB (g : Grd) (x : Cel) (k : Int) (d : Nat) : Bool := inQ x (nxX g k d) (nxY g k d)
def flD (g : Grd) (x : Cel) (axis : Int) (c : Cel) (k : Int) (p : Int × Int) : Nat → Int × Int
  | 0 => p
  | d + 1 => (if !inK g x k && toB g x k d then (flD g x axis c k p d).1 + cntV axis c d else (flD g x axis c k p d).1, if inK g x k && !toB g x k d then (flD g x axis c k p d).2 + cntV axis c d else (flD g x axis c k p d).2)
def flS (g : Grd) (w : Wal) (r : Rul) (x : Cel) (axis : Int) : Nat → Int × Int
  | 0 => (0, 0)
  | k + 1 => flD g x axis (metC r (w.k.getD k 0) (g.cs.getD k default)) k (flS g w r x axis k) 4
/-- Where the reference finds the neighbours. -/
theorem to_ref {g : Grd} (hok : g.ok = true) {k : Int} (hk : k.tmod g.w = k % g.w ∧ k.tdiv g.w = k / g.w ∧ (0 ≤ k % g.w ∧ k % g.w < g.w) ∧ 0 ≤ k / g.w ∧ k / g.w < g.h) (X : Cel) :
    inQ X ((k.tmod g.w + 1 + g.w).tmod g.w) ((k.tdiv g.w + 0 + g.h).tmod g.h) = toB g X k 0 ∧ inQ X ((k.tmod g.w + 0 + g.w).tmod g.w) ((k.tdiv g.w + 1 + g.h).tmod g.h) = toB g X k 1 ∧
    inQ X ((k.tmod g.w + -1 + g.w).tmod g.w) ((k.tdiv g.w + 0 + g.h).tmod g.h) = toB g X k 2 ∧ inQ X ((k.tmod g.w + 0 + g.w).tmod g.w) ((k.tdiv g.w + -1 + g.h).tmod g.h) = toB g X k 3 := by
  have hb := gok_bds hok
  obtain ⟨e1, e2, hx, hy⟩ := hk
  rw [e1, e2]
  have m : ∀ {p n : Int}, 0 ≤ p → p < n → (p + 0 + n).tmod n = p := fun {p n} h1 h2 => by
    rw [Int.tmod_eq_emod_of_nonneg (by omega), Int.add_zero, Int.add_emod_right]; exact Int.emod_eq_of_lt h1 h2
  have u : ∀ {p n : Int}, 0 ≤ p → p < n → (p + 1 + n).tmod n = (p + 1) % n := fun {p n} h1 h2 => by
    rw [Int.tmod_eq_emod_of_nonneg (by omega), Int.add_emod_right]
  have d : ∀ {p n : Int}, 0 ≤ p → p < n → (p + -1 + n).tmod n = (p + n - 1) % n := fun {p n} h1 h2 => by
    rw [Int.tmod_eq_emod_of_nonneg (by omega)]; congr 1; omega
  refine ⟨?_, ?_, ?_, ?_⟩
  · rw [u hx.1 hx.2, m hy.1 hy.2]; rfl
  · rw [m hx.1 hx.2, u hy.1 hy.2]; rfl
  · rw [d hx.1 hx.2, m hy.1 hy.2]; rfl
  · rw [m hx.1 hx.2, d hy.1 hy.2]; rfl
theorem flD_tf {g : Grd} {x : Cel} {axis : Int} {c : Cel} {k : Int} {p : Int × Int} {d : Nat} (h1 : inK g x k = true) (h2 : toB g x k d = false) : flD g x axis c k p (d + 1) = ((flD g x axis c k p d).1, (flD g x axis c k p d).2 + cntV axis c d) := by simp [flD, h1, h2]
theorem flD_ft {g : Grd} {x : Cel} {axis : Int} {c : Cel} {k : Int} {p : Int × Int} {d : Nat} (h1 : inK g x k = false) (h2 : toB g x k d = true) : flD g x axis c k p (d + 1) = ((flD g x axis c k p d).1 + cntV axis c d, (flD g x axis c k p d).2) := by simp [flD, h1, h2]
theorem flD_tt {g : Grd} {x : Cel} {axis : Int} {c : Cel} {k : Int} {p : Int × Int} {d : Nat} (h1 : inK g x k = true) (h2 : toB g x k d = true) : flD g x axis c k p (d + 1) = flD g x axis c k p d := by simp [flD, h1, h2]
theorem flD_ff {g : Grd} {x : Cel} {axis : Int} {c : Cel} {k : Int} {p : Int × Int} {d : Nat} (h1 : inK g x k = false) (h2 : toB g x k d = false) : flD g x axis c k p (d + 1) = flD g x axis c k p d := by simp [flD, h1, h2]
theorem cntV_bd {axis : Int} {c : Cel} (h : c.ok = true) (d : Nat) : -1000000000 ≤ cntV axis c d ∧ cntV axis c d ≤ 1000000000 := by
  have := Cel.ok_iff.1 h
  refine alg_mul ?_ _ _
  unfold dirV
  split <;> omega
theorem flD_bd {g : Grd} {x : Cel} {axis : Int} {c : Cel} {k : Int} {p : Int × Int} (h : c.ok = true) {m : Int} (hp : (-m ≤ p.1 ∧ p.1 ≤ m) ∧ -m ≤ p.2 ∧ p.2 ≤ m) : ∀ d : Nat, (-(m + 1000000000 * d) ≤ (flD g x axis c k p d).1 ∧ (flD g x axis c k p d).1 ≤ m + 1000000000 * d) ∧ -(m + 1000000000 * d) ≤ (flD g x axis c k p d).2 ∧ (flD g x axis c k p d).2 ≤ m + 1000000000 * d
  | 0 => by simp only [flD]; omega
  | d + 1 => by
    have ih := flD_bd (x := x) (g := g) (axis := axis) (k := k) h hp d
    have hc := cntV_bd (axis := axis) h d
    simp only [flD]
    refine ⟨?_, ?_⟩ <;> split <;> omega
theorem flS_bd {g : Grd} {w : Wal} {r : Rul} (hg : g.ok = true) (hr : r.ok = true) (x : Cel) (axis : Int) : ∀ k : Nat, k ≤ g.cs.length → (-(4000000000 * (k : Int)) ≤ (flS g w r x axis k).1 ∧ (flS g w r x axis k).1 ≤ 4000000000 * k) ∧ -(4000000000 * (k : Int)) ≤ (flS g w r x axis k).2 ∧ (flS g w r x axis k).2 ≤ 4000000000 * k
  | 0, _ => by simp [flS]
  | k + 1, hk => by
    have ih := flS_bd hg hr (w := w) x axis k (by omega)
    have hc : (g.cs.getD k default).ok = true := okL_iff.1 (gok_okL hg) _ (getD_mem default (by omega))
    have := flD_bd (g := g) (x := x) (axis := axis) (k := (k : Int)) (metC_ok (k := w.k.getD k 0) hc hr) ih 4
    simp only [flS]
    omega
/-! ### What the layer answers -/
def momE (g : Grd) (a d : Pnt) (axis : Int) : Int := if g.ok then (if onG g a d ∧ 0 ≤ axis ∧ axis ≤ 1 then 0 else 7) else 1
def momR (g : Grd) (a d : Pnt) (axis : Int) : Int := if momE g a d axis = 0 then momS g (boxC a d) axis g.cs.length else 0
theorem mom_ways (g : Grd) (a d : Pnt) (axis : Int) : (g.ok = false ∧ True ∧ True ∧ momE g a d axis = 1 ∧ momR g a d axis = 0) ∨ (g.ok = true ∧ decide (onG g a d) = false ∧ decide (onG g a d ∧ 0 ≤ axis ∧ axis ≤ 1) = false ∧ momE g a d axis = 7 ∧ momR g a d axis = 0) ∨
    (g.ok = true ∧ decide (onG g a d) = true ∧ decide (onG g a d ∧ 0 ≤ axis ∧ axis ≤ 1) = false ∧ momE g a d axis = 7 ∧ momR g a d axis = 0 ∧ ¬ (0 ≤ axis ∧ axis ≤ 1)) ∨
    (g.ok = true ∧ decide (onG g a d) = true ∧ decide (onG g a d ∧ 0 ≤ axis ∧ axis ≤ 1) = true ∧ momE g a d axis = 0 ∧ momR g a d axis = momS g (boxC a d) axis g.cs.length ∧ 0 ≤ axis ∧ axis ≤ 1) := by
  cases hv : g.ok
  · exact .inl ⟨rfl, trivial, trivial, by simp [momE, hv], by simp [momR, momE, hv]⟩
  · by_cases ho : onG g a d
    · by_cases hx : 0 ≤ axis ∧ axis ≤ 1
      · exact .inr (.inr (.inr ⟨rfl, decide_eq_true ho, decide_eq_true ⟨ho, hx⟩, by simp only [momE, hv, if_true, if_pos (And.intro ho hx)], by simp only [momR, momE, hv, if_true, if_pos (And.intro ho hx)], hx⟩))
      · have h9 : ¬ (onG g a d ∧ 0 ≤ axis ∧ axis ≤ 1) := fun q => hx q.2
        exact .inr (.inr (.inl ⟨rfl, decide_eq_true ho, decide_eq_false h9, by simp only [momE, hv, if_true, if_neg h9], by simp only [momR, momE, hv, if_true, if_neg h9]; rfl, hx⟩))
    · have h9 : ¬ (onG g a d ∧ 0 ≤ axis ∧ axis ≤ 1) := fun q => ho q.1
      exact .inr (.inl ⟨rfl, decide_eq_false ho, decide_eq_false h9, by simp only [momE, hv, if_true, if_neg h9], by simp only [momR, momE, hv, if_true, if_neg h9]; rfl⟩)
def askE (g : Grd) (w : Wal) (l : List Rul) : Int := if walB g w && rulesB l then 0 else 1
theorem ask_ways (g : Grd) (w : Wal) (l : List Rul) : (g.ok = false ∧ walB g w = false ∧ True ∧ askE g w l = 1) ∨ (g.ok = true ∧ walB g w = false ∧ True ∧ askE g w l = 1) ∨ (g.ok = true ∧ walB g w = true ∧ rulesB l = false ∧ askE g w l = 1) ∨ (g.ok = true ∧ walB g w = true ∧ rulesB l = true ∧ askE g w l = 0) := by
  cases hw : walB g w
  · cases hv : g.ok
    · exact .inl ⟨rfl, rfl, trivial, by simp [askE, hw]⟩
    · exact .inr (.inl ⟨rfl, rfl, trivial, by simp [askE, hw]⟩)
  · have hv := (wal_ok hw).1
    cases hr : rulesB l
    · exact .inr (.inr (.inl ⟨hv, rfl, rfl, by simp [askE, hw, hr]⟩))
    · exact .inr (.inr (.inr ⟨hv, rfl, rfl, by simp [askE, hw, hr]⟩))
theorem ask_ok {g : Grd} {w : Wal} {l : List Rul} (h : askE g w l = 0) : g.ok = true := by
  rcases ask_ways g w l with ⟨_, _, _, hA⟩ | ⟨_, _, _, hA⟩ | ⟨_, _, _, hA⟩ | ⟨hv, _, _, _⟩
  · omega
  · omega
  · omega
  · exact hv
theorem rules_at {l : List Rul} {s : Int} (hR : rulesB l = true) (hs : 0 ≤ s ∧ s ≤ 1000000) : (l.getD (s.tmod l.length).toNat default).ok = true := by
  rcases at_cases l s with h | ⟨_, _, _, h⟩ | ⟨_, _, _, _, _, _, h⟩
  · rw [hR] at h; cases h
  · exact absurd hs h
  · exact getD_ok (rulesB_iff.1 hR).2 h
def fluE (g : Grd) (w : Wal) (l : List Rul) (t : Int) (a d : Pnt) (axis : Int) : Int := if askE g w l = 0 then (if (onG g a d ∧ 0 ≤ axis ∧ axis ≤ 1) ∧ 0 ≤ t ∧ t ≤ 1000000 then 0 else 7) else 1
def fluR (g : Grd) (w : Wal) (l : List Rul) (t : Int) (a d : Pnt) (axis : Int) : Int × Int := if fluE g w l t a d axis = 0 then flS g w (atR l t) (boxC a d) axis g.cs.length else (0, 0)
theorem flu_ways (g : Grd) (w : Wal) (l : List Rul) (t : Int) (a d : Pnt) (axis : Int) : (askE g w l = 1 ∧ True ∧ True ∧ fluE g w l t a d axis = 1 ∧ fluR g w l t a d axis = (0, 0) ∧ True ∧ True) ∨
    (askE g w l = 0 ∧ decide (onG g a d) = false ∧ decide (onG g a d ∧ 0 ≤ axis ∧ axis ≤ 1) = false ∧ fluE g w l t a d axis = 7 ∧ fluR g w l t a d axis = (0, 0) ∧ True ∧ True) ∨
    (askE g w l = 0 ∧ decide (onG g a d) = true ∧ decide (onG g a d ∧ 0 ≤ axis ∧ axis ≤ 1) = false ∧ fluE g w l t a d axis = 7 ∧ fluR g w l t a d axis = (0, 0) ∧ ¬ (0 ≤ axis ∧ axis ≤ 1) ∧ True) ∨
    (askE g w l = 0 ∧ decide (onG g a d) = true ∧ decide (onG g a d ∧ 0 ≤ axis ∧ axis ≤ 1) = true ∧ fluE g w l t a d axis = 7 ∧ fluR g w l t a d axis = (0, 0) ∧ ¬ (0 ≤ t ∧ t ≤ 1000000) ∧ atE l t = 7) ∨
    (askE g w l = 0 ∧ decide (onG g a d) = true ∧ decide (onG g a d ∧ 0 ≤ axis ∧ axis ≤ 1) = true ∧ fluE g w l t a d axis = 0 ∧ fluR g w l t a d axis = flS g w (atR l t) (boxC a d) axis g.cs.length ∧ (0 ≤ t ∧ t ≤ 1000000) ∧ atE l t = 0 ∧ (atR l t).ok = true ∧ walB g w = true ∧ 0 ≤ axis ∧ axis ≤ 1) := by
  rcases ask_ways g w l with ⟨_, _, _, hA⟩ | ⟨_, _, _, hA⟩ | ⟨_, _, _, hA⟩ | ⟨_, hW, hR, hA⟩
  · exact .inl ⟨hA, trivial, trivial, by simp [fluE, hA], by simp [fluR, fluE, hA], trivial, trivial⟩
  · exact .inl ⟨hA, trivial, trivial, by simp [fluE, hA], by simp [fluR, fluE, hA], trivial, trivial⟩
  · exact .inl ⟨hA, trivial, trivial, by simp [fluE, hA], by simp [fluR, fluE, hA], trivial, trivial⟩
  · refine .inr ?_
    by_cases ho : onG g a d
    · by_cases hx : 0 ≤ axis ∧ axis ≤ 1
      · by_cases ht : 0 ≤ t ∧ t ≤ 1000000
        · have h8 : (onG g a d ∧ 0 ≤ axis ∧ axis ≤ 1) ∧ 0 ≤ t ∧ t ≤ 1000000 := ⟨⟨ho, hx⟩, ht⟩
          refine .inr (.inr (.inr ⟨hA, decide_eq_true ho, decide_eq_true ⟨ho, hx⟩, by simp only [fluE, hA, if_true, if_pos h8], by simp only [fluR, fluE, hA, if_true, if_pos h8], ht, by simp only [atE, hR, if_true, if_pos ht], ?_, hW, hx⟩))
          unfold atR
          rw [if_pos ⟨hR, ht⟩]
          exact rules_at hR ht
        · have h9 : ¬ ((onG g a d ∧ 0 ≤ axis ∧ axis ≤ 1) ∧ 0 ≤ t ∧ t ≤ 1000000) := fun q => ht q.2
          exact .inr (.inr (.inl ⟨hA, decide_eq_true ho, decide_eq_true ⟨ho, hx⟩, by simp only [fluE, hA, if_true, if_neg h9], by simp only [fluR, fluE, hA, if_true, if_neg h9]; rfl, ht, by simp only [atE, hR, if_true, if_neg ht]⟩))
      · have h9 : ¬ ((onG g a d ∧ 0 ≤ axis ∧ axis ≤ 1) ∧ 0 ≤ t ∧ t ≤ 1000000) := fun q => hx q.1.2
        exact .inr (.inl ⟨hA, decide_eq_true ho, decide_eq_false fun q => hx q.2, by simp only [fluE, hA, if_true, if_neg h9], by simp only [fluR, fluE, hA, if_true, if_neg h9]; rfl, hx, trivial⟩)
    · have h9 : ¬ ((onG g a d ∧ 0 ≤ axis ∧ axis ≤ 1) ∧ 0 ≤ t ∧ t ≤ 1000000) := fun q => ho q.1.1
      exact .inl ⟨hA, decide_eq_false ho, decide_eq_false fun q => ho q.1, by simp only [fluE, hA, if_true, if_neg h9], by simp only [fluR, fluE, hA, if_true, if_neg h9]; rfl, trivial, trivial⟩
end Go.Sy

/- Runs of a grid between walls. -/
set_option linter.unusedSimpArgs false
set_option linter.unusedVariables false
namespace Go.Sy
theorem wsent_m (k : Int) (c : Cel) : (wsent k c).m = c.m := by
  unfold wsent Cel.m
  split
  · simp only; omega
  · split
    · simp only; omega
    · split
      · simp only; omega
      · rfl
theorem metC_m (r : Rul) (k : Int) (c : Cel) : (metC r k c).m = c.m := by
  unfold metC
  split
  · exact (Cel.after_m r).1
  · exact wsent_m k c
def metF (r : Rul) (w : Wal) (cs : List Cel) (j : Nat) : Cel := metC r (w.k.getD j 0) (cs.getD j default)
def metL (r : Rul) (w : Wal) (cs : List Cel) : List Cel := prog (metF r w cs) cs.length cs
theorem metL_length (r : Rul) (w : Wal) (cs : List Cel) : (metL r w cs).length = cs.length := prog_length _ _ _
theorem massL_setW (cs : List Cel) (v : Cel) : ∀ (k : Nat), k < cs.length → massL (cs.set k v) = massL cs - (cs.getD k default).m + v.m := by
  induction cs with
  | nil => intro k hk; simp at hk
  | cons c cs ih =>
    intro k hk
    cases k with
    | zero => simp [massL]; omega
    | succ k =>
      have := ih k (by simpa using hk)
      simp only [List.set_cons_succ, massL, List.getD_cons_succ]; omega
theorem massL_met (r : Rul) (w : Wal) (cs : List Cel) : ∀ k : Nat, k ≤ cs.length → massL (prog (metF r w cs) k cs) = massL cs
  | 0, _ => by rw [prog_zero]
  | k + 1, hk => by
    have ih := massL_met r w cs k (by omega)
    rw [← prog_set (metF r w cs) k cs rfl, massL_setW _ _ k (by rw [prog_length]; omega), ih, prog_getD _ _ _ (by omega), if_neg (Nat.lt_irrefl k)]
    unfold metF
    rw [metC_m]; omega
theorem gok_met {g : Grd} {r : Rul} (hr : r.ok = true) (w : Wal) (h : g.ok = true) : (⟨g.w, g.h, metL r w g.cs⟩ : Grd).ok = true := by
  obtain ⟨h1, h2, h3, h4⟩ := Grd.ok_iff.1 h
  refine gok_mk h1 (by rw [metL_length]; exact h2) (okL_nn (okL_iff.2 fun c hc => ?_)) (by unfold metL; rw [massL_met _ _ _ _ (Nat.le_refl _)]; exact h4)
  unfold metL at hc
  rw [prog_full _ _ (Nat.le_refl _)] at hc
  obtain ⟨j, hj, rfl⟩ := List.mem_map.1 hc
  exact metC_ok (okL_at (gok_okL h) (List.mem_range.1 hj)) hr
def walkC (w h : Int) (u : Wal) (ρ : Nat → Rul) (cs : List Cel) : Nat → List Cel
  | 0 => cs
  | k + 1 => flow w h 1 (metL (ρ k) u (walkC w h u ρ cs k))
theorem walkC_length (w h : Int) (u : Wal) (ρ : Nat → Rul) (cs : List Cel) : ∀ k, (walkC w h u ρ cs k).length = cs.length
  | 0 => rfl
  | k + 1 => by rw [walkC, flow_length, metL_length, walkC_length w h u ρ cs k]
theorem walkC_ok {g : Grd} {u : Wal} {ρ : Nat → Rul} (h : g.ok = true) (hr : ∀ k, (ρ k).ok = true) : ∀ k, (⟨g.w, g.h, walkC g.w g.h u ρ g.cs k⟩ : Grd).ok = true
  | 0 => h
  | k + 1 => gok_flow (g := ⟨g.w, g.h, metL (ρ k) u (walkC g.w g.h u ρ g.cs k)⟩) 1 (gok_met (hr k) u (walkC_ok h hr k))
theorem metF_e {r : Rul} {w : Wal} {cs : List Cel} {j : Nat} (ho : (cs.getD j default).ok = true) (hr : r.ok = true) (h : w.k.getD j 0 = 0) : (Cel.collide (cs.getD j default) r).1 = metF r w cs j := by
  rw [collide_ok ho hr]; unfold metF metC; rw [if_pos h]
theorem metF_a {r : Rul} {w : Wal} {cs : List Cel} {j : Nat} (h : w.k.getD j 0 = 0) : (cs.getD j default).after r = metF r w cs j := by
  unfold metF metC; rw [if_pos h]
theorem metF_n {r : Rul} {w : Wal} {cs : List Cel} {j : Nat} (h : w.k.getD j 0 ≠ 0) : wsent (w.k.getD j 0) (cs.getD j default) = metF r w cs j := by
  unfold metF metC; rw [if_neg h]
def wrunE (g : Grd) (u : Wal) (l : List Rul) (t n : Int) : Int := if walB g u && rulesB l then (if timesP t n then 0 else 7) else 1
def wrunG (g : Grd) (u : Wal) (l : List Rul) (t n : Int) : Grd := if wrunE g u l t n = 0 then ⟨g.w, g.h, walkC g.w g.h u (rho l t) g.cs n.toNat⟩ else ⟨0, 0, []⟩
theorem wrun_ways (g : Grd) (u : Wal) (l : List Rul) (t n : Int) : (walB g u = false ∧ True ∧ True ∧ wrunE g u l t n = 1 ∧ wrunG g u l t n = ⟨0, 0, []⟩) ∨ (walB g u = true ∧ rulesB l = false ∧ True ∧ wrunE g u l t n = 1 ∧ wrunG g u l t n = ⟨0, 0, []⟩) ∨
    (walB g u = true ∧ rulesB l = true ∧ ¬ ((0 ≤ t ∧ t ≤ 1000000) ∧ (0 ≤ n ∧ n ≤ 1000) ∧ (0 < n → t + n - 1 ≤ 1000000)) ∧ wrunE g u l t n = 7 ∧ wrunG g u l t n = ⟨0, 0, []⟩) ∨
    (walB g u = true ∧ rulesB l = true ∧ ((0 ≤ t ∧ t ≤ 1000000) ∧ (0 ≤ n ∧ n ≤ 1000) ∧ (0 < n → t + n - 1 ≤ 1000000)) ∧ wrunE g u l t n = 0 ∧ wrunG g u l t n = ⟨g.w, g.h, walkC g.w g.h u (rho l t) g.cs n.toNat⟩ ∧
      (1 ≤ l.length ∧ l.length ≤ 8) ∧ (1 ≤ g.cs.length ∧ g.cs.length ≤ 1024) ∧ (∀ k, (rho l t k).ok = true ∧ 0 ≤ (t + (k : Int)).tmod (l.length : Int) ∧ (t + (k : Int)).tmod (l.length : Int) < l.length) ∧
      (∀ k, (⟨g.w, g.h, walkC g.w g.h u (rho l t) g.cs k⟩ : Grd).ok = true ∧ okL (walkC g.w g.h u (rho l t) g.cs k) = true ∧ (walkC g.w g.h u (rho l t) g.cs k).length = g.cs.length) ∧
      u.k.length = g.cs.length ∧ u.b.length = g.cs.length ∧ ∀ i, i < g.cs.length → brk (u.k.getD i 0) (u.b.getD i 0)) := by
  have no : wrunE g u l t n ≠ 0 → wrunG g u l t n = ⟨0, 0, []⟩ := fun h => if_neg h
  cases h : walB g u
  · have e : wrunE g u l t n = 1 := by simp [wrunE, h]
    exact .inl ⟨rfl, trivial, trivial, e, no (by omega)⟩
  · cases hr : rulesB l
    · have e : wrunE g u l t n = 1 := by simp [wrunE, hr]
      exact .inr (.inl ⟨rfl, rfl, trivial, e, no (by omega)⟩)
    · by_cases ht : timesP t n
      · have e : wrunE g u l t n = 0 := by simp [wrunE, h, hr, ht]
        obtain ⟨hok, w1, w2, w3⟩ := wal_ok h
        have hb := gok_bds hok
        have h1 := rulesB_iff.1 hr
        have ho := fun k => rho_ok hr ht.1.1 k
        refine .inr (.inr (.inr ⟨rfl, rfl, ht, e, if_pos e, h1.1, by omega, ho, fun k => ?_, w1, w2, w3⟩))
        have := walkC_ok (u := u) hok (fun k => (ho k).1) k
        exact ⟨this, gok_okL this, walkC_length ..⟩
      · have e : wrunE g u l t n = 7 := by simp only [wrunE, h, hr, Bool.and_true, if_true, if_neg ht]
        exact .inr (.inr (.inl ⟨rfl, rfl, ht, e, no (by omega)⟩))
end Go.Sy

/- The gauge of a box over some steps. -/
set_option linter.unusedSimpArgs false
set_option linter.unusedVariables false
namespace Go.Sy
theorem walB_at {g g' : Grd} {u : Wal} (h : walB g u = true) (hg : g'.ok = true) (hl : g'.cs.length = g.cs.length) : walB g' u = true := by
  obtain ⟨_, w1, w2, w3⟩ := wal_ok h
  exact decide_eq_true ⟨hg, by rw [w1, hl], by rw [w2, hl], fun i hi => w3 i (by omega)⟩
/-- The grid after some steps between walls. -/
def wgr (g : Grd) (u : Wal) (l : List Rul) (t : Int) (k : Nat) : Grd := ⟨g.w, g.h, walkC g.w g.h u (rho l t) g.cs k⟩
theorem wgr_zero (g : Grd) (u : Wal) (l : List Rul) (t : Int) : wgr g u l t 0 = g := rfl
theorem rho_more (l : List Rul) (t : Int) (k : Nat) : rho l (t + (k : Int)) 0 = rho l t k := by unfold rho; simp
theorem wgr_ok {g : Grd} {u : Wal} {l : List Rul} {t : Int} (h : walB g u = true) (hr : rulesB l = true) (ht : 0 ≤ t) (k : Nat) : (wgr g u l t k).ok = true ∧ walB (wgr g u l t k) u = true ∧ (wgr g u l t k).cs.length = g.cs.length := by
  have hok := (wal_ok h).1
  have h1 := walkC_ok (u := u) hok (ρ := rho l t) (fun k => (rho_ok hr ht k).1) k
  exact ⟨h1, walB_at h h1 (walkC_length ..), walkC_length ..⟩
/-- A step more. -/
theorem wgr_step {g : Grd} {u : Wal} {l : List Rul} {t : Int} (h : walB g u = true) (hr : rulesB l = true) (ht : 0 ≤ t) {k : Nat} (hk : t + (k : Int) ≤ 1000000) : wrunE (wgr g u l t k) u l (t + k) 1 = 0 ∧ wrunG (wgr g u l t k) u l (t + k) 1 = wgr g u l t (k + 1) := by
  have hw := wgr_ok h hr ht k
  have e : wrunE (wgr g u l t k) u l (t + k) 1 = 0 := by
    unfold wrunE
    rw [hw.2.1, hr, Bool.and_true, if_pos rfl, if_pos (by unfold timesP; omega)]
  refine ⟨e, ?_⟩
  unfold wrunG
  rw [if_pos e]
  show (⟨g.w, g.h, flow g.w g.h 1 (metL (rho l (t + k) 0) u (wgr g u l t k).cs)⟩ : Grd) = _
  rw [rho_more]; rfl
/-- What comes in and goes out in so many steps. -/
def tolS (g : Grd) (u : Wal) (l : List Rul) (t : Int) (x : Cel) (axis : Int) : Nat → Int × Int
  | 0 => (0, 0)
  | k + 1 => ((tolS g u l t x axis k).1 + (flS (wgr g u l t k) u (rho l t k) x axis g.cs.length).1, (tolS g u l t x axis k).2 + (flS (wgr g u l t k) u (rho l t k) x axis g.cs.length).2)
theorem fl_bd {g : Grd} {u : Wal} {l : List Rul} {t : Int} (h : walB g u = true) (hr : rulesB l = true) (ht : 0 ≤ t) (x : Cel) (axis : Int) (k : Nat) : (-5000000000000 ≤ (flS (wgr g u l t k) u (rho l t k) x axis g.cs.length).1 ∧ (flS (wgr g u l t k) u (rho l t k) x axis g.cs.length).1 ≤ 5000000000000) ∧ -5000000000000 ≤ (flS (wgr g u l t k) u (rho l t k) x axis g.cs.length).2 ∧ (flS (wgr g u l t k) u (rho l t k) x axis g.cs.length).2 ≤ 5000000000000 := by
  have hw := wgr_ok h hr ht k
  have hb := gok_bds (wal_ok h).1
  have := flS_bd hw.1 (rho_ok hr ht k).1 (w := u) x axis g.cs.length (by omega)
  omega
theorem tolS_bd {g : Grd} {u : Wal} {l : List Rul} {t : Int} (h : walB g u = true) (hr : rulesB l = true) (ht : 0 ≤ t) (x : Cel) (axis : Int) : ∀ k : Nat, (-(5000000000000 * (k : Int)) ≤ (tolS g u l t x axis k).1 ∧ (tolS g u l t x axis k).1 ≤ 5000000000000 * k) ∧ -(5000000000000 * (k : Int)) ≤ (tolS g u l t x axis k).2 ∧ (tolS g u l t x axis k).2 ≤ 5000000000000 * k
  | 0 => by simp [tolS]
  | k + 1 => by
    have ih := tolS_bd h hr ht x axis k
    have hf := fl_bd h hr ht x axis k
    simp only [tolS]; omega
/-- The gauge of sharp numbers. -/
def tgau (g : Grd) (u : Wal) (l : List Rul) (t s : Int) (a d : Pnt) (axis : Int) : Gau :=
  ⟨t, s, momS g (boxC a d) axis g.cs.length, momS g (boxC a d) axis g.cs.length, (tolS g u l t (boxC a d) axis (s - t).toNat).1, (tolS g u l t (boxC a d) axis (s - t).toNat).1, (tolS g u l t (boxC a d) axis (s - t).toNat).2, (tolS g u l t (boxC a d) axis (s - t).toNat).2,
   momS (wgr g u l t (s - t).toNat) (boxC a d) axis g.cs.length, momS (wgr g u l t (s - t).toNat) (boxC a d) axis g.cs.length⟩
def tolP (g : Grd) (t s : Int) (a d : Pnt) (axis : Int) : Prop := (onG g a d ∧ 0 ≤ axis ∧ axis ≤ 1) ∧ 0 ≤ t ∧ t < s ∧ s ≤ 1000000 ∧ s - t ≤ 1000
instance (g : Grd) (t s : Int) (a d : Pnt) (axis : Int) : Decidable (tolP g t s a d axis) := by unfold tolP; infer_instance
def tolE (g : Grd) (u : Wal) (l : List Rul) (t s : Int) (a d : Pnt) (axis : Int) : Int := if askE g u l = 0 then (if tolP g t s a d axis then (if (tgau g u l t s a d axis).ok then 0 else 4) else 7) else 1
def tolR (g : Grd) (u : Wal) (l : List Rul) (t s : Int) (a d : Pnt) (axis : Int) : Gau := if tolE g u l t s a d axis = 0 then tgau g u l t s a d axis else ⟨0, 0, 0, 0, 0, 0, 0, 0, 0, 0⟩
theorem tol_ways (g : Grd) (u : Wal) (l : List Rul) (t s : Int) (a d : Pnt) (axis : Int) : (askE g u l = 1 ∧ True ∧ True ∧ tolE g u l t s a d axis = 1 ∧ tolR g u l t s a d axis = ⟨0, 0, 0, 0, 0, 0, 0, 0, 0, 0⟩ ∧ True) ∨
    (askE g u l = 0 ∧ decide (onG g a d) = false ∧ decide (onG g a d ∧ 0 ≤ axis ∧ axis ≤ 1) = false ∧ tolE g u l t s a d axis = 7 ∧ tolR g u l t s a d axis = ⟨0, 0, 0, 0, 0, 0, 0, 0, 0, 0⟩ ∧ True) ∨
    (askE g u l = 0 ∧ decide (onG g a d) = true ∧ decide (onG g a d ∧ 0 ≤ axis ∧ axis ≤ 1) = false ∧ tolE g u l t s a d axis = 7 ∧ tolR g u l t s a d axis = ⟨0, 0, 0, 0, 0, 0, 0, 0, 0, 0⟩ ∧ ¬ (0 ≤ axis ∧ axis ≤ 1)) ∨
    (askE g u l = 0 ∧ decide (onG g a d) = true ∧ decide (onG g a d ∧ 0 ≤ axis ∧ axis ≤ 1) = true ∧ tolE g u l t s a d axis = 7 ∧ tolR g u l t s a d axis = ⟨0, 0, 0, 0, 0, 0, 0, 0, 0, 0⟩ ∧ ¬ (0 ≤ t ∧ t < s ∧ s ≤ 1000000 ∧ s - t ≤ 1000)) ∨
    (askE g u l = 0 ∧ decide (onG g a d) = true ∧ decide (onG g a d ∧ 0 ≤ axis ∧ axis ≤ 1) = true ∧ tolE g u l t s a d axis = 4 ∧ tolR g u l t s a d axis = ⟨0, 0, 0, 0, 0, 0, 0, 0, 0, 0⟩ ∧ (0 ≤ t ∧ t < s ∧ s ≤ 1000000 ∧ s - t ≤ 1000) ∧ walB g u = true ∧ rulesB l = true ∧ (0 ≤ axis ∧ axis ≤ 1) ∧ (tgau g u l t s a d axis).ok = false) ∨
    (askE g u l = 0 ∧ decide (onG g a d) = true ∧ decide (onG g a d ∧ 0 ≤ axis ∧ axis ≤ 1) = true ∧ tolE g u l t s a d axis = 0 ∧ tolR g u l t s a d axis = tgau g u l t s a d axis ∧ (0 ≤ t ∧ t < s ∧ s ≤ 1000000 ∧ s - t ≤ 1000) ∧ walB g u = true ∧ rulesB l = true ∧ (0 ≤ axis ∧ axis ≤ 1) ∧ (tgau g u l t s a d axis).ok = true) := by
  rcases ask_ways g u l with ⟨_, _, _, hA⟩ | ⟨_, _, _, hA⟩ | ⟨_, _, _, hA⟩ | ⟨_, hW, hR, hA⟩
  · exact .inl ⟨hA, trivial, trivial, by simp [tolE, hA], by simp [tolR, tolE, hA], trivial⟩
  · exact .inl ⟨hA, trivial, trivial, by simp [tolE, hA], by simp [tolR, tolE, hA], trivial⟩
  · exact .inl ⟨hA, trivial, trivial, by simp [tolE, hA], by simp [tolR, tolE, hA], trivial⟩
  · refine .inr ?_
    by_cases ho : onG g a d
    · by_cases hx : 0 ≤ axis ∧ axis ≤ 1
      · by_cases ht : 0 ≤ t ∧ t < s ∧ s ≤ 1000000 ∧ s - t ≤ 1000
        · have h8 : tolP g t s a d axis := ⟨⟨ho, hx⟩, ht⟩
          cases hq : (tgau g u l t s a d axis).ok
          · have e : tolE g u l t s a d axis = 4 := by simp only [tolE, hA, if_true, if_pos h8, hq, Bool.false_eq_true, if_false]
            exact .inr (.inr (.inr (.inl ⟨hA, decide_eq_true ho, decide_eq_true ⟨ho, hx⟩, e, by unfold tolR; rw [e]; rfl, ht, hW, hR, hx, rfl⟩)))
          · have e : tolE g u l t s a d axis = 0 := by simp only [tolE, hA, if_true, if_pos h8, hq]
            exact .inr (.inr (.inr (.inr ⟨hA, decide_eq_true ho, decide_eq_true ⟨ho, hx⟩, e, if_pos e, ht, hW, hR, hx, rfl⟩)))
        · have h9 : ¬ tolP g t s a d axis := fun q => ht q.2
          have e : tolE g u l t s a d axis = 7 := by simp only [tolE, hA, if_true, if_neg h9]
          exact .inr (.inr (.inl ⟨hA, decide_eq_true ho, decide_eq_true ⟨ho, hx⟩, e, by unfold tolR; rw [e]; rfl, ht⟩))
      · have h9 : ¬ tolP g t s a d axis := fun q => hx q.1.2
        have e : tolE g u l t s a d axis = 7 := by simp only [tolE, hA, if_true, if_neg h9]
        exact .inr (.inl ⟨hA, decide_eq_true ho, decide_eq_false fun q => hx q.2, e, by unfold tolR; rw [e]; rfl, hx⟩)
    · have h9 : ¬ tolP g t s a d axis := fun q => ho q.1.1
      have e : tolE g u l t s a d axis = 7 := by simp only [tolE, hA, if_true, if_neg h9]
      exact .inl ⟨hA, decide_eq_false ho, decide_eq_false fun q => ho q.1, e, by unfold tolR; rw [e]; rfl, trivial⟩
theorem tol_ways2 (g : Grd) (u : Wal) (l : List Rul) (t s : Int) (a d : Pnt) (axis : Int) : (askE g u l = 1 ∧ True ∧ True ∧ tolE g u l t s a d axis = 1 ∧ tolR g u l t s a d axis = ⟨0, 0, 0, 0, 0, 0, 0, 0, 0, 0⟩ ∧ True) ∨
    (askE g u l = 0 ∧ decide (onG g a d) = false ∧ decide (onG g a d ∧ 0 ≤ axis ∧ axis ≤ 1) = false ∧ tolE g u l t s a d axis = 7 ∧ tolR g u l t s a d axis = ⟨0, 0, 0, 0, 0, 0, 0, 0, 0, 0⟩ ∧ True) ∨
    (askE g u l = 0 ∧ decide (onG g a d) = true ∧ decide (onG g a d ∧ 0 ≤ axis ∧ axis ≤ 1) = false ∧ tolE g u l t s a d axis = 7 ∧ tolR g u l t s a d axis = ⟨0, 0, 0, 0, 0, 0, 0, 0, 0, 0⟩ ∧ ¬ (0 ≤ axis ∧ axis ≤ 1)) ∨
    (askE g u l = 0 ∧ decide (onG g a d) = true ∧ decide (onG g a d ∧ 0 ≤ axis ∧ axis ≤ 1) = true ∧ tolE g u l t s a d axis = 7 ∧ tolR g u l t s a d axis = ⟨0, 0, 0, 0, 0, 0, 0, 0, 0, 0⟩ ∧ ¬ (0 ≤ t ∧ t < s ∧ s ≤ 1000000 ∧ s - t ≤ 1000)) ∨
    (askE g u l = 0 ∧ decide (onG g a d) = true ∧ decide (onG g a d ∧ 0 ≤ axis ∧ axis ≤ 1) = true ∧ True ∧ True ∧ (0 ≤ t ∧ t < s ∧ s ≤ 1000000 ∧ s - t ≤ 1000) ∧ walB g u = true ∧ rulesB l = true ∧ (0 ≤ axis ∧ axis ≤ 1) ∧
      (((tgau g u l t s a d axis).ok = false ∧ tolE g u l t s a d axis = 4 ∧ tolR g u l t s a d axis = ⟨0, 0, 0, 0, 0, 0, 0, 0, 0, 0⟩) ∨ ((tgau g u l t s a d axis).ok = true ∧ tolE g u l t s a d axis = 0 ∧ tolR g u l t s a d axis = tgau g u l t s a d axis))) := by
  rcases tol_ways g u l t s a d axis with h | h | h | h | ⟨h1, h2, h3, h4, h5, h6, h7, h8, h9, h⟩ | ⟨h1, h2, h3, h4, h5, h6, h7, h8, h9, h⟩
  · exact .inl h
  · exact .inr (.inl h)
  · exact .inr (.inr (.inl h))
  · exact .inr (.inr (.inr (.inl h)))
  · exact .inr (.inr (.inr (.inr ⟨h1, h2, h3, trivial, trivial, h6, h7, h8, h9, .inl ⟨h, h4, h5⟩⟩)))
  · exact .inr (.inr (.inr (.inr ⟨h1, h2, h3, trivial, trivial, h6, h7, h8, h9, .inr ⟨h, h4, h5⟩⟩)))
theorem at_rho {l : List Rul} {t : Int} {k : Nat} (hR : rulesB l = true) (ht : 0 ≤ t) (hk : t + (k : Int) ≤ 1000000) : atR l (t + k) = rho l t k ∧ atE l (t + k) = 0 ∧ (atR l (t + k)).ok = true := by
  have h2 : 0 ≤ t + (k : Int) ∧ t + (k : Int) ≤ 1000000 := by omega
  have e : atR l (t + k) = rho l t k := by unfold atR; rw [if_pos ⟨hR, h2⟩]; rfl
  exact ⟨e, by simp only [atE, hR, if_true, if_pos h2], by rw [e]; exact (rho_ok hR ht k).1⟩
theorem wgr_mom {g : Grd} {u : Wal} {l : List Rul} {t : Int} (h : walB g u = true) (hr : rulesB l = true) (ht : 0 ≤ t) (x : Cel) (axis : Int) (k : Nat) : -(2000000000 * (g.cs.length : Int)) ≤ momS (wgr g u l t k) x axis g.cs.length ∧ momS (wgr g u l t k) x axis g.cs.length ≤ 2000000000 * (g.cs.length : Int) := momS_bd (wgr_ok h hr ht k).1 x axis _
/-- The reference's walk over a cell. -/
theorem prg_at {r : Rul} {u : Wal} {cs : List Cel} {k : Nat} (hk : k < cs.length) : (prog (metF r u cs) k cs).getD k default = cs.getD k default := by rw [prog_getD _ _ _ hk, if_neg (Nat.lt_irrefl k)]
theorem metP_a {r : Rul} {u : Wal} {cs : List Cel} {k : Nat} (hk : k < cs.length) (h : u.k.getD k 0 = 0) : prog (metF r u cs) (k + 1) cs = (prog (metF r u cs) k cs).set k (((prog (metF r u cs) k cs).getD k default).after r) := by
  rw [prg_at hk, metF_a h]; exact (prog_set _ _ _ rfl).symm
theorem metP_n {r : Rul} {u : Wal} {cs : List Cel} {k : Nat} (hk : k < cs.length) (h : u.k.getD k 0 ≠ 0) : prog (metF r u cs) (k + 1) cs = (prog (metF r u cs) k cs).set k (wsent (u.k.getD k 0) ((prog (metF r u cs) k cs).getD k default)) := by
  rw [prg_at hk, metF_n h]; exact (prog_set _ _ _ rfl).symm
theorem metQ_e {r : Rul} {u : Wal} {cs : List Cel} {k : Nat} (ho : (cs.getD k default).ok = true) (hr : r.ok = true) (h : u.k.getD k 0 = 0) : prog (metF r u cs) (k + 1) cs = (prog (metF r u cs) k cs).set k (Cel.collide (cs.getD k default) r).1 := by
  rw [metF_e ho hr h]; exact (prog_set _ _ _ rfl).symm
theorem metQ_n {r : Rul} {u : Wal} {cs : List Cel} {k : Nat} (h : u.k.getD k 0 ≠ 0) : prog (metF r u cs) (k + 1) cs = (prog (metF r u cs) k cs).set k (wsent (u.k.getD k 0) (cs.getD k default)) := by
  rw [metF_n h]; exact (prog_set _ _ _ rfl).symm
theorem metL_prog (r : Rul) (u : Wal) {cs : List Cel} {k : Nat} (hk : cs.length ≤ k) : prog (metF r u cs) k cs = metL r u cs := by
  unfold metL; rw [prog_full _ _ hk, prog_full _ _ (Nat.le_refl _)]
theorem strm_met {w h : Int} {r : Rul} {u : Wal} {cs : List Cel} {j : Nat} (hok : (⟨w, h, cs⟩ : Grd).ok = true) (hr : r.ok = true) (hj : cs.length ≤ j) : streamG 1 ⟨w, h, prog (metF r u cs) j cs⟩ = ⟨w, h, flow w h 1 (metL r u cs)⟩ := by
  rw [metL_prog _ _ hj]; exact if_pos (gok_met hr u hok)
end Go.Sy

/- What bodies are given, step by step; the momentum of a grid between walls. -/
set_option linter.unusedSimpArgs false
set_option linter.unusedVariables false
namespace Go.Sy
theorem wrun_ok {g : Grd} {u : Wal} {l : List Rul} {t n : Int} (h : wrunE g u l t n = 0) : walB g u = true ∧ rulesB l = true ∧ ((0 ≤ t ∧ t ≤ 1000000) ∧ (0 ≤ n ∧ n ≤ 1000) ∧ (0 < n → t + n - 1 ≤ 1000000)) ∧ (1 ≤ l.length ∧ l.length ≤ 8) := by
  rcases wrun_ways g u l t n with ⟨_, _, _, hE, _⟩ | ⟨_, _, _, hE, _⟩ | ⟨_, _, _, hE, _⟩ | ⟨hv, hr, hn, _, _, hl, _⟩
  · omega
  · omega
  · omega
  · exact ⟨hv, hr, hn, hl⟩
def dlE (k : Int) (c : Cel) : Int := (wsent k c).e - (wsent k c).w - c.e + c.w
def dlN (k : Int) (c : Cel) : Int := (wsent k c).n - (wsent k c).s - c.n + c.s
def impE (u : Wal) (cs : List Cel) (b : Int) : Nat → Int
  | 0 => 0
  | i + 1 => impE u cs b i + (if u.b.getD i 0 = b then dlE (u.k.getD i 0) (cs.getD i default) else 0)
def impN (u : Wal) (cs : List Cel) (b : Int) : Nat → Int
  | 0 => 0
  | i + 1 => impN u cs b i + (if u.b.getD i 0 = b then dlN (u.k.getD i 0) (cs.getD i default) else 0)
theorem impE_y {u : Wal} {cs : List Cel} {b : Int} {i : Nat} (h : u.b.getD i 0 = b) : impE u cs b (i + 1) = impE u cs b i + ((wsent (u.k.getD i 0) (cs.getD i default)).e - (wsent (u.k.getD i 0) (cs.getD i default)).w - (cs.getD i default).e + (cs.getD i default).w) := by simp only [impE, if_pos h, dlE]
theorem impE_n {u : Wal} {cs : List Cel} {b : Int} {i : Nat} (h : u.b.getD i 0 ≠ b) : impE u cs b (i + 1) = impE u cs b i := by simp only [impE, if_neg h, Int.add_zero]
theorem impN_y {u : Wal} {cs : List Cel} {b : Int} {i : Nat} (h : u.b.getD i 0 = b) : impN u cs b (i + 1) = impN u cs b i + ((wsent (u.k.getD i 0) (cs.getD i default)).n - (wsent (u.k.getD i 0) (cs.getD i default)).s - (cs.getD i default).n + (cs.getD i default).s) := by simp only [impN, if_pos h, dlN]
theorem impN_n {u : Wal} {cs : List Cel} {b : Int} {i : Nat} (h : u.b.getD i 0 ≠ b) : impN u cs b (i + 1) = impN u cs b i := by simp only [impN, if_neg h, Int.add_zero]
theorem cel_bds {c : Cel} (h : c.ok = true) (k : Int) : ((0 ≤ c.e ∧ c.e ≤ 1000000000) ∧ (0 ≤ c.n ∧ c.n ≤ 1000000000) ∧ (0 ≤ c.w ∧ c.w ≤ 1000000000) ∧ 0 ≤ c.s ∧ c.s ≤ 1000000000) ∧ ((0 ≤ (wsent k c).e ∧ (wsent k c).e ≤ 1000000000) ∧ (0 ≤ (wsent k c).n ∧ (wsent k c).n ≤ 1000000000) ∧ (0 ≤ (wsent k c).w ∧ (wsent k c).w ≤ 1000000000) ∧ 0 ≤ (wsent k c).s ∧ (wsent k c).s ≤ 1000000000) := by
  have h1 := Cel.ok_iff.1 h
  have h2 := Cel.ok_iff.1 (wsent_ok (k := k) h)
  omega
theorem imp_bd {u : Wal} {cs : List Cel} (ho : okL cs = true) (b : Int) : ∀ i : Nat, i ≤ cs.length → (-(4000000000 * (i : Int)) ≤ impE u cs b i ∧ impE u cs b i ≤ 4000000000 * i) ∧ -(4000000000 * (i : Int)) ≤ impN u cs b i ∧ impN u cs b i ≤ 4000000000 * i
  | 0, _ => by simp [impE, impN]
  | i + 1, hi => by
    have ih := imp_bd ho b (u := u) i (by omega)
    have hc := cel_bds (okL_at ho (i := i) (by omega)) (u.k.getD i 0)
    simp only [impE, impN, dlE, dlN]
    refine ⟨?_, ?_⟩ <;> split <;> omega
def drgS (g : Grd) (u : Wal) (l : List Rul) (t : Int) (b : Int) : Nat → Int × Int
  | 0 => (0, 0)
  | k + 1 => ((drgS g u l t b k).1 + impE u (wgr g u l t k).cs b g.cs.length, (drgS g u l t b k).2 + impN u (wgr g u l t k).cs b g.cs.length)
theorem drgS_bd {g : Grd} {u : Wal} {l : List Rul} {t : Int} (h : walB g u = true) (hr : rulesB l = true) (ht : 0 ≤ t) (b : Int) : ∀ k : Nat, (-(5000000000000 * (k : Int)) ≤ (drgS g u l t b k).1 ∧ (drgS g u l t b k).1 ≤ 5000000000000 * k) ∧ -(5000000000000 * (k : Int)) ≤ (drgS g u l t b k).2 ∧ (drgS g u l t b k).2 ≤ 5000000000000 * k
  | 0 => by simp [drgS]
  | k + 1 => by
    have ih := drgS_bd h hr ht b k
    have hw := wgr_ok h hr ht k
    have hb := gok_bds (wal_ok h).1
    have hi := imp_bd (u := u) (gok_okL hw.1) b g.cs.length (by omega)
    simp only [drgS]; omega
/-! ### Which bodies there are -/
def cntB (u : Wal) (b : Int) : Nat → Int
  | 0 => 0
  | i + 1 => cntB u b i + (if u.b.getD i 0 = b then 1 else 0)
theorem cntB_bd (u : Wal) (b : Int) : ∀ i : Nat, 0 ≤ cntB u b i ∧ cntB u b i ≤ i
  | 0 => by simp [cntB]
  | i + 1 => by have := cntB_bd u b i; simp only [cntB]; split <;> omega
theorem cntB_no {u : Wal} {b : Int} : ∀ {n : Nat}, cntB u b n = 0 → ∀ i, i < n → u.b.getD i 0 ≠ b
  | 0, _, i, hi => by omega
  | n + 1, h, i, hi => by
    have hb := cntB_bd u b n
    simp only [cntB] at h
    have h1 : cntB u b n = 0 := by revert h; split <;> omega
    have h2 : u.b.getD n 0 ≠ b := by intro e; rw [if_pos e] at h; omega
    by_cases e : i = n
    · subst e; exact h2
    · exact cntB_no h1 i (by omega)
def cntM (u : Wal) : Nat → List (Int × Int)
  | 0 => []
  | i + 1 => putA (cntM u i) (u.b.getD i 0) (getA 0 (cntM u i) (u.b.getD i 0) + 1)
theorem cntM_at (u : Wal) (b : Int) : ∀ i : Nat, getA 0 (cntM u i) b = cntB u b i
  | 0 => rfl
  | i + 1 => by
    rw [cntM, getA_put, cntM_at u b i, cntM_at u (u.b.getD i 0) i, cntB]
    by_cases e : b = u.b.getD i 0
    · rw [if_pos e, if_pos e.symm, ← e]
    · rw [if_neg e, if_neg (fun q => e q.symm), Int.add_zero]
def bodK (u : Wal) (n : Nat) : Nat → List Int
  | 0 => []
  | k + 1 => if 0 < cntB u ((k : Int) + 1) n then bodK u n k ++ [(k : Int) + 1] else bodK u n k
theorem bodK_len (u : Wal) (n : Nat) : ∀ k, (bodK u n k).length ≤ k
  | 0 => Nat.le_refl 0
  | k + 1 => by
    have := bodK_len u n k
    simp only [bodK]
    split
    · simp; omega
    · omega
theorem bodK_t {u : Wal} {n k : Nat} (h : 0 < cntB u ((k : Int) + 1) n) : bodK u n (k + 1) = bodK u n k ++ [(k : Int) + 1] := if_pos h
theorem bodK_f {u : Wal} {n k : Nat} (h : ¬ 0 < cntB u ((k : Int) + 1) n) : bodK u n (k + 1) = bodK u n k := if_neg h
theorem bodK_mem {u : Wal} {n : Nat} : ∀ {k : Nat} {b : Int}, b ∈ bodK u n k → (1 ≤ b ∧ b ≤ k) ∧ 0 < cntB u b n
  | 0, b, h => by cases h
  | k + 1, b, h => by
    simp only [bodK] at h
    split at h
    · rename_i hc
      rcases List.mem_append.1 h with h | h
      · have := bodK_mem h; omega
      · rw [List.mem_singleton] at h; subst h; exact ⟨by omega, hc⟩
    · have := bodK_mem h; omega
/-- A body has cells. -/
def hasI (l : List Int) (v : Int) : Bool := decide (∃ i, i < l.length ∧ l.getD i 0 = v)
theorem hasI_t {l : List Int} {v : Int} {i : Nat} (h1 : i < l.length) (h2 : l.getD i 0 = v) : hasI l v = true := decide_eq_true ⟨i, h1, h2⟩
theorem hasI_f {l : List Int} {v : Int} {k : Nat} (hk : l.length ≤ k) (h : ∀ j, j < k → l.getD j 0 ≠ v) : hasI l v = false := decide_eq_false fun ⟨i, h1, h2⟩ => h i (by omega) h2
theorem hasI_cnt {u : Wal} {b : Int} {n : Nat} (hn : n ≤ u.b.length) (h : 0 < cntB u b n) : hasI u.b b = true := by
  cases hh : hasI u.b b
  · have h9 := of_decide_eq_false hh
    exfalso
    have : ∀ m, m ≤ u.b.length → cntB u b m = 0 := fun m => by
      induction m with
      | zero => intro _; rfl
      | succ m ih => intro hm; rw [cntB, ih (by omega), if_neg (fun e => h9 ⟨m, by omega, e⟩)]; rfl
    have := this n hn
    omega
  · rfl
/-! ### Sums over lists -/
def sumL (f : Int → Int) : List Int → Int
  | [] => 0
  | x :: xs => f x + sumL f xs
theorem sumL_app (f : Int → Int) : ∀ xs ys : List Int, sumL f (xs ++ ys) = sumL f xs + sumL f ys
  | [], ys => by simp [sumL]
  | x :: xs, ys => by simp only [List.cons_append, sumL, sumL_app f xs ys]; omega
theorem sumL_take (f : Int → Int) {l : List Int} {k : Nat} (hk : k < l.length) : sumL f (l.take (k + 1)) = sumL f (l.take k) + f (l.getD k 0) := by
  rw [List.take_add_one, sumL_app, List.getElem?_eq_getElem hk, List.getD_eq_getElem?_getD, List.getElem?_eq_getElem hk]
  simp [sumL]
theorem sumL_add (f g : Int → Int) : ∀ l : List Int, sumL (fun b => f b + g b) l = sumL f l + sumL g l
  | [] => rfl
  | x :: xs => by simp only [sumL, sumL_add f g xs]; omega
theorem sumL_zero : ∀ l : List Int, sumL (fun _ => 0) l = 0
  | [] => rfl
  | x :: xs => by simp [sumL, sumL_zero xs]
theorem sumL_bd {f : Int → Int} {m : Int} (hf : ∀ b, -m ≤ f b ∧ f b ≤ m) : ∀ l : List Int, -(m * l.length) ≤ sumL f l ∧ sumL f l ≤ m * l.length
  | [] => by simp [sumL]
  | x :: xs => by
    have ih := sumL_bd hf xs
    have h := hf x
    simp only [sumL, List.length_cons, Int.natCast_add, Int.mul_add] at *
    omega
def totB (f : Int → Int) : Nat → Int
  | 0 => 0
  | m + 1 => totB f m + f ((m : Int) + 1)
theorem bod_sum {u : Wal} {n : Nat} {f : Int → Int} (h : ∀ b, cntB u b n = 0 → f b = 0) : ∀ m : Nat, sumL f (bodK u n m) = totB f m
  | 0 => rfl
  | m + 1 => by
    have ih := bod_sum h m
    simp only [bodK, totB]
    split
    · rw [sumL_app, ih]; simp [sumL]
    · rename_i hc
      have hb := cntB_bd u ((m : Int) + 1) n
      rw [ih, h _ (by omega)]; omega
theorem totB_add (f g : Int → Int) : ∀ m : Nat, totB (fun b => f b + g b) m = totB f m + totB g m
  | 0 => rfl
  | m + 1 => by simp only [totB, totB_add f g m]; omega
theorem totB_one (x v : Int) : ∀ m : Nat, totB (fun b => if x = b then v else 0) m = if 1 ≤ x ∧ x ≤ m then v else 0
  | 0 => by rw [if_neg (by omega)]; rfl
  | m + 1 => by
    simp only [totB, totB_one x v m]
    by_cases h1 : 1 ≤ x ∧ x ≤ m
    · rw [if_pos h1, if_neg (by omega), if_pos (by omega)]; omega
    · by_cases h2 : x = (m : Int) + 1
      · rw [if_neg h1, if_pos h2, if_pos (by omega)]; omega
      · rw [if_neg h1, if_neg h2, if_neg (by omega)]; omega
/-- What all walls give in a step. -/
def totE (u : Wal) (cs : List Cel) : Nat → Int
  | 0 => 0
  | i + 1 => totE u cs i + dlE (u.k.getD i 0) (cs.getD i default)
def totN (u : Wal) (cs : List Cel) : Nat → Int
  | 0 => 0
  | i + 1 => totN u cs i + dlN (u.k.getD i 0) (cs.getD i default)
theorem dl_open (c : Cel) : dlE 0 c = 0 ∧ dlN 0 c = 0 := by
  unfold dlE dlN wsent
  simp; omega
theorem imp_tot {u : Wal} {cs : List Cel} : ∀ {n : Nat}, (∀ i, i < n → brk (u.k.getD i 0) (u.b.getD i 0)) → totB (fun b => impE u cs b n) 9 = totE u cs n ∧ totB (fun b => impN u cs b n) 9 = totN u cs n
  | 0, _ => by simp [impE, impN, totE, totN, totB]
  | n + 1, h => by
    have ih := imp_tot (cs := cs) (n := n) fun i hi => h i (by omega)
    have hb := h n (by omega)
    have q1 := hb.k0; have q2 := hb.k3; have q3 := hb.lo; have q4 := hb.hi
    simp only [impE, impN, totE, totN, totB_add, totB_one, ih.1, ih.2]
    by_cases e : u.k.getD n 0 = 0
    · rw [e]
      have h0 := dl_open (cs.getD n default)
      rw [h0.1, h0.2]
      simp
    · rw [if_pos (by omega), if_pos (by omega)]
      exact ⟨rfl, rfl⟩
theorem imp_bod {u : Wal} {cs : List Cel} {n : Nat} (h : ∀ i, i < n → brk (u.k.getD i 0) (u.b.getD i 0)) : sumL (fun b => impE u cs b n) (bodK u n 9) = totE u cs n ∧ sumL (fun b => impN u cs b n) (bodK u n 9) = totN u cs n := by
  have hz : ∀ b, cntB u b n = 0 → ∀ m, m ≤ n → impE u cs b m = 0 ∧ impN u cs b m = 0 := fun b hb m => by
    induction m with
    | zero => intro _; exact ⟨rfl, rfl⟩
    | succ m ih =>
      intro hm
      have := ih (by omega)
      rw [impE_n (cntB_no hb m (by omega)), impN_n (cntB_no hb m (by omega))]; exact this
  rw [bod_sum (fun b hb => (hz b hb n (Nat.le_refl _)).1), bod_sum (fun b hb => (hz b hb n (Nat.le_refl _)).2)]
  exact imp_tot h
/-! ### The momentum of a grid -/
theorem eastL_setW (cs : List Cel) (v : Cel) : ∀ (k : Nat), k < cs.length → eastL (cs.set k v) = eastL cs - ((cs.getD k default).e - (cs.getD k default).w) + (v.e - v.w) ∧ northL (cs.set k v) = northL cs - ((cs.getD k default).n - (cs.getD k default).s) + (v.n - v.s) := by
  induction cs with
  | nil => intro k hk; simp at hk
  | cons c cs ih =>
    intro k hk
    cases k with
    | zero => simp [eastL, northL]; omega
    | succ k =>
      have := ih k (by simpa using hk)
      simp only [List.set_cons_succ, eastL, northL, List.getD_cons_succ]; omega
theorem metC_en (r : Rul) (k : Int) (c : Cel) : (metC r k c).e - (metC r k c).w = c.e - c.w + dlE k c ∧ (metC r k c).n - (metC r k c).s = c.n - c.s + dlN k c := by
  unfold metC
  split
  · rename_i h
    subst h
    have h0 := dl_open c
    have h1 := Cel.after_m (c := c) r
    rw [h0.1, h0.2]; omega
  · unfold dlE dlN; omega
theorem met_en (r : Rul) (u : Wal) (cs : List Cel) : ∀ k : Nat, k ≤ cs.length → eastL (prog (metF r u cs) k cs) = eastL cs + totE u cs k ∧ northL (prog (metF r u cs) k cs) = northL cs + totN u cs k
  | 0, _ => by rw [prog_zero]; simp [totE, totN]
  | k + 1, hk => by
    have ih := met_en r u cs k (by omega)
    have hs := eastL_setW (prog (metF r u cs) k cs) (metF r u cs k) k (by rw [prog_length]; omega)
    have hm := metC_en r (u.k.getD k 0) (cs.getD k default)
    rw [← prog_set (metF r u cs) k cs rfl, hs.1, hs.2, ih.1, ih.2, prog_getD _ _ _ (by omega), if_neg (Nat.lt_irrefl k)]
    show _ - _ + ((metC r (u.k.getD k 0) (cs.getD k default)).e - (metC r (u.k.getD k 0) (cs.getD k default)).w) = _ ∧ _ - _ + ((metC r (u.k.getD k 0) (cs.getD k default)).n - (metC r (u.k.getD k 0) (cs.getD k default)).s) = _
    simp only [totE, totN]; omega
theorem east_bd : ∀ {cs : List Cel}, okL cs = true → (-(2000000000 * (cs.length : Int)) ≤ eastL cs ∧ eastL cs ≤ 2000000000 * cs.length) ∧ -(2000000000 * (cs.length : Int)) ≤ northL cs ∧ northL cs ≤ 2000000000 * cs.length
  | [], _ => by simp [eastL, northL]
  | c :: cs, h => by
    have h' := okL_iff.1 h
    have hc := Cel.ok_iff.1 (h' c (List.mem_cons_self ..))
    have ih := east_bd (cs := cs) (okL_iff.2 fun d hd => h' d (List.mem_cons_of_mem _ hd))
    simp only [eastL, northL, List.length_cons]; omega
/-- The momentum after so many steps is that before and the drag of all bodies. -/
theorem walk_mom {g : Grd} {u : Wal} {l : List Rul} {t : Int} (h : walB g u = true) (hr : rulesB l = true) (ht : 0 ≤ t) : ∀ k : Nat, eastL (wgr g u l t k).cs = eastL g.cs + sumL (fun b => (drgS g u l t b k).1) (bodK u g.cs.length 9) ∧ northL (wgr g u l t k).cs = northL g.cs + sumL (fun b => (drgS g u l t b k).2) (bodK u g.cs.length 9)
  | 0 => by simp only [drgS, sumL_zero]; exact ⟨by simp [wgr, walkC], by simp [wgr, walkC]⟩
  | k + 1 => by
    have ih := walk_mom h hr ht k
    obtain ⟨hok, w1, w2, w3⟩ := wal_ok h
    have hw := wgr_ok h hr ht k
    have hb := gok_bds hok
    have hi := imp_bod (u := u) (cs := (wgr g u l t k).cs) w3
    have hm := met_en (rho l t k) u (wgr g u l t k).cs (wgr g u l t k).cs.length (Nat.le_refl _)
    have hf := flow_sums (w := g.w) (h := g.h) (cs := metL (rho l t k) u (wgr g u l t k).cs) (by omega) (by omega) (by rw [metL_length, hw.2.2]; omega) 1
    simp only [drgS, sumL_add, hi.1, hi.2]
    show eastL (flow g.w g.h 1 (metL (rho l t k) u (wgr g u l t k).cs)) = _ ∧ northL (flow g.w g.h 1 (metL (rho l t k) u (wgr g u l t k).cs)) = _
    rw [hf.2.1, hf.2.2]
    unfold metL
    rw [hm.1, hm.2, hw.2.2]
    omega
/-! ### For the law -/
theorem Wal.eta (u : Wal) : (⟨u.k, u.b⟩ : Wal) = u := rfl
theorem awakeRv : revG ⟨1, 1, [⟨1, 2, 3, 4⟩]⟩ = ⟨1, 1, [⟨3, 4, 1, 2⟩]⟩ ∧ (⟨1, 1, [⟨1, 2, 3, 4⟩]⟩ : Grd).err = 0 := by decide
theorem wrun_two (g : Grd) (u : Wal) (l : List Rul) (t n : Int) : (wrunE g u l t n ≠ 0) ∨ (wrunE g u l t n = 0 ∧ wrunG g u l t n = wgr g u l t n.toNat ∧ walB g u = true ∧ rulesB l = true ∧ ((0 ≤ t ∧ t ≤ 1000000) ∧ (0 ≤ n ∧ n ≤ 1000) ∧ (0 < n → t + n - 1 ≤ 1000000)) ∧ (1 ≤ l.length ∧ l.length ≤ 8)) := by
  by_cases h : wrunE g u l t n = 0
  · obtain ⟨h1, h2, h3, h4⟩ := wrun_ok h
    exact .inr ⟨h, by unfold wrunG; rw [if_pos h]; rfl, h1, h2, h3, h4⟩
  · exact .inl h
theorem bod_at {g : Grd} {u : Wal} {B : List Int} (h : walB g u = true) (hB : B = bodK u g.cs.length 9) : ∀ i, i < B.length → (1 ≤ B.getD i 0 ∧ B.getD i 0 ≤ 9) ∧ hasI u.b (B.getD i 0) = true := fun i hi => by
  have hm : B.getD i 0 ∈ bodK u g.cs.length 9 := by rw [← hB]; exact getD_mem 0 hi
  have := bodK_mem hm
  obtain ⟨_, _, w2, _⟩ := wal_ok h
  exact ⟨by omega, hasI_cnt (by omega) this.2⟩
theorem drg_sums {g : Grd} {u : Wal} {l : List Rul} {t n : Int} (h : walB g u = true) (hr : rulesB l = true) (ht : 0 ≤ t) (hn : n ≤ 1000) {FE FN : Int → Int} (hFE : FE = fun b => (drgS g u l t b n.toNat).1) (hFN : FN = fun b => (drgS g u l t b n.toNat).2) {B : List Int} (hB : B = bodK u g.cs.length 9) :
    ∀ i : Nat, (-100000000000000000 ≤ eastL g.cs + sumL FE (B.take i) ∧ eastL g.cs + sumL FE (B.take i) ≤ 100000000000000000) ∧ -100000000000000000 ≤ northL g.cs + sumL FN (B.take i) ∧ northL g.cs + sumL FN (B.take i) ≤ 100000000000000000 := fun i => by
  have hd := fun b => drgS_bd h hr ht b n.toNat
  have hf1 : ∀ b, -5000000000000000 ≤ FE b ∧ FE b ≤ 5000000000000000 := fun b => by have := hd b; rw [hFE]; simp only; omega
  have hf2 : ∀ b, -5000000000000000 ≤ FN b ∧ FN b ≤ 5000000000000000 := fun b => by have := hd b; rw [hFN]; simp only; omega
  have h1 := sumL_bd hf1 (B.take i)
  have h2 := sumL_bd hf2 (B.take i)
  have hl : (B.take i).length ≤ 9 := by
    have := bodK_len u g.cs.length 9
    rw [List.length_take, hB]; omega
  have he := east_bd (gok_okL (wal_ok h).1)
  have hb := gok_bds (wal_ok h).1
  omega
theorem drg_mom {g : Grd} {u : Wal} {l : List Rul} {t n : Int} (h : walB g u = true) (hr : rulesB l = true) (ht : 0 ≤ t) (hE : wrunE g u l t n = 0) (hG : wrunG g u l t n = wgr g u l t n.toNat) {FE FN : Int → Int} (hFE : FE = fun b => (drgS g u l t b n.toNat).1) (hFN : FN = fun b => (drgS g u l t b n.toNat).2) {B : List Int} (hB : B = bodK u g.cs.length 9) :
    (Grd.east (wrunG g u l t n) = eastL g.cs + sumL FE (B.take B.length) ∧ Grd.north (wrunG g u l t n) = northL g.cs + sumL FN (B.take B.length) ∧ Grd.err (wrunG g u l t n) = 0) ∧ (Grd.east g = eastL g.cs ∧ Grd.north g = northL g.cs ∧ Grd.err g = 0) ∧ (wrunG g u l t n).cs.length = g.cs.length := by
  have hw := wgr_ok h hr ht n.toNat
  have hm := walk_mom h hr ht n.toNat
  have hok := (wal_ok h).1
  have hg : (wrunG g u l t n).ok = true := by rw [hG]; exact hw.1
  rw [List.take_length]
  refine ⟨⟨?_, ?_, ?_⟩, ⟨?_, ?_, ?_⟩, by rw [hG]; exact hw.2.2⟩
  · simp only [Grd.east, hg, if_true]; rw [hG, hm.1, hFE, hB]
  · simp only [Grd.north, hg, if_true]; rw [hG, hm.2, hFN, hB]
  · simp [Grd.err, hg]
  · simp [Grd.east, hok]
  · simp [Grd.north, hok]
  · simp [Grd.err, hok]
end Go.Sy

/- What a box is told is the opposite of the drags of the bodies in it. -/
set_option linter.unusedSimpArgs false
set_option linter.unusedVariables false
namespace Go.Sy
/-! ### Sums over the first cells -/
def sumR (F : Nat → Int) : Nat → Int
  | 0 => 0
  | k + 1 => sumR F k + F k
theorem sumI_ap : ∀ (l m : List Int), sumI (l ++ m) = sumI l + sumI m
  | [], m => by simp [sumI]
  | x :: l, m => by simp only [List.cons_append, sumI, sumI_ap l m]; omega
theorem sumR_I (F : Nat → Int) : ∀ n : Nat, sumR F n = sumI ((List.range n).map F)
  | 0 => rfl
  | n + 1 => by rw [List.range_succ, List.map_append, sumI_ap, ← sumR_I F n]; simp [sumR, sumI]
theorem sumR_congr {F G : Nat → Int} : ∀ {n : Nat}, (∀ i, i < n → F i = G i) → sumR F n = sumR G n
  | 0, _ => rfl
  | n + 1, h => by simp only [sumR, sumR_congr (n := n) fun i hi => h i (by omega), h n (by omega)]
theorem sumR_add (F G : Nat → Int) : ∀ n : Nat, sumR (fun i => F i + G i) n = sumR F n + sumR G n
  | 0 => rfl
  | n + 1 => by simp only [sumR, sumR_add F G n]; omega
theorem sumR_perm {n : Nat} {σ : Nat → Nat} (hlt : ∀ i, i < n → σ i < n) (hf : ∀ i j, i < n → j < n → σ i = σ j → i = j) (F : Nat → Int) : sumR (fun i => F (σ i)) n = sumR F n := by
  rw [sumR_I, sumR_I]
  have h := (perm_range hlt hf).map F
  rw [List.map_map] at h
  exact sumI_perm h
theorem momS_sum (g : Grd) (x : Cel) (axis : Int) : ∀ n : Nat, momS g x axis n = sumR (fun i => if inK g x i then cellM axis (g.cs.getD i default) else 0) n
  | 0 => rfl
  | n + 1 => by simp only [momS, sumR, momS_sum g x axis n]
theorem cell_dirs {axis : Int} (hax : 0 ≤ axis ∧ axis ≤ 1) (c : Cel) : cellM axis c = cntV axis c 0 + cntV axis c 1 + cntV axis c 2 + cntV axis c 3 := by
  rcases (show axis = 0 ∨ axis = 1 by omega) with rfl | rfl
  · simp [cellM, cntV, dirV, alg]; omega
  · simp [cellM, cntV, dirV, alg]; omega
/-- What of a cell goes to places in a box. -/
def dsum (axis : Int) (c : Cel) (t : Nat → Bool) : Int := (if t 0 then cntV axis c 0 else 0) + (if t 1 then cntV axis c 1 else 0) + (if t 2 then cntV axis c 2 else 0) + (if t 3 then cntV axis c 3 else 0)
theorem flD_dif {axis : Int} (hax : 0 ≤ axis ∧ axis ≤ 1) (g : Grd) (x : Cel) (c : Cel) (k : Int) (p : Int × Int) : (flD g x axis c k p 4).1 - (flD g x axis c k p 4).2 = p.1 - p.2 + dsum axis c (toB g x k) - (if inK g x k then cellM axis c else 0) := by
  have hc := cell_dirs hax c
  simp only [flD, dsum]
  cases inK g x k <;> cases toB g x k 0 <;> cases toB g x k 1 <;> cases toB g x k 2 <;> cases toB g x k 3 <;> simp only [Bool.not_true, Bool.not_false, Bool.and_true, Bool.and_false, Bool.true_and, Bool.false_and, if_true, Bool.false_eq_true, if_false] <;> omega
theorem flS_dif {axis : Int} (hax : 0 ≤ axis ∧ axis ≤ 1) (g : Grd) (w : Wal) (r : Rul) (x : Cel) : ∀ n : Nat, (flS g w r x axis n).1 - (flS g w r x axis n).2 = sumR (fun i => dsum axis (metC r (w.k.getD i 0) (g.cs.getD i default)) (toB g x i)) n - sumR (fun i => if inK g x i then cellM axis (metC r (w.k.getD i 0) (g.cs.getD i default)) else 0) n
  | 0 => rfl
  | n + 1 => by
    have ih := flS_dif hax g w r x n
    have h := flD_dif hax g x (metC r (w.k.getD n 0) (g.cs.getD n default)) n (flS g w r x axis n)
    simp only [flS, sumR]; omega
/-! ### Streaming and a box -/
theorem shp_box {g : Grd} (hok : g.ok = true) (x : Cel) (a b : Int) (F : Nat → Int) : sumR (fun j => if inK g x (j : Int) then F (shp g.w g.h (-a) (-b) j) else 0) g.cs.length = sumR (fun i => if inK g x (shp g.w g.h a b i : Nat) then F i else 0) g.cs.length := by
  have hb := gok_bds hok
  have hw : 0 < g.w := by omega
  have hh : 0 < g.h := by omega
  have hp := sumR_perm (n := g.cs.length) (σ := shp g.w g.h a b) (fun i _ => by have := shp_lt hw hh a b i; omega) (fun i j hi hj e => shp_inj hw hh (by omega) (by omega) e) (fun j => if inK g x (j : Int) then F (shp g.w g.h (-a) (-b) j) else 0)
  rw [← hp]
  refine sumR_congr fun i hi => ?_
  show (if inK g x (shp g.w g.h a b i : Nat) then F (shp g.w g.h (-a) (-b) (shp g.w g.h a b i)) else 0) = _
  rw [shp_shp hw hh, show a + -a = 0 by omega, show b + -b = 0 by omega, shp_zero hw hh (by omega)]
theorem shp_to {g : Grd} (hok : g.ok = true) (x : Cel) {i : Nat} (hi : i < g.cs.length) : inK g x (shp g.w g.h 1 0 i : Nat) = toB g x i 0 ∧ inK g x (shp g.w g.h 0 1 i : Nat) = toB g x i 1 ∧ inK g x (shp g.w g.h (-1) 0 i : Nat) = toB g x i 2 ∧ inK g x (shp g.w g.h 0 (-1) i : Nat) = toB g x i 3 := by
  have hb := gok_bds hok
  have hw : 0 < g.w := by omega
  have hh : 0 < g.h := by omega
  obtain ⟨_, _, hx, hy⟩ := k_at hok (k := (i : Int)) (by omega) (by omega)
  have zx : ((i : Int) % g.w + 0) % g.w = (i : Int) % g.w := by rw [Int.add_zero]; exact Int.emod_eq_of_lt hx.1 hx.2
  have zy : ((i : Int) / g.w + 0) % g.h = (i : Int) / g.w := by rw [Int.add_zero]; exact Int.emod_eq_of_lt hy.1 hy.2
  have mx : ((i : Int) % g.w + -1) % g.w = ((i : Int) % g.w + g.w - 1) % g.w := by
    rw [show (i : Int) % g.w + g.w - 1 = (i : Int) % g.w + -1 + g.w by omega, Int.add_emod_right]
  have my : ((i : Int) / g.w + -1) % g.h = ((i : Int) / g.w + g.h - 1) % g.h := by
    rw [show (i : Int) / g.w + g.h - 1 = (i : Int) / g.w + -1 + g.h by omega, Int.add_emod_right]
  unfold inK
  simp only [shp_x hw hh, shp_y hw hh]
  refine ⟨?_, ?_, ?_, ?_⟩
  · rw [zy]; rfl
  · rw [zx]; rfl
  · rw [zy, mx]; rfl
  · rw [zx, my]; rfl
theorem flow_box {g : Grd} (hok : g.ok = true) (x : Cel) {axis : Int} (hax : 0 ≤ axis ∧ axis ≤ 1) {M : List Cel} (hM : M.length = g.cs.length) :
    sumR (fun j => if inK g x (j : Int) then cellM axis ((flow g.w g.h 1 M).getD j default) else 0) g.cs.length = sumR (fun i => dsum axis (M.getD i default) (toB g x i)) g.cs.length := by
  have e0 := shp_box hok x 1 0 (fun i => (M.getD i default).e * alg 0 axis)
  have e1 := shp_box hok x 0 1 (fun i => (M.getD i default).n * alg 1 axis)
  have e2 := shp_box hok x (-1) 0 (fun i => (M.getD i default).w * alg 2 axis)
  have e3 := shp_box hok x 0 (-1) (fun i => (M.getD i default).s * alg 3 axis)
  simp only [Int.neg_zero, Int.neg_neg] at e0 e1 e2 e3
  have hl : sumR (fun j => if inK g x (j : Int) then cellM axis ((flow g.w g.h 1 M).getD j default) else 0) g.cs.length = sumR (fun j => (if inK g x (j : Int) then (M.getD (shp g.w g.h (-1) 0 j) default).e * alg 0 axis else 0) + (if inK g x (j : Int) then (M.getD (shp g.w g.h 0 (-1) j) default).n * alg 1 axis else 0) + (if inK g x (j : Int) then (M.getD (shp g.w g.h 1 0 j) default).w * alg 2 axis else 0) + (if inK g x (j : Int) then (M.getD (shp g.w g.h 0 1 j) default).s * alg 3 axis else 0)) g.cs.length := by
    refine sumR_congr fun j hj => ?_
    unfold flow
    rw [tab_at _ (by omega)]
    cases inK g x (j : Int)
    · simp
    · simp only [if_true, cell_dirs hax, cntV, dirV]; rfl
  have hr : sumR (fun i => dsum axis (M.getD i default) (toB g x i)) g.cs.length = sumR (fun i => (if inK g x (shp g.w g.h 1 0 i : Nat) then (M.getD i default).e * alg 0 axis else 0) + (if inK g x (shp g.w g.h 0 1 i : Nat) then (M.getD i default).n * alg 1 axis else 0) + (if inK g x (shp g.w g.h (-1) 0 i : Nat) then (M.getD i default).w * alg 2 axis else 0) + (if inK g x (shp g.w g.h 0 (-1) i : Nat) then (M.getD i default).s * alg 3 axis else 0)) g.cs.length := by
    refine sumR_congr fun i hi => ?_
    obtain ⟨t0, t1, t2, t3⟩ := shp_to hok x hi
    rw [t0, t1, t2, t3]; rfl
  rw [hl, hr]
  simp only [sumR_add]
  rw [e0, e1, e2, e3]
/-- What walls give on an axis. -/
def dlA (axis k : Int) (c : Cel) : Int := if axis = 0 then dlE k c else dlN k c
theorem metC_ax (r : Rul) (axis k : Int) (c : Cel) : cellM axis (metC r k c) = cellM axis c + dlA axis k c := by
  have h := metC_en r k c
  unfold cellM dlA
  split
  · exact h.1
  · exact h.2
def boxW (g : Grd) (u : Wal) (x : Cel) (axis : Int) (cs : List Cel) (n : Nat) : Int := sumR (fun i => if inK g x (i : Int) then dlA axis (u.k.getD i 0) (cs.getD i default) else 0) n
theorem box_step {g : Grd} {u : Wal} {l : List Rul} {t : Int} (h : walB g u = true) (hr : rulesB l = true) (ht : 0 ≤ t) (x : Cel) {axis : Int} (hax : 0 ≤ axis ∧ axis ≤ 1) (k : Nat) :
    momS (wgr g u l t (k + 1)) x axis g.cs.length = momS (wgr g u l t k) x axis g.cs.length + boxW g u x axis (wgr g u l t k).cs g.cs.length + (flS (wgr g u l t k) u (rho l t k) x axis g.cs.length).1 - (flS (wgr g u l t k) u (rho l t k) x axis g.cs.length).2 := by
  have hw := wgr_ok h hr ht k
  have hf := flow_box (g := wgr g u l t k) hw.1 x hax (M := metL (rho l t k) u (wgr g u l t k).cs) (metL_length _ _ _)
  rw [hw.2.2] at hf
  have hd := flS_dif hax (wgr g u l t k) u (rho l t k) x g.cs.length
  have hM : ∀ i, i < g.cs.length → (metL (rho l t k) u (wgr g u l t k).cs).getD i default = metC (rho l t k) (u.k.getD i 0) ((wgr g u l t k).cs.getD i default) := fun i hi => by
    unfold metL
    rw [prog_getD _ _ _ (by rw [hw.2.2]; exact hi), if_pos (by rw [hw.2.2]; exact hi)]; rfl
  have h1 : momS (wgr g u l t (k + 1)) x axis g.cs.length = sumR (fun i => dsum axis (metC (rho l t k) (u.k.getD i 0) ((wgr g u l t k).cs.getD i default)) (toB (wgr g u l t k) x i)) g.cs.length := by
    rw [momS_sum]
    refine Eq.trans ?_ (hf.trans (sumR_congr fun i hi => by rw [hM i hi]))
    rfl
  have h2 : sumR (fun i => if inK (wgr g u l t k) x (i : Int) then cellM axis (metC (rho l t k) (u.k.getD i 0) ((wgr g u l t k).cs.getD i default)) else 0) g.cs.length = momS (wgr g u l t k) x axis g.cs.length + boxW g u x axis (wgr g u l t k).cs g.cs.length := by
    rw [momS_sum]
    unfold boxW
    rw [← sumR_add]
    refine sumR_congr fun i hi => ?_
    rw [metC_ax]
    show (if inK g x (i : Int) then _ else _) = (if inK g x (i : Int) then _ else _) + _
    cases inK g x (i : Int)
    · simp
    · simp
  rw [h2] at hd
  rw [h1]
  omega
def boxS (g : Grd) (u : Wal) (l : List Rul) (t : Int) (x : Cel) (axis : Int) : Nat → Int
  | 0 => 0
  | k + 1 => boxS g u l t x axis k + boxW g u x axis (wgr g u l t k).cs g.cs.length
theorem told_box {g : Grd} {u : Wal} {l : List Rul} {t : Int} (h : walB g u = true) (hr : rulesB l = true) (ht : 0 ≤ t) (x : Cel) {axis : Int} (hax : 0 ≤ axis ∧ axis ≤ 1) : ∀ k : Nat, momS g x axis g.cs.length + (tolS g u l t x axis k).1 - (tolS g u l t x axis k).2 - momS (wgr g u l t k) x axis g.cs.length = -(boxS g u l t x axis k)
  | 0 => by simp only [tolS, boxS]; show momS g x axis g.cs.length + 0 - 0 - momS g x axis g.cs.length = _; omega
  | k + 1 => by
    have ih := told_box h hr ht x hax k
    have hs := box_step h hr ht x hax k
    simp only [tolS, boxS]; omega
/-! ### The bodies in a box -/
def impA (axis : Int) (u : Wal) (cs : List Cel) (b : Int) (n : Nat) : Int := if axis = 0 then impE u cs b n else impN u cs b n
theorem impA_next (axis : Int) (u : Wal) (cs : List Cel) (b : Int) (n : Nat) : impA axis u cs b (n + 1) = impA axis u cs b n + (if u.b.getD n 0 = b then dlA axis (u.k.getD n 0) (cs.getD n default) else 0) := by
  unfold impA dlA; split <;> simp only [impE, impN]
theorem impA_zero (axis : Int) (u : Wal) (cs : List Cel) (b : Int) : impA axis u cs b 0 = 0 := by unfold impA; split <;> rfl
theorem totB_congr {f g : Int → Int} : ∀ {m : Nat}, (∀ b, 1 ≤ b → b ≤ (m : Int) → f b = g b) → totB f m = totB g m
  | 0, _ => rfl
  | m + 1, h => by simp only [totB, totB_congr (m := m) fun b h1 h2 => h b h1 (by omega), h ((m : Int) + 1) (by omega) (by omega)]
theorem sel_tot {g : Grd} {u : Wal} {x : Cel} {axis : Int} {cs : List Cel} (sel : Int → Bool) : ∀ {n : Nat}, (∀ i, i < n → brk (u.k.getD i 0) (u.b.getD i 0)) → (∀ i, i < n → 1 ≤ u.b.getD i 0 → inK g x (i : Int) = sel (u.b.getD i 0)) →
    totB (fun b => if sel b then impA axis u cs b n else 0) 9 = boxW g u x axis cs n
  | 0, _, _ => by
    unfold boxW
    simp only [impA_zero, sumR]
    show totB (fun b => if sel b then (0 : Int) else 0) 9 = 0
    simp [totB]
  | n + 1, h, hs => by
    have ih := sel_tot sel (axis := axis) (cs := cs) (n := n) (fun i hi => h i (by omega)) (fun i hi => hs i (by omega))
    have hb := h n (by omega)
    have q1 := hb.k0; have q2 := hb.k3; have q3 := hb.lo; have q4 := hb.hi
    have e : totB (fun b => if sel b then impA axis u cs b (n + 1) else 0) 9 = totB (fun b => (if sel b then impA axis u cs b n else 0) + (if u.b.getD n 0 = b then (if sel (u.b.getD n 0) then dlA axis (u.k.getD n 0) (cs.getD n default) else 0) else 0)) 9 := by
      refine totB_congr fun b _ _ => ?_
      rw [impA_next]
      by_cases hx : u.b.getD n 0 = b
      · rw [if_pos hx, if_pos hx, hx]; cases sel b <;> simp
      · rw [if_neg hx, if_neg hx]; cases sel b <;> simp
    rw [e, totB_add, ih, totB_one]
    unfold boxW
    simp only [sumR]
    by_cases hk : u.k.getD n 0 = 0
    · have h0 : dlA axis 0 (cs.getD n default) = 0 := by have := dl_open (cs.getD n default); unfold dlA; split <;> omega
      rw [hk, h0]; simp
    · rw [if_pos (by omega), hs n (by omega) (by omega)]
def drgA (axis : Int) (p : Int × Int) : Int := if axis = 0 then p.1 else p.2
theorem sumL_congr {f g : Int → Int} : ∀ {l : List Int}, (∀ b, b ∈ l → f b = g b) → sumL f l = sumL g l
  | [], _ => rfl
  | x :: xs, h => by simp only [sumL, h x (by simp), sumL_congr (l := xs) fun b hb => h b (by simp [hb])]
theorem sel_sum {g : Grd} {u : Wal} {l : List Rul} {t : Int} (h : walB g u = true) (x : Cel) {axis : Int} (sel : Int → Bool) (hs : ∀ i, i < g.cs.length → 1 ≤ u.b.getD i 0 → inK g x (i : Int) = sel (u.b.getD i 0)) : ∀ k : Nat,
    sumL (fun b => if sel b then drgA axis (drgS g u l t b k) else 0) (bodK u g.cs.length 9) = boxS g u l t x axis k
  | 0 => by
    rw [sumL_congr (g := fun _ => 0) fun b _ => by simp [drgS, drgA], sumL_zero]; rfl
  | k + 1 => by
    have ih := sel_sum (l := l) (t := t) h x (axis := axis) sel hs k
    obtain ⟨hok, w1, w2, w3⟩ := wal_ok h
    have e : ∀ b, (if sel b then drgA axis (drgS g u l t b (k + 1)) else 0) = (if sel b then drgA axis (drgS g u l t b k) else 0) + (if sel b then impA axis u (wgr g u l t k).cs b g.cs.length else 0) := fun b => by
      cases sel b
      · simp
      · simp only [if_true, drgS, drgA, impA]; split <;> rfl
    rw [sumL_congr fun b _ => e b, sumL_add, ih]
    simp only [boxS]
    rw [bod_sum (u := u) (n := g.cs.length) (f := fun b => if sel b then impA axis u (wgr g u l t k).cs b g.cs.length else 0) (fun b hb => ?_), sel_tot sel w3 hs]
    have hz : ∀ m, m ≤ g.cs.length → impA axis u (wgr g u l t k).cs b m = 0 := fun m => by
      induction m with
      | zero => intro _; exact impA_zero ..
      | succ m ih => intro hm; rw [impA_next, ih (by omega), if_neg (cntB_no hb m (by omega))]; rfl
    rw [hz _ (Nat.le_refl _)]; simp
/-- A number lies between two others. -/
theorem between_mul {p a c : Int} : (p - a) * (p - c) ≤ 0 ↔ min a c ≤ p ∧ p ≤ max a c := by
  constructor
  · intro h
    by_cases h1 : p < a <;> by_cases h2 : p < c
    · have : 0 < (p - a) * (p - c) := Int.mul_pos_of_neg_of_neg (by omega) (by omega)
      omega
    · omega
    · omega
    · by_cases h3 : p = a
      · omega
      · by_cases h4 : p = c
        · omega
        · have : 0 < (p - a) * (p - c) := Int.mul_pos (by omega) (by omega)
          omega
  · intro h
    by_cases h1 : a ≤ p
    · by_cases h2 : p ≤ c
      · exact Int.mul_nonpos_of_nonneg_of_nonpos (by omega) (by omega)
      · rw [show p - a = 0 by omega, Int.zero_mul]; exact Int.le_refl 0
    · exact Int.mul_nonpos_of_nonpos_of_nonneg (by omega) (by omega)
/-! ### The cells of a body -/
def ownL (u : Wal) (b : Int) : Nat → List Int
  | 0 => []
  | k + 1 => if u.b.getD k 0 = b then ownL u b k ++ [(k : Int)] else ownL u b k
theorem ownL_t {u : Wal} {b : Int} {k : Nat} (h : u.b.getD k 0 = b) : ownL u b (k + 1) = ownL u b k ++ [(k : Int)] := if_pos h
theorem ownL_f {u : Wal} {b : Int} {k : Nat} (h : u.b.getD k 0 ≠ b) : ownL u b (k + 1) = ownL u b k := if_neg h
theorem ownL_len (u : Wal) (b : Int) : ∀ k, (ownL u b k).length ≤ k
  | 0 => Nat.le_refl 0
  | k + 1 => by
    have := ownL_len u b k
    simp only [ownL]
    split
    · simp; omega
    · omega
theorem ownL_mem {u : Wal} {b : Int} : ∀ {k : Nat} {c : Int}, c ∈ ownL u b k → 0 ≤ c ∧ c < k
  | 0, c, h => by cases h
  | k + 1, c, h => by
    simp only [ownL] at h
    split at h
    · rcases List.mem_append.1 h with h | h
      · have := ownL_mem h; omega
      · rw [List.mem_singleton] at h; omega
    · have := ownL_mem h; omega
theorem ownL_sum (f : Int → Int) (u : Wal) (b : Int) : ∀ n : Nat, sumL f (ownL u b n) = sumR (fun i => if u.b.getD i 0 = b then f (i : Int) else 0) n
  | 0 => rfl
  | n + 1 => by
    simp only [ownL, sumR, ← ownL_sum f u b n]
    split
    · rw [sumL_app]; simp [sumL]
    · simp
theorem sumR_nn {F : Nat → Int} : ∀ {n : Nat}, (∀ i, i < n → 0 ≤ F i) → 0 ≤ sumR F n
  | 0, _ => Int.le_refl 0
  | n + 1, h => by have := sumR_nn (n := n) fun i hi => h i (by omega); have := h n (by omega); simp only [sumR]; omega
theorem sumR_ge {F : Nat → Int} {i : Nat} : ∀ {n : Nat}, (∀ i, i < n → 0 ≤ F i) → i < n → F i ≤ sumR F n
  | 0, _, hi => by omega
  | n + 1, h, hi => by
    have h1 := sumR_nn (n := n) fun i hi => h i (by omega)
    have h2 := h n (by omega)
    simp only [sumR]
    by_cases e : i = n
    · subst e; omega
    · have := sumR_ge (n := n) (i := i) (fun i hi => h i (by omega)) (by omega); omega
def inF (g : Grd) (x : Cel) (c : Int) : Int := if inK g x c then 1 else 0
def ouF (g : Grd) (x : Cel) (c : Int) : Int := if inK g x c then 0 else 1
theorem cnt_bd (g : Grd) (x : Cel) : ∀ l : List Int, (0 ≤ sumL (inF g x) l ∧ sumL (inF g x) l ≤ l.length) ∧ 0 ≤ sumL (ouF g x) l ∧ sumL (ouF g x) l ≤ l.length
  | [] => by simp [sumL]
  | c :: l => by
    have ih := cnt_bd g x l
    simp only [sumL, inF, ouF, List.length_cons] at *
    cases inK g x c <;> simp only [if_true, Bool.false_eq_true, if_false] <;> omega
def selB (g : Grd) (u : Wal) (x : Cel) (b : Int) : Bool := decide (0 < sumL (inF g x) (ownL u b g.cs.length))
theorem sel_ok {g : Grd} {u : Wal} {x : Cel} {b : Int} {i : Nat} (hi : i < g.cs.length) (hb : u.b.getD i 0 = b) (hp : ¬ (0 < sumL (inF g x) (ownL u b g.cs.length) ∧ 0 < sumL (ouF g x) (ownL u b g.cs.length))) : inK g x (i : Int) = selB g u x b := by
  rw [ownL_sum, ownL_sum] at hp
  have h1 := sumR_ge (F := fun i => if u.b.getD i 0 = b then inF g x (i : Int) else 0) (i := i) (n := g.cs.length) (fun j _ => by simp only [inF]; split <;> (try split) <;> omega) hi
  have h2 := sumR_ge (F := fun i => if u.b.getD i 0 = b then ouF g x (i : Int) else 0) (i := i) (n := g.cs.length) (fun j _ => by simp only [ouF]; split <;> (try split) <;> omega) hi
  simp only [if_pos hb, inF, ouF] at h1 h2
  unfold selB
  rw [ownL_sum]
  cases hk : inK g x (i : Int)
  · rw [hk] at h1 h2
    simp only [Bool.false_eq_true, if_false] at h1 h2
    refine (decide_eq_false ?_).symm
    intro hq
    exact hp ⟨hq, by simp only [ouF]; omega⟩
  · rw [hk] at h1 h2
    simp only [if_true] at h1 h2
    refine (decide_eq_true ?_).symm
    simp only [inF]; omega
/-- Each body that a cell names is among those that there are. -/
theorem bod_has {g : Grd} {u : Wal} (h : walB g u = true) {i : Nat} (hi : i < g.cs.length) (hb : 1 ≤ u.b.getD i 0) : u.b.getD i 0 ∈ bodK u g.cs.length 9 := by
  obtain ⟨_, _, _, w3⟩ := wal_ok h
  have q := w3 i hi
  have q1 := q.k0; have q2 := q.k3; have q4 := q.hi
  have hc : 0 < cntB u (u.b.getD i 0) g.cs.length := by
    by_cases h0 : cntB u (u.b.getD i 0) g.cs.length = 0
    · exact absurd rfl (cntB_no h0 i hi)
    · have := cntB_bd u (u.b.getD i 0) g.cs.length; omega
  have key : ∀ m : Nat, u.b.getD i 0 ≤ m → u.b.getD i 0 ∈ bodK u g.cs.length m := fun m => by
    induction m with
    | zero => intro hm; omega
    | succ m ih =>
      intro hm
      simp only [bodK]
      by_cases e : u.b.getD i 0 = (m : Int) + 1
      · rw [← e, if_pos hc]; exact List.mem_append.2 (.inr (List.mem_singleton.2 rfl))
      · have := ih (by omega)
        split
        · exact List.mem_append.2 (.inl this)
        · exact this
  exact key 9 (by omega)
theorem ways_sum {g : Grd} {u : Wal} {l : List Rul} {t : Int} (h : walB g u = true) (x : Cel) {axis : Int} {B : List Int} (hB : B = bodK u g.cs.length 9)
    (hp : ∀ j, j < B.length → ¬ (0 < sumL (inF g x) (ownL u (B.getD j 0) g.cs.length) ∧ 0 < sumL (ouF g x) (ownL u (B.getD j 0) g.cs.length))) (k : Nat) :
    sumL (fun b => if selB g u x b then drgA axis (drgS g u l t b k) else 0) (B.take B.length) = boxS g u l t x axis k := by
  rw [List.take_length, hB]
  refine sel_sum h x (selB g u x) (fun i hi hb => ?_) k
  have hm := bod_has h hi hb
  rw [← hB] at hm
  obtain ⟨j, hj, e⟩ := List.getElem_of_mem hm
  have e' : B.getD j 0 = u.b.getD i 0 := by rw [List.getD_eq_getElem?_getD, List.getElem?_eq_getElem hj]; exact e
  have := hp j hj
  rw [e'] at this
  exact sel_ok hi rfl this
/-! ### For the law -/
theorem ways_two (g : Grd) (u : Wal) (l : List Rul) (t s : Int) (a d : Pnt) (axis : Int) : (tolE g u l t s a d axis ≠ 0) ∨ (tolE g u l t s a d axis = 0 ∧ tolR g u l t s a d axis = tgau g u l t s a d axis ∧ (0 ≤ t ∧ t < s ∧ s ≤ 1000000 ∧ s - t ≤ 1000) ∧ walB g u = true ∧ rulesB l = true ∧ (0 ≤ axis ∧ axis ≤ 1) ∧ (tgau g u l t s a d axis).ok = true ∧ onG g a d) := by
  rcases tol_ways g u l t s a d axis with ⟨_, _, _, h, _⟩ | ⟨_, _, _, h, _⟩ | ⟨_, _, _, h, _⟩ | ⟨_, _, _, h, _⟩ | ⟨_, _, _, h, _⟩ | ⟨_, ho, _, h, hf, hx, hW, hR, hax, hgo⟩
  · exact .inl (by omega)
  · exact .inl (by omega)
  · exact .inl (by omega)
  · exact .inl (by omega)
  · exact .inl (by omega)
  · exact .inr ⟨h, hf, hx, hW, hR, hax, hgo, of_decide_eq_true ho⟩
theorem ways_told {g : Grd} {u : Wal} {l : List Rul} {t s : Int} {a d : Pnt} {axis : Int} (hx : 0 ≤ t ∧ t < s ∧ s ≤ 1000000 ∧ s - t ≤ 1000) (hW : walB g u = true) (hR : rulesB l = true) (hax : 0 ≤ axis ∧ axis ≤ 1) (hgo : (tgau g u l t s a d axis).ok = true) :
    gauE (tgau g u l t s a d axis) = 0 ∧ gauLo (tgau g u l t s a d axis) = -(boxS g u l t (boxC a d) axis (s - t).toNat) ∧ gauHi (tgau g u l t s a d axis) = -(boxS g u l t (boxC a d) axis (s - t).toNat) ∧ wrunE g u l t (s - t) = 0 := by
  have h := told_box hW hR hx.1 (boxC a d) hax (s - t).toNat
  refine ⟨by unfold gauE; rw [hgo]; rfl, ?_, ?_, ?_⟩
  · unfold gauLo; rw [hgo, if_pos rfl]; unfold Gau.lo tgau; simp only; omega
  · unfold gauHi; rw [hgo, if_pos rfl]; unfold Gau.hi tgau; simp only; omega
  · unfold wrunE; rw [hW, hR, Bool.and_true, if_pos rfl, if_pos (by unfold timesP; omega)]
theorem ways_in {g : Grd} {a d : Pnt} (hok : g.ok = true) (ho : onG g a d) {c : Int} (h0 : 0 ≤ c) (h1 : c < g.cs.length) : (inK g (boxC a d) c = true ↔ ((c.tmod g.w - a.x) * (c.tmod g.w - d.x) ≤ 0 ∧ (c.tdiv g.w - a.y) * (c.tdiv g.w - d.y) ≤ 0)) ∧ ((0 ≤ c.tmod g.w ∧ c.tmod g.w < g.w) ∧ 0 ≤ c.tdiv g.w ∧ c.tdiv g.w < g.h) := by
  obtain ⟨e1, e2, hx, hy⟩ := k_at hok h0 h1
  rw [between_mul, between_mul, e1, e2]
  refine ⟨?_, hx, hy⟩
  unfold inK inQ boxC
  rw [decide_eq_true_eq]
theorem mul_small {p q : Int} (hp : -64 ≤ p ∧ p ≤ 64) (hq : -64 ≤ q ∧ q ≤ 64) : -4096 ≤ p * q ∧ p * q ≤ 4096 := by
  have h1 : 0 ≤ (64 - p) * (64 + q) := Int.mul_nonneg (by omega) (by omega)
  have h2 : 0 ≤ (64 + p) * (64 - q) := Int.mul_nonneg (by omega) (by omega)
  have h3 : 0 ≤ (64 - p) * (64 - q) := Int.mul_nonneg (by omega) (by omega)
  have h4 : 0 ≤ (64 + p) * (64 + q) := Int.mul_nonneg (by omega) (by omega)
  simp only [Int.sub_mul, Int.mul_sub, Int.add_mul, Int.mul_add] at h1 h2 h3 h4
  omega
theorem ways_mul {g : Grd} {a d : Pnt} (hok : g.ok = true) (ho : onG g a d) {c : Int} (h0 : 0 ≤ c) (h1 : c < g.cs.length) : ((-64 ≤ c.tmod g.w - a.x ∧ c.tmod g.w - a.x ≤ 64) ∧ (-64 ≤ c.tmod g.w - d.x ∧ c.tmod g.w - d.x ≤ 64) ∧ (-64 ≤ c.tdiv g.w - a.y ∧ c.tdiv g.w - a.y ≤ 64) ∧ (-64 ≤ c.tdiv g.w - d.y ∧ c.tdiv g.w - d.y ≤ 64)) ∧ (-4096 ≤ (c.tmod g.w - a.x) * (c.tmod g.w - d.x) ∧ (c.tmod g.w - a.x) * (c.tmod g.w - d.x) ≤ 4096) ∧ (-4096 ≤ (c.tdiv g.w - a.y) * (c.tdiv g.w - d.y) ∧ (c.tdiv g.w - a.y) * (c.tdiv g.w - d.y) ≤ 4096) := by
  have hb := gok_bds hok
  have h := (ways_in hok ho h0 h1).2
  obtain ⟨⟨o1, o2⟩, o3, o4⟩ := ho
  have k1 : -64 ≤ c.tmod g.w - a.x ∧ c.tmod g.w - a.x ≤ 64 := by omega
  have k2 : -64 ≤ c.tmod g.w - d.x ∧ c.tmod g.w - d.x ≤ 64 := by omega
  have k3 : -64 ≤ c.tdiv g.w - a.y ∧ c.tdiv g.w - a.y ≤ 64 := by omega
  have k4 : -64 ≤ c.tdiv g.w - d.y ∧ c.tdiv g.w - d.y ≤ 64 := by omega
  exact ⟨⟨k1, k2, k3, k4⟩, mul_small k1 k2, mul_small k3 k4⟩
theorem in_yes {g : Grd} {x : Cel} {l : List Int} {j : Nat} (hj : j < l.length) (h : inK g x (l.getD j 0) = true) : sumL (inF g x) (l.take (j + 1)) = sumL (inF g x) (l.take j) + 1 ∧ sumL (ouF g x) (l.take (j + 1)) = sumL (ouF g x) (l.take j) := by
  rw [sumL_take _ hj, sumL_take _ hj]; unfold inF ouF; rw [h]; exact ⟨rfl, Int.add_zero _⟩
theorem in_no {g : Grd} {x : Cel} {l : List Int} {j : Nat} (hj : j < l.length) (h : ¬ inK g x (l.getD j 0) = true) : sumL (inF g x) (l.take (j + 1)) = sumL (inF g x) (l.take j) ∧ sumL (ouF g x) (l.take (j + 1)) = sumL (ouF g x) (l.take j) + 1 := by
  have h := Bool.eq_false_iff.2 h
  rw [sumL_take _ hj, sumL_take _ hj]; unfold inF ouF; rw [h]; exact ⟨Int.add_zero _, rfl⟩
theorem own_at {u : Wal} {b : Int} {n j : Nat} (hj : j < (ownL u b n).length) : 0 ≤ (ownL u b n).getD j 0 ∧ (ownL u b n).getD j 0 < n := ownL_mem (getD_mem 0 hj)
theorem ways_bd {g : Grd} {u : Wal} {l : List Rul} {t n : Int} (h : walB g u = true) (hr : rulesB l = true) (ht : 0 ≤ t) (hn : n ≤ 1000) {x : Cel} {axis : Int} {FE : Int → Int} (hFE : FE = fun b => if selB g u x b then drgA axis (drgS g u l t b n.toNat) else 0) {B : List Int} (hB : B = bodK u g.cs.length 9) :
    (∀ i : Nat, -100000000000000000 ≤ sumL FE (B.take i) ∧ sumL FE (B.take i) ≤ 100000000000000000) ∧ ∀ b, (selB g u x b = true → FE b = drgA axis (drgS g u l t b n.toNat)) ∧ (selB g u x b = false → FE b = 0) := by
  have hd := fun b => drgS_bd h hr ht b n.toNat
  have hf1 : ∀ b, -5000000000000000 ≤ FE b ∧ FE b ≤ 5000000000000000 := fun b => by
    have := hd b
    rw [hFE]; simp only
    split
    · unfold drgA; split <;> omega
    · omega
  refine ⟨fun i => ?_, fun b => ⟨fun hs => by rw [hFE]; simp only [hs, if_true], fun hs => by rw [hFE]; simp only [hs, Bool.false_eq_true, if_false]⟩⟩
  have h1 := sumL_bd hf1 (B.take i)
  have hl : (B.take i).length ≤ 9 := by
    have := bodK_len u g.cs.length 9
    rw [List.length_take, hB]; omega
  omega
theorem sel_t {g : Grd} {u : Wal} {x : Cel} {b : Int} (h : 0 < sumL (inF g x) (ownL u b g.cs.length)) : selB g u x b = true := decide_eq_true h
theorem sel_f {g : Grd} {u : Wal} {x : Cel} {b : Int} (h : ¬ 0 < sumL (inF g x) (ownL u b g.cs.length)) : selB g u x b = false := decide_eq_false h
end Go.Sy
