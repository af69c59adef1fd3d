/- Boxes and walls: the momentum in a box, and what flows in and out. -/
import Derived.Test.YthlabglgbglcgaaGreatSpGau
import Derived.Test.YthlabglgbglcgaaGreatSpGrid
import Derived.Test.YthlabglgbglcgaaGreatSpOrder
import Derived.Test.YthlabglgbglcgaaGreatSpRule
import Derived.Test.YthlabglgbglcgaaGreatSpRuns
set_option linter.unusedSimpArgs false
set_option linter.unusedVariables false
namespace Go.Sy
theorem tupB_eq {x : SV} {f : BF} {b : Bool} (h : f.b = b) : den (.tup [x, .bool f]) = den (.tup [x, .bool (.atom b)]) := by subst h; simp [den, denL, BF.b]
theorem tupF_eq {x : SV} {b : Bool} (h : b = false) : den (.tup [x, ofConst (.bool false)]) = den (.tup [x, .bool (.atom b)]) := by subst h; simp [den, denL, BF.b, den_ofConst]
theorem res_b2 {f f' : BF} (h : f.b = f'.b) : den (.bool f) = den (.bool f') := by simp [den, h]
/-! ### Boxes -/
def inQ (x : Cel) (p q : Int) : Bool := decide ((x.e ≤ p ∧ p ≤ x.w) ∧ x.n ≤ q ∧ q ≤ x.s)
def boxC (a d : Pnt) : Cel := ⟨min a.x d.x, min a.y d.y, max a.x d.x, max a.y d.y⟩
def onG (g : Grd) (a d : Pnt) : Prop := (0 ≤ min a.x d.x ∧ 0 ≤ min a.y d.y) ∧ max a.x d.x < g.w ∧ max a.y d.y < g.h
instance (g : Grd) (a d : Pnt) : Decidable (onG g a d) := by unfold onG; infer_instance
def inK (g : Grd) (x : Cel) (k : Int) : Bool := inQ x (k % g.w) (k / g.w)
/-- The momentum of a cell on an axis. -/
def cellM (axis : Int) (c : Cel) : Int := if axis = 0 then c.e - c.w else c.n - c.s
def momS (g : Grd) (x : Cel) (axis : Int) : Nat → Int
  | 0 => 0
  | k + 1 => momS g x axis k + (if inK g x k then cellM axis (g.cs.getD k default) else 0)
theorem momS_t {g : Grd} {x : Cel} {axis : Int} {k : Nat} (h : inK g x k = true) : momS g x axis (k + 1) = momS g x axis k + cellM axis (g.cs.getD k default) := by simp only [momS, h, if_true]
theorem momS_f {g : Grd} {x : Cel} {axis : Int} {k : Nat} (h : inK g x k = false) : momS g x axis (k + 1) = momS g x axis k := by simp [momS, h]
theorem cel_bd {g : Grd} (hg : g.ok = true) (k : Nat) : (0 ≤ (g.cs.getD k default).e ∧ (g.cs.getD k default).e ≤ 1000000000) ∧ (0 ≤ (g.cs.getD k default).n ∧ (g.cs.getD k default).n ≤ 1000000000) ∧ (0 ≤ (g.cs.getD k default).w ∧ (g.cs.getD k default).w ≤ 1000000000) ∧ 0 ≤ (g.cs.getD k default).s ∧ (g.cs.getD k default).s ≤ 1000000000 := by
  by_cases hi : k < g.cs.length
  · have := Cel.ok_iff.1 (okL_iff.1 (gok_okL hg) _ (getD_mem default hi))
    omega
  · rw [show g.cs.getD k default = (default : Cel) by rw [List.getD_eq_getElem?_getD, List.getElem?_eq_none (by omega)]; rfl]
    show (0 ≤ (0 : Int) ∧ (0 : Int) ≤ 1000000000) ∧ (0 ≤ (0 : Int) ∧ (0 : Int) ≤ 1000000000) ∧ (0 ≤ (0 : Int) ∧ (0 : Int) ≤ 1000000000) ∧ 0 ≤ (0 : Int) ∧ (0 : Int) ≤ 1000000000
    omega
theorem momS_bd {g : Grd} (hg : g.ok = true) (x : Cel) (axis : Int) : ∀ k : Nat, -(2000000000 * (k : Int)) ≤ momS g x axis k ∧ momS g x axis k ≤ 2000000000 * (k : Int)
  | 0 => by simp [momS]
  | k + 1 => by
    have ih := momS_bd hg x axis k
    have hc := cel_bd hg k
    have hm : -2000000000 ≤ cellM axis (g.cs.getD k default) ∧ cellM axis (g.cs.getD k default) ≤ 2000000000 := by unfold cellM; split <;> omega
    simp only [momS]
    split <;> omega
/-- Where the index of a cell lies. -/
theorem k_at {g : Grd} (hg : g.ok = true) {k : Int} (h0 : 0 ≤ k) (h1 : k < g.cs.length) : k.tmod g.w = k % g.w ∧ k.tdiv g.w = k / g.w ∧ (0 ≤ k % g.w ∧ k % g.w < g.w) ∧ 0 ≤ k / g.w ∧ k / g.w < g.h := by
  have hb := gok_bds hg
  have m1 := Int.emod_nonneg k (show g.w ≠ 0 by omega)
  have m2 := Int.emod_lt_of_pos k (show 0 < g.w by omega)
  have d1 := Int.ediv_nonneg h0 (show 0 ≤ g.w by omega)
  have d2 : k / g.w < g.h := Int.ediv_lt_of_lt_mul (show 0 < g.w by omega) (by rw [Int.mul_comm]; omega)
  exact ⟨Int.tmod_eq_emod_of_nonneg h0, Int.tdiv_eq_ediv_of_nonneg h0, ⟨m1, m2⟩, d1, d2⟩
/-! ### Walls -/
structure brk (k b : Int) : Prop where
  k0 : 0 ≤ k
  k3 : k ≤ 3
  lo : min k 1 ≤ b
  hi : b ≤ min k 1 * 9
instance (k b : Int) : Decidable (brk k b) := decidable_of_iff ((0 ≤ k ∧ k ≤ 3) ∧ min k 1 ≤ b ∧ b ≤ min k 1 * 9) ⟨fun h => ⟨h.1.1, h.1.2, h.2.1, h.2.2⟩, fun h => ⟨⟨h.k0, h.k3⟩, h.lo, h.hi⟩⟩
theorem brk_no {k b : Int} (h : ¬ ((0 ≤ k ∧ k ≤ 3) ∧ min k 1 ≤ b ∧ b ≤ min k 1 * 9)) : ¬ brk k b := fun q => h ⟨⟨q.k0, q.k3⟩, q.lo, q.hi⟩
theorem brk_of {k b : Int} (h : (0 ≤ k ∧ k ≤ 3) ∧ min k 1 ≤ b ∧ b ≤ min k 1 * 9) : brk k b := ⟨h.1.1, h.1.2, h.2.1, h.2.2⟩
def walB (g : Grd) (w : Wal) : Bool := decide (g.ok = true ∧ w.k.length = g.cs.length ∧ w.b.length = g.cs.length ∧ ∀ i, i < g.cs.length → brk (w.k.getD i 0) (w.b.getD i 0))
theorem wal_ok {g : Grd} {w : Wal} (h : walB g w = true) : g.ok = true ∧ w.k.length = g.cs.length ∧ w.b.length = g.cs.length ∧ ∀ i, i < g.cs.length → brk (w.k.getD i 0) (w.b.getD i 0) := of_decide_eq_true h
theorem wal_ways (g : Grd) (w : Wal) : (g.ok = false ∧ walB g w = false) ∨ (g.ok = true ∧ w.k.length ≠ g.cs.length ∧ walB g w = false) ∨ (g.ok = true ∧ w.k.length = g.cs.length ∧ w.b.length ≠ g.cs.length ∧ walB g w = false) ∨
    (g.ok = true ∧ w.k.length = g.cs.length ∧ w.b.length = g.cs.length ∧ True) := by
  cases hv : g.ok
  · exact .inl ⟨rfl, decide_eq_false fun q => by rw [hv] at q; cases q.1⟩
  · by_cases h1 : w.k.length = g.cs.length
    · by_cases h2 : w.b.length = g.cs.length
      · exact .inr (.inr (.inr ⟨rfl, h1, h2, trivial⟩))
      · exact .inr (.inr (.inl ⟨rfl, h1, h2, decide_eq_false fun q => h2 q.2.2.1⟩))
    · exact .inr (.inl ⟨rfl, h1, decide_eq_false fun q => h1 q.2.1⟩)
theorem wal_f {g : Grd} {w : Wal} {k : Nat} (hk : k < g.cs.length) (h : ¬ brk (w.k.getD k 0) (w.b.getD k 0)) : walB g w = false := decide_eq_false fun q => h (q.2.2.2 k hk)
theorem wal_t {g : Grd} {w : Wal} (h0 : g.ok = true) (h1 : w.k.length = g.cs.length) (h2 : w.b.length = g.cs.length) (h : ∀ i, i < g.cs.length → brk (w.k.getD i 0) (w.b.getD i 0)) : walB g w = true := decide_eq_true ⟨h0, h1, h2, h⟩
theorem brk_more {w : Wal} {k : Nat} (h : ∀ j, j < k → brk (w.k.getD j 0) (w.b.getD j 0)) (hk : brk (w.k.getD k 0) (w.b.getD k 0)) : ∀ j, j < k + 1 → brk (w.k.getD j 0) (w.b.getD j 0) := fun j hj => by
  by_cases e : j = k
  · subst e; exact hk
  · exact h j (by omega)
/-- What a kind of wall makes of a cell. -/
def wsent (k : Int) (c : Cel) : Cel := if k = 1 then ⟨c.w, c.s, c.e, c.n⟩ else if k = 2 then ⟨c.n, c.e, c.s, c.w⟩ else if k = 3 then ⟨c.s, c.w, c.n, c.e⟩ else c
theorem wsent_ok {k : Int} {c : Cel} (h : c.ok = true) : (wsent k c).ok = true := by
  have h1 := Cel.ok_iff.1 h
  refine Cel.ok_iff.2 ?_
  unfold wsent
  split
  · simp only; omega
  · split
    · simp only; omega
    · split
      · simp only; omega
      · exact h1
def sntE (c : Cel) (k : Int) : Int := if c.ok then (if 0 ≤ k ∧ k ≤ 3 then 0 else 7) else 1
def sntR (c : Cel) (k : Int) : Cel := if sntE c k = 0 then wsent k c else ⟨0, 0, 0, 0⟩
theorem snt_ways (c : Cel) (k : Int) : (c.ok = false ∧ sntE c k = 1 ∧ sntR c k = ⟨0, 0, 0, 0⟩) ∨ (c.ok = true ∧ ¬ (0 ≤ k ∧ k ≤ 3) ∧ sntE c k = 7 ∧ sntR c k = ⟨0, 0, 0, 0⟩) ∨ (c.ok = true ∧ (0 ≤ k ∧ k ≤ 3) ∧ sntE c k = 0 ∧ sntR c k = wsent k c) := by
  cases hv : c.ok
  · exact .inl ⟨rfl, by simp [sntE, hv], by simp [sntR, sntE, hv]⟩
  · by_cases hk : 0 ≤ k ∧ k ≤ 3
    · exact .inr (.inr ⟨rfl, hk, by simp only [sntE, hv, if_true, if_pos hk], by simp only [sntR, sntE, hv, if_true, if_pos hk]⟩)
    · exact .inr (.inl ⟨rfl, hk, by simp only [sntE, hv, if_true, if_neg hk], by simp only [sntR, sntE, hv, if_true, if_neg hk]; rfl⟩)
/-- A cell after the collision, or the wall, of a step. -/
def metC (r : Rul) (k : Int) (c : Cel) : Cel := if k = 0 then c.after r else wsent k c
theorem metC_ok {r : Rul} {k : Int} {c : Cel} (h : c.ok = true) (hr : r.ok = true) : (metC r k c).ok = true := by
  unfold metC
  split
  · exact Cel.after_ok h hr
  · exact wsent_ok h
theorem collide_ok {c : Cel} {r : Rul} (h : c.ok = true) (hr : r.ok = true) : c.collide r = (c.after r, 0) := by simp [Cel.collide, h, hr]
/-! ### What flows -/
def alg (d axis : Int) : Int := if d % 2 = axis then (if d < 2 then 1 else -1) else 0
def dirV (c : Cel) (d : Nat) : Int := match d with
  | 0 => c.e
  | 1 => c.n
  | 2 => c.w
  | _ => c.s
def cntV (axis : Int) (c : Cel) (d : Nat) : Int := dirV c d * alg d axis
theorem alg_mul {a : Int} (h : 0 ≤ a ∧ a ≤ 1000000000) (d axis : Int) : -1000000000 ≤ a * alg d axis ∧ a * alg d axis ≤ 1000000000 := by
  unfold alg
  split
  · split <;> omega
  · omega
theorem alg_mulC {a : Int} (h : 0 ≤ a ∧ a ≤ 1000000000) (d axis : Int) : -1000000000 ≤ alg d axis * a ∧ alg d axis * a ≤ 1000000000 := by rw [Int.mul_comm]; exact alg_mul h d axis
def nxX (g : Grd) (k : Int) (d : Nat) : Int := match d with
  | 0 => (k % g.w + 1) % g.w
  | 2 => (k % g.w + g.w - 1) % g.w
  | _ => k % g.w
def nxY (g : Grd) (k : Int) (d : Nat) : Int := match d with
  | 1 => (k / g.w + 1) % g.h
  | 3 => (k / g.w + g.h - 1) % g.h
  | _ => k / g.w
theorem nx_in {g : Grd} (hg : g.ok = true) {k : Int} (h0 : 0 ≤ k) (h1 : k < g.cs.length) (d : Nat) : (0 ≤ nxX g k d ∧ nxX g k d < g.w) ∧ 0 ≤ nxY g k d ∧ nxY g k d < g.h := by
  have hb := gok_bds hg
  have hk := k_at hg h0 h1
  have e1 := fun a : Int => Int.emod_nonneg a (show g.w ≠ 0 by omega)
  have e2 := fun a : Int => Int.emod_lt_of_pos a (show 0 < g.w by omega)
  have e3 := fun a : Int => Int.emod_nonneg a (show g.h ≠ 0 by omega)
  have e4 := fun a : Int => Int.emod_lt_of_pos a (show 0 < g.h by omega)
  refine ⟨?_, ?_⟩
  · unfold nxX; split
    · exact ⟨e1 _, e2 _⟩
    · exact ⟨e1 _, e2 _⟩
    · exact hk.2.2.1
  · unfold nxY; split
    · exact ⟨e3 _, e4 _⟩
    · exact ⟨e3 _, e4 _⟩
    · exact hk.2.2.2
def nxK (g : Grd) (k : Int) (d : Nat) : Int := nxX g k d + g.w * nxY g k d
theorem nxK_at {g : Grd} (hg : g.ok = true) {k : Int} (h0 : 0 ≤ k) (h1 : k < g.cs.length) (d : Nat) : (nxK g k d) % g.w = nxX g k d ∧ (nxK g k d) / g.w = nxY g k d ∧ 0 ≤ nxK g k d ∧ nxK g k d < g.cs.length := by
  have hb := gok_bds hg
  have hn := nx_in hg h0 h1 d
  have h2 : g.w * nxY g k d ≤ g.w * (g.h - 1) := Int.mul_le_mul_of_nonneg_left (by omega) (by omega)
  have h3 : 0 ≤ g.w * nxY g k d := Int.mul_nonneg (by omega) (by omega)
  have h4 : g.w * (g.h - 1) = g.w * g.h - g.w := by rw [Int.mul_sub, Int.mul_one]
  refine ⟨?_, ?_, ?_, ?_⟩
  · unfold nxK; rw [Int.add_mul_emod_self_left]; exact Int.emod_eq_of_lt hn.1.1 hn.1.2
  · unfold nxK; rw [Int.add_mul_ediv_left _ _ (by omega), Int.ediv_eq_zero_of_lt hn.1.1 hn.1.2, Int.zero_add]
  · unfold nxK; omega
  · unfold nxK; omega
theorem inK_nx {g : Grd} (hg : g.ok = true) {k : Int} (h0 : 0 ≤ k) (h1 : k < g.cs.length) (d : Nat) (x : Cel) : inK g x (nxK g k d) = inQ x (nxX g k d) (nxY g k d) := by
  have h := nxK_at hg h0 h1 d
  unfold inK; rw [h.1, h.2.1]
def toB (g : Grd) (x : Cel) (k : Int) (d : Nat) : Bool := inQ x (nxX g k d) (nxY g k d)
def flD (g : Grd) (x : Cel) (axis : Int) (c : Cel) (k : Int) (p : Int × Int) : Nat → Int × Int
  | 0 => p
  | d + 1 => (if !inK g x k && toB g x k d then (flD g x axis c k p d).1 + cntV axis c d else (flD g x axis c k p d).1, if inK g x k && !toB g x k d then (flD g x axis c k p d).2 + cntV axis c d else (flD g x axis c k p d).2)
def flS (g : Grd) (w : Wal) (r : Rul) (x : Cel) (axis : Int) : Nat → Int × Int
  | 0 => (0, 0)
  | k + 1 => flD g x axis (metC r (w.k.getD k 0) (g.cs.getD k default)) k (flS g w r x axis k) 4
/-- Where the reference finds the neighbours. -/
theorem to_ref {g : Grd} (hok : g.ok = true) {k : Int} (hk : k.tmod g.w = k % g.w ∧ k.tdiv g.w = k / g.w ∧ (0 ≤ k % g.w ∧ k % g.w < g.w) ∧ 0 ≤ k / g.w ∧ k / g.w < g.h) (X : Cel) :
    inQ X ((k.tmod g.w + 1 + g.w).tmod g.w) ((k.tdiv g.w + 0 + g.h).tmod g.h) = toB g X k 0 ∧ inQ X ((k.tmod g.w + 0 + g.w).tmod g.w) ((k.tdiv g.w + 1 + g.h).tmod g.h) = toB g X k 1 ∧
    inQ X ((k.tmod g.w + -1 + g.w).tmod g.w) ((k.tdiv g.w + 0 + g.h).tmod g.h) = toB g X k 2 ∧ inQ X ((k.tmod g.w + 0 + g.w).tmod g.w) ((k.tdiv g.w + -1 + g.h).tmod g.h) = toB g X k 3 := by
  have hb := gok_bds hok
  obtain ⟨e1, e2, hx, hy⟩ := hk
  rw [e1, e2]
  have m : ∀ {p n : Int}, 0 ≤ p → p < n → (p + 0 + n).tmod n = p := fun {p n} h1 h2 => by
    rw [Int.tmod_eq_emod_of_nonneg (by omega), Int.add_zero, Int.add_emod_right]; exact Int.emod_eq_of_lt h1 h2
  have u : ∀ {p n : Int}, 0 ≤ p → p < n → (p + 1 + n).tmod n = (p + 1) % n := fun {p n} h1 h2 => by
    rw [Int.tmod_eq_emod_of_nonneg (by omega), Int.add_emod_right]
  have d : ∀ {p n : Int}, 0 ≤ p → p < n → (p + -1 + n).tmod n = (p + n - 1) % n := fun {p n} h1 h2 => by
    rw [Int.tmod_eq_emod_of_nonneg (by omega)]; congr 1; omega
  refine ⟨?_, ?_, ?_, ?_⟩
  · rw [u hx.1 hx.2, m hy.1 hy.2]; rfl
  · rw [m hx.1 hx.2, u hy.1 hy.2]; rfl
  · rw [d hx.1 hx.2, m hy.1 hy.2]; rfl
  · rw [m hx.1 hx.2, d hy.1 hy.2]; rfl
theorem flD_tf {g : Grd} {x : Cel} {axis : Int} {c : Cel} {k : Int} {p : Int × Int} {d : Nat} (h1 : inK g x k = true) (h2 : toB g x k d = false) : flD g x axis c k p (d + 1) = ((flD g x axis c k p d).1, (flD g x axis c k p d).2 + cntV axis c d) := by simp [flD, h1, h2]
theorem flD_ft {g : Grd} {x : Cel} {axis : Int} {c : Cel} {k : Int} {p : Int × Int} {d : Nat} (h1 : inK g x k = false) (h2 : toB g x k d = true) : flD g x axis c k p (d + 1) = ((flD g x axis c k p d).1 + cntV axis c d, (flD g x axis c k p d).2) := by simp [flD, h1, h2]
theorem flD_tt {g : Grd} {x : Cel} {axis : Int} {c : Cel} {k : Int} {p : Int × Int} {d : Nat} (h1 : inK g x k = true) (h2 : toB g x k d = true) : flD g x axis c k p (d + 1) = flD g x axis c k p d := by simp [flD, h1, h2]
theorem flD_ff {g : Grd} {x : Cel} {axis : Int} {c : Cel} {k : Int} {p : Int × Int} {d : Nat} (h1 : inK g x k = false) (h2 : toB g x k d = false) : flD g x axis c k p (d + 1) = flD g x axis c k p d := by simp [flD, h1, h2]
theorem cntV_bd {axis : Int} {c : Cel} (h : c.ok = true) (d : Nat) : -1000000000 ≤ cntV axis c d ∧ cntV axis c d ≤ 1000000000 := by
  have := Cel.ok_iff.1 h
  refine alg_mul ?_ _ _
  unfold dirV
  split <;> omega
theorem flD_bd {g : Grd} {x : Cel} {axis : Int} {c : Cel} {k : Int} {p : Int × Int} (h : c.ok = true) {m : Int} (hp : (-m ≤ p.1 ∧ p.1 ≤ m) ∧ -m ≤ p.2 ∧ p.2 ≤ m) : ∀ d : Nat, (-(m + 1000000000 * d) ≤ (flD g x axis c k p d).1 ∧ (flD g x axis c k p d).1 ≤ m + 1000000000 * d) ∧ -(m + 1000000000 * d) ≤ (flD g x axis c k p d).2 ∧ (flD g x axis c k p d).2 ≤ m + 1000000000 * d
  | 0 => by simp only [flD]; omega
  | d + 1 => by
    have ih := flD_bd (x := x) (g := g) (axis := axis) (k := k) h hp d
    have hc := cntV_bd (axis := axis) h d
    simp only [flD]
    refine ⟨?_, ?_⟩ <;> split <;> omega
theorem flS_bd {g : Grd} {w : Wal} {r : Rul} (hg : g.ok = true) (hr : r.ok = true) (x : Cel) (axis : Int) : ∀ k : Nat, k ≤ g.cs.length → (-(4000000000 * (k : Int)) ≤ (flS g w r x axis k).1 ∧ (flS g w r x axis k).1 ≤ 4000000000 * k) ∧ -(4000000000 * (k : Int)) ≤ (flS g w r x axis k).2 ∧ (flS g w r x axis k).2 ≤ 4000000000 * k
  | 0, _ => by simp [flS]
  | k + 1, hk => by
    have ih := flS_bd hg hr (w := w) x axis k (by omega)
    have hc : (g.cs.getD k default).ok = true := okL_iff.1 (gok_okL hg) _ (getD_mem default (by omega))
    have := flD_bd (g := g) (x := x) (axis := axis) (k := (k : Int)) (metC_ok (k := w.k.getD k 0) hc hr) ih 4
    simp only [flS]
    omega
/-! ### What the layer answers -/
def askE (g : Grd) (w : Wal) (l : List Rul) : Int := if walB g w && rulesB l then 0 else 1
theorem ask_ways (g : Grd) (w : Wal) (l : List Rul) : (g.ok = false ∧ walB g w = false ∧ True ∧ askE g w l = 1) ∨ (g.ok = true ∧ walB g w = false ∧ True ∧ askE g w l = 1) ∨ (g.ok = true ∧ walB g w = true ∧ rulesB l = false ∧ askE g w l = 1) ∨ (g.ok = true ∧ walB g w = true ∧ rulesB l = true ∧ askE g w l = 0) := by
  cases hw : walB g w
  · cases hv : g.ok
    · exact .inl ⟨rfl, rfl, trivial, by simp [askE, hw]⟩
    · exact .inr (.inl ⟨rfl, rfl, trivial, by simp [askE, hw]⟩)
  · have hv := (wal_ok hw).1
    cases hr : rulesB l
    · exact .inr (.inr (.inl ⟨hv, rfl, rfl, by simp [askE, hw, hr]⟩))
    · exact .inr (.inr (.inr ⟨hv, rfl, rfl, by simp [askE, hw, hr]⟩))
theorem ask_ok {g : Grd} {w : Wal} {l : List Rul} (h : askE g w l = 0) : g.ok = true := by
  rcases ask_ways g w l with ⟨_, _, _, hA⟩ | ⟨_, _, _, hA⟩ | ⟨_, _, _, hA⟩ | ⟨hv, _, _, _⟩
  · omega
  · omega
  · omega
  · exact hv
end Go.Sy

/- Runs of a grid between walls. -/
set_option linter.unusedSimpArgs false
set_option linter.unusedVariables false
namespace Go.Sy
theorem wsent_m (k : Int) (c : Cel) : (wsent k c).m = c.m := by
  unfold wsent Cel.m
  split
  · simp only; omega
  · split
    · simp only; omega
    · split
      · simp only; omega
      · rfl
theorem metC_m (r : Rul) (k : Int) (c : Cel) : (metC r k c).m = c.m := by
  unfold metC
  split
  · exact (Cel.after_m r).1
  · exact wsent_m k c
def metF (r : Rul) (w : Wal) (cs : List Cel) (j : Nat) : Cel := metC r (w.k.getD j 0) (cs.getD j default)
def metL (r : Rul) (w : Wal) (cs : List Cel) : List Cel := prog (metF r w cs) cs.length cs
theorem metL_length (r : Rul) (w : Wal) (cs : List Cel) : (metL r w cs).length = cs.length := prog_length _ _ _
theorem massL_setW (cs : List Cel) (v : Cel) : ∀ (k : Nat), k < cs.length → massL (cs.set k v) = massL cs - (cs.getD k default).m + v.m := by
  induction cs with
  | nil => intro k hk; simp at hk
  | cons c cs ih =>
    intro k hk
    cases k with
    | zero => simp [massL]; omega
    | succ k =>
      have := ih k (by simpa using hk)
      simp only [List.set_cons_succ, massL, List.getD_cons_succ]; omega
theorem massL_met (r : Rul) (w : Wal) (cs : List Cel) : ∀ k : Nat, k ≤ cs.length → massL (prog (metF r w cs) k cs) = massL cs
  | 0, _ => by rw [prog_zero]
  | k + 1, hk => by
    have ih := massL_met r w cs k (by omega)
    rw [← prog_set (metF r w cs) k cs rfl, massL_setW _ _ k (by rw [prog_length]; omega), ih, prog_getD _ _ _ (by omega), if_neg (Nat.lt_irrefl k)]
    unfold metF
    rw [metC_m]; omega
theorem gok_met {g : Grd} {r : Rul} (hr : r.ok = true) (w : Wal) (h : g.ok = true) : (⟨g.w, g.h, metL r w g.cs⟩ : Grd).ok = true := by
  obtain ⟨h1, h2, h3, h4⟩ := Grd.ok_iff.1 h
  refine gok_mk h1 (by rw [metL_length]; exact h2) (okL_nn (okL_iff.2 fun c hc => ?_)) (by unfold metL; rw [massL_met _ _ _ _ (Nat.le_refl _)]; exact h4)
  unfold metL at hc
  rw [prog_full _ _ (Nat.le_refl _)] at hc
  obtain ⟨j, hj, rfl⟩ := List.mem_map.1 hc
  exact metC_ok (okL_at (gok_okL h) (List.mem_range.1 hj)) hr
def walkC (w h : Int) (u : Wal) (ρ : Nat → Rul) (cs : List Cel) : Nat → List Cel
  | 0 => cs
  | k + 1 => flow w h 1 (metL (ρ k) u (walkC w h u ρ cs k))
theorem walkC_length (w h : Int) (u : Wal) (ρ : Nat → Rul) (cs : List Cel) : ∀ k, (walkC w h u ρ cs k).length = cs.length
  | 0 => rfl
  | k + 1 => by rw [walkC, flow_length, metL_length, walkC_length w h u ρ cs k]
theorem walkC_ok {g : Grd} {u : Wal} {ρ : Nat → Rul} (h : g.ok = true) (hr : ∀ k, (ρ k).ok = true) : ∀ k, (⟨g.w, g.h, walkC g.w g.h u ρ g.cs k⟩ : Grd).ok = true
  | 0 => h
  | k + 1 => gok_flow (g := ⟨g.w, g.h, metL (ρ k) u (walkC g.w g.h u ρ g.cs k)⟩) 1 (gok_met (hr k) u (walkC_ok h hr k))
theorem metF_e {r : Rul} {w : Wal} {cs : List Cel} {j : Nat} (ho : (cs.getD j default).ok = true) (hr : r.ok = true) (h : w.k.getD j 0 = 0) : (Cel.collide (cs.getD j default) r).1 = metF r w cs j := by
  rw [collide_ok ho hr]; unfold metF metC; rw [if_pos h]
theorem metF_a {r : Rul} {w : Wal} {cs : List Cel} {j : Nat} (h : w.k.getD j 0 = 0) : (cs.getD j default).after r = metF r w cs j := by
  unfold metF metC; rw [if_pos h]
theorem metF_n {r : Rul} {w : Wal} {cs : List Cel} {j : Nat} (h : w.k.getD j 0 ≠ 0) : wsent (w.k.getD j 0) (cs.getD j default) = metF r w cs j := by
  unfold metF metC; rw [if_neg h]
def wrunE (g : Grd) (u : Wal) (l : List Rul) (t n : Int) : Int := if walB g u && rulesB l then (if timesP t n then 0 else 7) else 1
def wrunG (g : Grd) (u : Wal) (l : List Rul) (t n : Int) : Grd := if wrunE g u l t n = 0 then ⟨g.w, g.h, walkC g.w g.h u (rho l t) g.cs n.toNat⟩ else ⟨0, 0, []⟩
theorem wrun_ways (g : Grd) (u : Wal) (l : List Rul) (t n : Int) : (walB g u = false ∧ True ∧ True ∧ wrunE g u l t n = 1 ∧ wrunG g u l t n = ⟨0, 0, []⟩) ∨ (walB g u = true ∧ rulesB l = false ∧ True ∧ wrunE g u l t n = 1 ∧ wrunG g u l t n = ⟨0, 0, []⟩) ∨
    (walB g u = true ∧ rulesB l = true ∧ ¬ ((0 ≤ t ∧ t ≤ 1000000) ∧ (0 ≤ n ∧ n ≤ 1000) ∧ (0 < n → t + n - 1 ≤ 1000000)) ∧ wrunE g u l t n = 7 ∧ wrunG g u l t n = ⟨0, 0, []⟩) ∨
    (walB g u = true ∧ rulesB l = true ∧ ((0 ≤ t ∧ t ≤ 1000000) ∧ (0 ≤ n ∧ n ≤ 1000) ∧ (0 < n → t + n - 1 ≤ 1000000)) ∧ wrunE g u l t n = 0 ∧ wrunG g u l t n = ⟨g.w, g.h, walkC g.w g.h u (rho l t) g.cs n.toNat⟩ ∧
      (1 ≤ l.length ∧ l.length ≤ 8) ∧ (1 ≤ g.cs.length ∧ g.cs.length ≤ 1024) ∧ (∀ k, (rho l t k).ok = true ∧ 0 ≤ (t + (k : Int)).tmod (l.length : Int) ∧ (t + (k : Int)).tmod (l.length : Int) < l.length) ∧
      (∀ k, (⟨g.w, g.h, walkC g.w g.h u (rho l t) g.cs k⟩ : Grd).ok = true ∧ okL (walkC g.w g.h u (rho l t) g.cs k) = true ∧ (walkC g.w g.h u (rho l t) g.cs k).length = g.cs.length) ∧
      u.k.length = g.cs.length ∧ u.b.length = g.cs.length ∧ ∀ i, i < g.cs.length → brk (u.k.getD i 0) (u.b.getD i 0)) := by
  have no : wrunE g u l t n ≠ 0 → wrunG g u l t n = ⟨0, 0, []⟩ := fun h => if_neg h
  cases h : walB g u
  · have e : wrunE g u l t n = 1 := by simp [wrunE, h]
    exact .inl ⟨rfl, trivial, trivial, e, no (by omega)⟩
  · cases hr : rulesB l
    · have e : wrunE g u l t n = 1 := by simp [wrunE, hr]
      exact .inr (.inl ⟨rfl, rfl, trivial, e, no (by omega)⟩)
    · by_cases ht : timesP t n
      · have e : wrunE g u l t n = 0 := by simp [wrunE, h, hr, ht]
        obtain ⟨hok, w1, w2, w3⟩ := wal_ok h
        have hb := gok_bds hok
        have h1 := rulesB_iff.1 hr
        have ho := fun k => rho_ok hr ht.1.1 k
        refine .inr (.inr (.inr ⟨rfl, rfl, ht, e, if_pos e, h1.1, by omega, ho, fun k => ?_, w1, w2, w3⟩))
        have := walkC_ok (u := u) hok (fun k => (ho k).1) k
        exact ⟨this, gok_okL this, walkC_length ..⟩
      · have e : wrunE g u l t n = 7 := by simp only [wrunE, h, hr, Bool.and_true, if_true, if_neg ht]
        exact .inr (.inr (.inl ⟨rfl, rfl, ht, e, no (by omega)⟩))
end Go.Sy

/- The gauge of a box over some steps. -/
set_option linter.unusedSimpArgs false
set_option linter.unusedVariables false
namespace Go.Sy
theorem walB_at {g g' : Grd} {u : Wal} (h : walB g u = true) (hg : g'.ok = true) (hl : g'.cs.length = g.cs.length) : walB g' u = true := by
  obtain ⟨_, w1, w2, w3⟩ := wal_ok h
  exact decide_eq_true ⟨hg, by rw [w1, hl], by rw [w2, hl], fun i hi => w3 i (by omega)⟩
/-- The grid after some steps between walls. -/
def wgr (g : Grd) (u : Wal) (l : List Rul) (t : Int) (k : Nat) : Grd := ⟨g.w, g.h, walkC g.w g.h u (rho l t) g.cs k⟩
theorem rho_more (l : List Rul) (t : Int) (k : Nat) : rho l (t + (k : Int)) 0 = rho l t k := by unfold rho; simp
theorem wgr_ok {g : Grd} {u : Wal} {l : List Rul} {t : Int} (h : walB g u = true) (hr : rulesB l = true) (ht : 0 ≤ t) (k : Nat) : (wgr g u l t k).ok = true ∧ walB (wgr g u l t k) u = true ∧ (wgr g u l t k).cs.length = g.cs.length := by
  have hok := (wal_ok h).1
  have h1 := walkC_ok (u := u) hok (ρ := rho l t) (fun k => (rho_ok hr ht k).1) k
  exact ⟨h1, walB_at h h1 (walkC_length ..), walkC_length ..⟩
/-- A step more. -/
theorem wgr_step {g : Grd} {u : Wal} {l : List Rul} {t : Int} (h : walB g u = true) (hr : rulesB l = true) (ht : 0 ≤ t) {k : Nat} (hk : t + (k : Int) ≤ 1000000) : wrunE (wgr g u l t k) u l (t + k) 1 = 0 ∧ wrunG (wgr g u l t k) u l (t + k) 1 = wgr g u l t (k + 1) := by
  have hw := wgr_ok h hr ht k
  have e : wrunE (wgr g u l t k) u l (t + k) 1 = 0 := by
    unfold wrunE
    rw [hw.2.1, hr, Bool.and_true, if_pos rfl, if_pos (by unfold timesP; omega)]
  refine ⟨e, ?_⟩
  unfold wrunG
  rw [if_pos e]
  show (⟨g.w, g.h, flow g.w g.h 1 (metL (rho l (t + k) 0) u (wgr g u l t k).cs)⟩ : Grd) = _
  rw [rho_more]; rfl
/-- What comes in and goes out in so many steps. -/
def tolS (g : Grd) (u : Wal) (l : List Rul) (t : Int) (x : Cel) (axis : Int) : Nat → Int × Int
  | 0 => (0, 0)
  | k + 1 => ((tolS g u l t x axis k).1 + (flS (wgr g u l t k) u (rho l t k) x axis g.cs.length).1, (tolS g u l t x axis k).2 + (flS (wgr g u l t k) u (rho l t k) x axis g.cs.length).2)
theorem fl_bd {g : Grd} {u : Wal} {l : List Rul} {t : Int} (h : walB g u = true) (hr : rulesB l = true) (ht : 0 ≤ t) (x : Cel) (axis : Int) (k : Nat) : (-5000000000000 ≤ (flS (wgr g u l t k) u (rho l t k) x axis g.cs.length).1 ∧ (flS (wgr g u l t k) u (rho l t k) x axis g.cs.length).1 ≤ 5000000000000) ∧ -5000000000000 ≤ (flS (wgr g u l t k) u (rho l t k) x axis g.cs.length).2 ∧ (flS (wgr g u l t k) u (rho l t k) x axis g.cs.length).2 ≤ 5000000000000 := by
  have hw := wgr_ok h hr ht k
  have hb := gok_bds (wal_ok h).1
  have := flS_bd hw.1 (rho_ok hr ht k).1 (w := u) x axis g.cs.length (by omega)
  omega
theorem tolS_bd {g : Grd} {u : Wal} {l : List Rul} {t : Int} (h : walB g u = true) (hr : rulesB l = true) (ht : 0 ≤ t) (x : Cel) (axis : Int) : ∀ k : Nat, (-(5000000000000 * (k : Int)) ≤ (tolS g u l t x axis k).1 ∧ (tolS g u l t x axis k).1 ≤ 5000000000000 * k) ∧ -(5000000000000 * (k : Int)) ≤ (tolS g u l t x axis k).2 ∧ (tolS g u l t x axis k).2 ≤ 5000000000000 * k
  | 0 => by simp [tolS]
  | k + 1 => by
    have ih := tolS_bd h hr ht x axis k
    have hf := fl_bd h hr ht x axis k
    simp only [tolS]; omega
/-- The gauge of sharp numbers. -/
def tgau (g : Grd) (u : Wal) (l : List Rul) (t s : Int) (a d : Pnt) (axis : Int) : Gau :=
  ⟨t, s, momS g (boxC a d) axis g.cs.length, momS g (boxC a d) axis g.cs.length, (tolS g u l t (boxC a d) axis (s - t).toNat).1, (tolS g u l t (boxC a d) axis (s - t).toNat).1, (tolS g u l t (boxC a d) axis (s - t).toNat).2, (tolS g u l t (boxC a d) axis (s - t).toNat).2,
   momS (wgr g u l t (s - t).toNat) (boxC a d) axis g.cs.length, momS (wgr g u l t (s - t).toNat) (boxC a d) axis g.cs.length⟩
def tolP (g : Grd) (t s : Int) (a d : Pnt) (axis : Int) : Prop := (onG g a d ∧ 0 ≤ axis ∧ axis ≤ 1) ∧ 0 ≤ t ∧ t < s ∧ s ≤ 1000000 ∧ s - t ≤ 1000
instance (g : Grd) (t s : Int) (a d : Pnt) (axis : Int) : Decidable (tolP g t s a d axis) := by unfold tolP; infer_instance
def tolE (g : Grd) (u : Wal) (l : List Rul) (t s : Int) (a d : Pnt) (axis : Int) : Int := if askE g u l = 0 then (if tolP g t s a d axis then (if (tgau g u l t s a d axis).ok then 0 else 4) else 7) else 1
def tolR (g : Grd) (u : Wal) (l : List Rul) (t s : Int) (a d : Pnt) (axis : Int) : Gau := if tolE g u l t s a d axis = 0 then tgau g u l t s a d axis else ⟨0, 0, 0, 0, 0, 0, 0, 0, 0, 0⟩
theorem tol_ways (g : Grd) (u : Wal) (l : List Rul) (t s : Int) (a d : Pnt) (axis : Int) : (askE g u l = 1 ∧ True ∧ True ∧ tolE g u l t s a d axis = 1 ∧ tolR g u l t s a d axis = ⟨0, 0, 0, 0, 0, 0, 0, 0, 0, 0⟩ ∧ True) ∨
    (askE g u l = 0 ∧ decide (onG g a d) = false ∧ decide (onG g a d ∧ 0 ≤ axis ∧ axis ≤ 1) = false ∧ tolE g u l t s a d axis = 7 ∧ tolR g u l t s a d axis = ⟨0, 0, 0, 0, 0, 0, 0, 0, 0, 0⟩ ∧ True) ∨
    (askE g u l = 0 ∧ decide (onG g a d) = true ∧ decide (onG g a d ∧ 0 ≤ axis ∧ axis ≤ 1) = false ∧ tolE g u l t s a d axis = 7 ∧ tolR g u l t s a d axis = ⟨0, 0, 0, 0, 0, 0, 0, 0, 0, 0⟩ ∧ ¬ (0 ≤ axis ∧ axis ≤ 1)) ∨
    (askE g u l = 0 ∧ decide (onG g a d) = true ∧ decide (onG g a d ∧ 0 ≤ axis ∧ axis ≤ 1) = true ∧ tolE g u l t s a d axis = 7 ∧ tolR g u l t s a d axis = ⟨0, 0, 0, 0, 0, 0, 0, 0, 0, 0⟩ ∧ ¬ (0 ≤ t ∧ t < s ∧ s ≤ 1000000 ∧ s - t ≤ 1000)) ∨
    (askE g u l = 0 ∧ decide (onG g a d) = true ∧ decide (onG g a d ∧ 0 ≤ axis ∧ axis ≤ 1) = true ∧ tolE g u l t s a d axis = 4 ∧ tolR g u l t s a d axis = ⟨0, 0, 0, 0, 0, 0, 0, 0, 0, 0⟩ ∧ (0 ≤ t ∧ t < s ∧ s ≤ 1000000 ∧ s - t ≤ 1000) ∧ walB g u = true ∧ rulesB l = true ∧ (0 ≤ axis ∧ axis ≤ 1) ∧ (tgau g u l t s a d axis).ok = false) ∨
    (askE g u l = 0 ∧ decide (onG g a d) = true ∧ decide (onG g a d ∧ 0 ≤ axis ∧ axis ≤ 1) = true ∧ tolE g u l t s a d axis = 0 ∧ tolR g u l t s a d axis = tgau g u l t s a d axis ∧ (0 ≤ t ∧ t < s ∧ s ≤ 1000000 ∧ s - t ≤ 1000) ∧ walB g u = true ∧ rulesB l = true ∧ (0 ≤ axis ∧ axis ≤ 1) ∧ (tgau g u l t s a d axis).ok = true) := by
  rcases ask_ways g u l with ⟨_, _, _, hA⟩ | ⟨_, _, _, hA⟩ | ⟨_, _, _, hA⟩ | ⟨_, hW, hR, hA⟩
  · exact .inl ⟨hA, trivial, trivial, by simp [tolE, hA], by simp [tolR, tolE, hA], trivial⟩
  · exact .inl ⟨hA, trivial, trivial, by simp [tolE, hA], by simp [tolR, tolE, hA], trivial⟩
  · exact .inl ⟨hA, trivial, trivial, by simp [tolE, hA], by simp [tolR, tolE, hA], trivial⟩
  · refine .inr ?_
    by_cases ho : onG g a d
    · by_cases hx : 0 ≤ axis ∧ axis ≤ 1
      · by_cases ht : 0 ≤ t ∧ t < s ∧ s ≤ 1000000 ∧ s - t ≤ 1000
        · have h8 : tolP g t s a d axis := ⟨⟨ho, hx⟩, ht⟩
          cases hq : (tgau g u l t s a d axis).ok
          · have e : tolE g u l t s a d axis = 4 := by simp only [tolE, hA, if_true, if_pos h8, hq, Bool.false_eq_true, if_false]
            exact .inr (.inr (.inr (.inl ⟨hA, decide_eq_true ho, decide_eq_true ⟨ho, hx⟩, e, by unfold tolR; rw [e]; rfl, ht, hW, hR, hx, rfl⟩)))
          · have e : tolE g u l t s a d axis = 0 := by simp only [tolE, hA, if_true, if_pos h8, hq]
            exact .inr (.inr (.inr (.inr ⟨hA, decide_eq_true ho, decide_eq_true ⟨ho, hx⟩, e, if_pos e, ht, hW, hR, hx, rfl⟩)))
        · have h9 : ¬ tolP g t s a d axis := fun q => ht q.2
          have e : tolE g u l t s a d axis = 7 := by simp only [tolE, hA, if_true, if_neg h9]
          exact .inr (.inr (.inl ⟨hA, decide_eq_true ho, decide_eq_true ⟨ho, hx⟩, e, by unfold tolR; rw [e]; rfl, ht⟩))
      · have h9 : ¬ tolP g t s a d axis := fun q => hx q.1.2
        have e : tolE g u l t s a d axis = 7 := by simp only [tolE, hA, if_true, if_neg h9]
        exact .inr (.inl ⟨hA, decide_eq_true ho, decide_eq_false fun q => hx q.2, e, by unfold tolR; rw [e]; rfl, hx⟩)
    · have h9 : ¬ tolP g t s a d axis := fun q => ho q.1.1
      have e : tolE g u l t s a d axis = 7 := by simp only [tolE, hA, if_true, if_neg h9]
      exact .inl ⟨hA, decide_eq_false ho, decide_eq_false fun q => ho q.1, e, by unfold tolR; rw [e]; rfl, trivial⟩
theorem tol_ways2 (g : Grd) (u : Wal) (l : List Rul) (t s : Int) (a d : Pnt) (axis : Int) : (askE g u l = 1 ∧ True ∧ True ∧ tolE g u l t s a d axis = 1 ∧ tolR g u l t s a d axis = ⟨0, 0, 0, 0, 0, 0, 0, 0, 0, 0⟩ ∧ True) ∨
    (askE g u l = 0 ∧ decide (onG g a d) = false ∧ decide (onG g a d ∧ 0 ≤ axis ∧ axis ≤ 1) = false ∧ tolE g u l t s a d axis = 7 ∧ tolR g u l t s a d axis = ⟨0, 0, 0, 0, 0, 0, 0, 0, 0, 0⟩ ∧ True) ∨
    (askE g u l = 0 ∧ decide (onG g a d) = true ∧ decide (onG g a d ∧ 0 ≤ axis ∧ axis ≤ 1) = false ∧ tolE g u l t s a d axis = 7 ∧ tolR g u l t s a d axis = ⟨0, 0, 0, 0, 0, 0, 0, 0, 0, 0⟩ ∧ ¬ (0 ≤ axis ∧ axis ≤ 1)) ∨
    (askE g u l = 0 ∧ decide (onG g a d) = true ∧ decide (onG g a d ∧ 0 ≤ axis ∧ axis ≤ 1) = true ∧ tolE g u l t s a d axis = 7 ∧ tolR g u l t s a d axis = ⟨0, 0, 0, 0, 0, 0, 0, 0, 0, 0⟩ ∧ ¬ (0 ≤ t ∧ t < s ∧ s ≤ 1000000 ∧ s - t ≤ 1000)) ∨
    (askE g u l = 0 ∧ decide (onG g a d) = true ∧ decide (onG g a d ∧ 0 ≤ axis ∧ axis ≤ 1) = true ∧ True ∧ True ∧ (0 ≤ t ∧ t < s ∧ s ≤ 1000000 ∧ s - t ≤ 1000) ∧ walB g u = true ∧ rulesB l = true ∧ (0 ≤ axis ∧ axis ≤ 1) ∧
      (((tgau g u l t s a d axis).ok = false ∧ tolE g u l t s a d axis = 4 ∧ tolR g u l t s a d axis = ⟨0, 0, 0, 0, 0, 0, 0, 0, 0, 0⟩) ∨ ((tgau g u l t s a d axis).ok = true ∧ tolE g u l t s a d axis = 0 ∧ tolR g u l t s a d axis = tgau g u l t s a d axis))) := by
  rcases tol_ways g u l t s a d axis with h | h | h | h | ⟨h1, h2, h3, h4, h5, h6, h7, h8, h9, h⟩ | ⟨h1, h2, h3, h4, h5, h6, h7, h8, h9, h⟩
  · exact .inl h
  · exact .inr (.inl h)
  · exact .inr (.inr (.inl h))
  · exact .inr (.inr (.inr (.inl h)))
  · exact .inr (.inr (.inr (.inr ⟨h1, h2, h3, trivial, trivial, h6, h7, h8, h9, .inl ⟨h, h4, h5⟩⟩)))
  · exact .inr (.inr (.inr (.inr ⟨h1, h2, h3, trivial, trivial, h6, h7, h8, h9, .inr ⟨h, h4, h5⟩⟩)))
theorem at_rho {l : List Rul} {t : Int} {k : Nat} (hR : rulesB l = true) (ht : 0 ≤ t) (hk : t + (k : Int) ≤ 1000000) : atR l (t + k) = rho l t k ∧ atE l (t + k) = 0 ∧ (atR l (t + k)).ok = true := by
  have h2 : 0 ≤ t + (k : Int) ∧ t + (k : Int) ≤ 1000000 := by omega
  have e : atR l (t + k) = rho l t k := by unfold atR; rw [if_pos ⟨hR, h2⟩]; rfl
  exact ⟨e, by simp only [atE, hR, if_true, if_pos h2], by rw [e]; exact (rho_ok hR ht k).1⟩
theorem wgr_mom {g : Grd} {u : Wal} {l : List Rul} {t : Int} (h : walB g u = true) (hr : rulesB l = true) (ht : 0 ≤ t) (x : Cel) (axis : Int) (k : Nat) : -(2000000000 * (g.cs.length : Int)) ≤ momS (wgr g u l t k) x axis g.cs.length ∧ momS (wgr g u l t k) x axis g.cs.length ≤ 2000000000 * (g.cs.length : Int) := momS_bd (wgr_ok h hr ht k).1 x axis _
/-- The reference's walk over a cell. -/
theorem prg_at {r : Rul} {u : Wal} {cs : List Cel} {k : Nat} (hk : k < cs.length) : (prog (metF r u cs) k cs).getD k default = cs.getD k default := by rw [prog_getD _ _ _ hk, if_neg (Nat.lt_irrefl k)]
theorem metP_a {r : Rul} {u : Wal} {cs : List Cel} {k : Nat} (hk : k < cs.length) (h : u.k.getD k 0 = 0) : prog (metF r u cs) (k + 1) cs = (prog (metF r u cs) k cs).set k (((prog (metF r u cs) k cs).getD k default).after r) := by
  rw [prg_at hk, metF_a h]; exact (prog_set _ _ _ rfl).symm
theorem metP_n {r : Rul} {u : Wal} {cs : List Cel} {k : Nat} (hk : k < cs.length) (h : u.k.getD k 0 ≠ 0) : prog (metF r u cs) (k + 1) cs = (prog (metF r u cs) k cs).set k (wsent (u.k.getD k 0) ((prog (metF r u cs) k cs).getD k default)) := by
  rw [prg_at hk, metF_n h]; exact (prog_set _ _ _ rfl).symm
theorem metQ_e {r : Rul} {u : Wal} {cs : List Cel} {k : Nat} (ho : (cs.getD k default).ok = true) (hr : r.ok = true) (h : u.k.getD k 0 = 0) : prog (metF r u cs) (k + 1) cs = (prog (metF r u cs) k cs).set k (Cel.collide (cs.getD k default) r).1 := by
  rw [metF_e ho hr h]; exact (prog_set _ _ _ rfl).symm
theorem metQ_n {r : Rul} {u : Wal} {cs : List Cel} {k : Nat} (h : u.k.getD k 0 ≠ 0) : prog (metF r u cs) (k + 1) cs = (prog (metF r u cs) k cs).set k (wsent (u.k.getD k 0) (cs.getD k default)) := by
  rw [metF_n h]; exact (prog_set _ _ _ rfl).symm
theorem metL_prog (r : Rul) (u : Wal) {cs : List Cel} {k : Nat} (hk : cs.length ≤ k) : prog (metF r u cs) k cs = metL r u cs := by
  unfold metL; rw [prog_full _ _ hk, prog_full _ _ (Nat.le_refl _)]
theorem strm_met {w h : Int} {r : Rul} {u : Wal} {cs : List Cel} {j : Nat} (hok : (⟨w, h, cs⟩ : Grd).ok = true) (hr : r.ok = true) (hj : cs.length ≤ j) : streamG 1 ⟨w, h, prog (metF r u cs) j cs⟩ = ⟨w, h, flow w h 1 (metL r u cs)⟩ := by
  rw [metL_prog _ _ hj]; exact if_pos (gok_met hr u hok)
end Go.Sy
