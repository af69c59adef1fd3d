/- Boxes and walls: the momentum in a box, and what flows in and out. -/
import Derived.Test.YtiapmjdoohgjnaaSpGau
import Derived.Test.YtiapmjdoohgjnaaSpGrid
import Derived.Test.YtiapmjdoohgjnaaSpOrder
import Derived.Test.YtiapmjdoohgjnaaSpRule
import Derived.Test.YtiapmjdoohgjnaaSpRuns
set_option linter.unusedSimpArgs false
set_option linter.unusedVariables false
namespace Go.Sy
/-! ### Boxes -/
def onG (g : Grd) (a d : Pnt) : Prop := (0 ≤ min a.x d.x ∧ 0 ≤ min a.y d.y) ∧ max a.x d.x < g.w ∧ max a.y d.y < g.h
instance (g : Grd) (a d : Pnt) : Decidable (onG g a d) := by unfold onG; infer_instance
/-! ### Walls -/
structure brk (k b : Int) : Prop where
  k0 : 0 ≤ k
  k3 : k ≤ 3
  lo : min k 1 ≤ b
  hi : b ≤ min k 1 * 9
instance (k b : Int) : Decidable (brk k b) := decidable_of_iff ((0 ≤ k ∧ k ≤ 3) ∧ min k 1 ≤ b ∧ b ≤ min k 1 * 9) ⟨fun h => ⟨h.1.1, h.1.2, h.2.1, h.2.2⟩, fun h => ⟨⟨h.k0, h.k3⟩, h.lo, h.hi⟩⟩
theorem brk_no {k b : Int} (h : ¬ ((0 ≤ k ∧ k ≤ 3) ∧ min k 1 ≤ b ∧ b ≤ min k 1 * 9)) : ¬ brk k b := fun q => h ⟨⟨q.k0, q.k3⟩, q.lo, q.hi⟩
theorem brk_of {k b : Int} (h : (0 ≤ k ∧ k ≤ 3) ∧ min k 1 ≤ b ∧ b ≤ min k 1 * 9) : brk k b := ⟨h.1.1, h.1.2, h.2.1, h.2.2⟩
def walB (g : Grd) (w : Wal) : Bool := decide (g.ok = true ∧ w.k.length = g.cs.length ∧ w.b.length = g.cs.length ∧ ∀ i, i < g.cs.length → brk (w.k.getD i 0) (w.b.getD i 0))
theorem wal_ok {g : Grd} {w : Wal} (h : walB g w = true) : g.ok = true ∧ w.k.length = g.cs.length ∧ w.b.length = g.cs.length ∧ ∀ i, i < g.cs.length → brk (w.k.getD i 0) (w.b.getD i 0) := of_decide_eq_true h
theorem wal_ways (g : Grd) (w : Wal) : (g.ok = false ∧ walB g w = false) ∨ (g.ok = true ∧ w.k.length ≠ g.cs.length ∧ walB g w = false) ∨ (g.ok = true ∧ w.k.length = g.cs.length ∧ w.b.length ≠ g.cs.length ∧ walB g w = false) ∨
    (g.ok = true ∧ w.k.length = g.cs.length ∧ w.b.length = g.cs.length ∧ True) := by
  cases hv : g.ok
  · exact .inl ⟨rfl, decide_eq_false fun q => by rw [hv] at q; cases q.1⟩
  · by_cases h1 : w.k.length = g.cs.length
    · by_cases h2 : w.b.length = g.cs.length
      · exact .inr (.inr (.inr ⟨rfl, h1, h2, trivial⟩))
      · exact .inr (.inr (.inl ⟨rfl, h1, h2, decide_eq_false fun q => h2 q.2.2.1⟩))
    · exact .inr (.inl ⟨rfl, h1, decide_eq_false fun q => h1 q.2.1⟩)
theorem wal_f {g : Grd} {w : Wal} {k : Nat} (hk : k < g.cs.length) (h : ¬ brk (w.k.getD k 0) (w.b.getD k 0)) : walB g w = false := decide_eq_false fun q => h (q.2.2.2 k hk)
theorem wal_t {g : Grd} {w : Wal} (h0 : g.ok = true) (h1 : w.k.length = g.cs.length) (h2 : w.b.length = g.cs.length) (h : ∀ i, i < g.cs.length → brk (w.k.getD i 0) (w.b.getD i 0)) : walB g w = true := decide_eq_true ⟨h0, h1, h2, h⟩
theorem brk_more {w : Wal} {k : Nat} (h : ∀ j, j < k → brk (w.k.getD j 0) (w.b.getD j 0)) (hk : brk (w.k.getD k 0) (w.b.getD k 0)) : ∀ j, j < k + 1 → brk (w.k.getD j 0) (w.b.getD j 0) := fun j hj => by
  by_cases e : j = k
  · subst e; exact hk
  · exact h j (by omega)
/-- What a kind of wall makes of a cell. -/
def wsent (k : Int) (c : Cel) : Cel := if k = 1 then ⟨c.w, c.s, c.e, c.n⟩ else if k = 2 then ⟨c.n, c.e, c.s, c.w⟩ else if k = 3 then ⟨c.s, c.w, c.n, c.e⟩ else c
theorem wsent_ok {k : Int} {c : Cel} (h : c.ok = true) : (wsent k c).ok = true := by
  have h1 := Cel.ok_iff.1 h
  refine Cel.ok_iff.2 ?_
  unfold wsent
  split
  · simp only; omega
  · split
    · simp only; omega
    · split
      · simp only; omega
      · exact h1
/-- A cell after the collision, or the wall, of a step. -/
def metC (r : Rul) (k : Int) (c : Cel) : Cel := if k = 0 then c.after r else wsent k c
theorem metC_ok {r : Rul} {k : Int} {c : Cel} (h : c.ok = true) (hr : r.ok = true) : (metC r k c).ok = true := by
  unfold metC
  split
  · exact Cel.after_ok h hr
  · exact wsent_ok h
theorem collide_ok {c : Cel} {r : Rul} (h : c.ok = true) (hr : r.ok = true) : c.collide r = (c.after r, 0) := by simp [Cel.collide, h, hr]
/-! ### What flows -/
/-! ### What the layer answers -/
end Go.Sy

/- Runs of a grid between walls. -/
set_option linter.unusedSimpArgs false
set_option linter.unusedVariables false
namespace Go.Sy
theorem wsent_m (k : Int) (c : Cel) : (wsent k c).m = c.m := by
  unfold wsent Cel.m
  split
  · simp only; omega
  · split
    · simp only; omega
    · split
      · simp only; omega
      · rfl
theorem metC_m (r : Rul) (k : Int) (c : Cel) : (metC r k c).m = c.m := by
  unfold metC
  split
  · exact (Cel.after_m r).1
  · exact wsent_m k c
def metF (r : Rul) (w : Wal) (cs : List Cel) (j : Nat) : Cel := metC r (w.k.getD j 0) (cs.getD j default)
def metL (r : Rul) (w : Wal) (cs : List Cel) : List Cel := prog (metF r w cs) cs.length cs
theorem metL_length (r : Rul) (w : Wal) (cs : List Cel) : (metL r w cs).length = cs.length := prog_length _ _ _
theorem massL_setW (cs : List Cel) (v : Cel) : ∀ (k : Nat), k < cs.length → massL (cs.set k v) = massL cs - (cs.getD k default).m + v.m := by
  induction cs with
  | nil => intro k hk; simp at hk
  | cons c cs ih =>
    intro k hk
    cases k with
    | zero => simp [massL]; omega
    | succ k =>
      have := ih k (by simpa using hk)
      simp only [List.set_cons_succ, massL, List.getD_cons_succ]; omega
theorem massL_met (r : Rul) (w : Wal) (cs : List Cel) : ∀ k : Nat, k ≤ cs.length → massL (prog (metF r w cs) k cs) = massL cs
  | 0, _ => by rw [prog_zero]
  | k + 1, hk => by
    have ih := massL_met r w cs k (by omega)
    rw [← prog_set (metF r w cs) k cs rfl, massL_setW _ _ k (by rw [prog_length]; omega), ih, prog_getD _ _ _ (by omega), if_neg (Nat.lt_irrefl k)]
    unfold metF
    rw [metC_m]; omega
theorem gok_met {g : Grd} {r : Rul} (hr : r.ok = true) (w : Wal) (h : g.ok = true) : (⟨g.w, g.h, metL r w g.cs⟩ : Grd).ok = true := by
  obtain ⟨h1, h2, h3, h4⟩ := Grd.ok_iff.1 h
  refine gok_mk h1 (by rw [metL_length]; exact h2) (okL_nn (okL_iff.2 fun c hc => ?_)) (by unfold metL; rw [massL_met _ _ _ _ (Nat.le_refl _)]; exact h4)
  unfold metL at hc
  rw [prog_full _ _ (Nat.le_refl _)] at hc
  obtain ⟨j, hj, rfl⟩ := List.mem_map.1 hc
  exact metC_ok (okL_at (gok_okL h) (List.mem_range.1 hj)) hr
def walkC (w h : Int) (u : Wal) (ρ : Nat → Rul) (cs : List Cel) : Nat → List Cel
  | 0 => cs
  | k + 1 => flow w h 1 (metL (ρ k) u (walkC w h u ρ cs k))
theorem walkC_length (w h : Int) (u : Wal) (ρ : Nat → Rul) (cs : List Cel) : ∀ k, (walkC w h u ρ cs k).length = cs.length
  | 0 => rfl
  | k + 1 => by rw [walkC, flow_length, metL_length, walkC_length w h u ρ cs k]
theorem walkC_ok {g : Grd} {u : Wal} {ρ : Nat → Rul} (h : g.ok = true) (hr : ∀ k, (ρ k).ok = true) : ∀ k, (⟨g.w, g.h, walkC g.w g.h u ρ g.cs k⟩ : Grd).ok = true
  | 0 => h
  | k + 1 => gok_flow (g := ⟨g.w, g.h, metL (ρ k) u (walkC g.w g.h u ρ g.cs k)⟩) 1 (gok_met (hr k) u (walkC_ok h hr k))
theorem metF_e {r : Rul} {w : Wal} {cs : List Cel} {j : Nat} (ho : (cs.getD j default).ok = true) (hr : r.ok = true) (h : w.k.getD j 0 = 0) : (Cel.collide (cs.getD j default) r).1 = metF r w cs j := by
  rw [collide_ok ho hr]; unfold metF metC; rw [if_pos h]
theorem metF_n {r : Rul} {w : Wal} {cs : List Cel} {j : Nat} (h : w.k.getD j 0 ≠ 0) : wsent (w.k.getD j 0) (cs.getD j default) = metF r w cs j := by
  unfold metF metC; rw [if_neg h]
def wrunE (g : Grd) (u : Wal) (l : List Rul) (t n : Int) : Int := if walB g u && rulesB l then (if timesP t n then 0 else 7) else 1
def wrunG (g : Grd) (u : Wal) (l : List Rul) (t n : Int) : Grd := if wrunE g u l t n = 0 then ⟨g.w, g.h, walkC g.w g.h u (rho l t) g.cs n.toNat⟩ else ⟨0, 0, []⟩
theorem wrun_ways (g : Grd) (u : Wal) (l : List Rul) (t n : Int) : (walB g u = false ∧ True ∧ True ∧ wrunE g u l t n = 1 ∧ wrunG g u l t n = ⟨0, 0, []⟩) ∨ (walB g u = true ∧ rulesB l = false ∧ True ∧ wrunE g u l t n = 1 ∧ wrunG g u l t n = ⟨0, 0, []⟩) ∨
    (walB g u = true ∧ rulesB l = true ∧ ¬ ((0 ≤ t ∧ t ≤ 1000000) ∧ (0 ≤ n ∧ n ≤ 1000) ∧ (0 < n → t + n - 1 ≤ 1000000)) ∧ wrunE g u l t n = 7 ∧ wrunG g u l t n = ⟨0, 0, []⟩) ∨
    (walB g u = true ∧ rulesB l = true ∧ ((0 ≤ t ∧ t ≤ 1000000) ∧ (0 ≤ n ∧ n ≤ 1000) ∧ (0 < n → t + n - 1 ≤ 1000000)) ∧ wrunE g u l t n = 0 ∧ wrunG g u l t n = ⟨g.w, g.h, walkC g.w g.h u (rho l t) g.cs n.toNat⟩ ∧
      (1 ≤ l.length ∧ l.length ≤ 8) ∧ (1 ≤ g.cs.length ∧ g.cs.length ≤ 1024) ∧ (∀ k, (rho l t k).ok = true ∧ 0 ≤ (t + (k : Int)).tmod (l.length : Int) ∧ (t + (k : Int)).tmod (l.length : Int) < l.length) ∧
      (∀ k, (⟨g.w, g.h, walkC g.w g.h u (rho l t) g.cs k⟩ : Grd).ok = true ∧ okL (walkC g.w g.h u (rho l t) g.cs k) = true ∧ (walkC g.w g.h u (rho l t) g.cs k).length = g.cs.length) ∧
      u.k.length = g.cs.length ∧ u.b.length = g.cs.length ∧ ∀ i, i < g.cs.length → brk (u.k.getD i 0) (u.b.getD i 0)) := by
  have no : wrunE g u l t n ≠ 0 → wrunG g u l t n = ⟨0, 0, []⟩ := fun h => if_neg h
  cases h : walB g u
  · have e : wrunE g u l t n = 1 := by simp [wrunE, h]
    exact .inl ⟨rfl, trivial, trivial, e, no (by omega)⟩
  · cases hr : rulesB l
    · have e : wrunE g u l t n = 1 := by simp [wrunE, hr]
      exact .inr (.inl ⟨rfl, rfl, trivial, e, no (by omega)⟩)
    · by_cases ht : timesP t n
      · have e : wrunE g u l t n = 0 := by simp [wrunE, h, hr, ht]
        obtain ⟨hok, w1, w2, w3⟩ := wal_ok h
        have hb := gok_bds hok
        have h1 := rulesB_iff.1 hr
        have ho := fun k => rho_ok hr ht.1.1 k
        refine .inr (.inr (.inr ⟨rfl, rfl, ht, e, if_pos e, h1.1, by omega, ho, fun k => ?_, w1, w2, w3⟩))
        have := walkC_ok (u := u) hok (fun k => (ho k).1) k
        exact ⟨this, gok_okL this, walkC_length ..⟩
      · have e : wrunE g u l t n = 7 := by simp only [wrunE, h, hr, Bool.and_true, if_true, if_neg ht]
        exact .inr (.inr (.inl ⟨rfl, rfl, ht, e, no (by omega)⟩))
end Go.Sy

/- The gauge of a box over some steps. -/
set_option linter.unusedSimpArgs false
set_option linter.unusedVariables false
namespace Go.Sy
theorem walB_at {g g' : Grd} {u : Wal} (h : walB g u = true) (hg : g'.ok = true) (hl : g'.cs.length = g.cs.length) : walB g' u = true := by
  obtain ⟨_, w1, w2, w3⟩ := wal_ok h
  exact decide_eq_true ⟨hg, by rw [w1, hl], by rw [w2, hl], fun i hi => w3 i (by omega)⟩
/-- The grid after some steps between walls. -/
def wgr (g : Grd) (u : Wal) (l : List Rul) (t : Int) (k : Nat) : Grd := ⟨g.w, g.h, walkC g.w g.h u (rho l t) g.cs k⟩
theorem wgr_ok {g : Grd} {u : Wal} {l : List Rul} {t : Int} (h : walB g u = true) (hr : rulesB l = true) (ht : 0 ≤ t) (k : Nat) : (wgr g u l t k).ok = true ∧ walB (wgr g u l t k) u = true ∧ (wgr g u l t k).cs.length = g.cs.length := by
  have hok := (wal_ok h).1
  have h1 := walkC_ok (u := u) hok (ρ := rho l t) (fun k => (rho_ok hr ht k).1) k
  exact ⟨h1, walB_at h h1 (walkC_length ..), walkC_length ..⟩
def tolP (g : Grd) (t s : Int) (a d : Pnt) (axis : Int) : Prop := (onG g a d ∧ 0 ≤ axis ∧ axis ≤ 1) ∧ 0 ≤ t ∧ t < s ∧ s ≤ 1000000 ∧ s - t ≤ 1000
instance (g : Grd) (t s : Int) (a d : Pnt) (axis : Int) : Decidable (tolP g t s a d axis) := by unfold tolP; infer_instance
theorem metQ_e {r : Rul} {u : Wal} {cs : List Cel} {k : Nat} (ho : (cs.getD k default).ok = true) (hr : r.ok = true) (h : u.k.getD k 0 = 0) : prog (metF r u cs) (k + 1) cs = (prog (metF r u cs) k cs).set k (Cel.collide (cs.getD k default) r).1 := by
  rw [metF_e ho hr h]; exact (prog_set _ _ _ rfl).symm
theorem metQ_n {r : Rul} {u : Wal} {cs : List Cel} {k : Nat} (h : u.k.getD k 0 ≠ 0) : prog (metF r u cs) (k + 1) cs = (prog (metF r u cs) k cs).set k (wsent (u.k.getD k 0) (cs.getD k default)) := by
  rw [metF_n h]; exact (prog_set _ _ _ rfl).symm
theorem metL_prog (r : Rul) (u : Wal) {cs : List Cel} {k : Nat} (hk : cs.length ≤ k) : prog (metF r u cs) k cs = metL r u cs := by
  unfold metL; rw [prog_full _ _ hk, prog_full _ _ (Nat.le_refl _)]
theorem strm_met {w h : Int} {r : Rul} {u : Wal} {cs : List Cel} {j : Nat} (hok : (⟨w, h, cs⟩ : Grd).ok = true) (hr : r.ok = true) (hj : cs.length ≤ j) : streamG 1 ⟨w, h, prog (metF r u cs) j cs⟩ = ⟨w, h, flow w h 1 (metL r u cs)⟩ := by
  rw [metL_prog _ _ hj]; exact if_pos (gok_met hr u hok)
end Go.Sy

/- What bodies are given, step by step; the momentum of a grid between walls. -/
set_option linter.unusedSimpArgs false
set_option linter.unusedVariables false
namespace Go.Sy
theorem wrun_ok {g : Grd} {u : Wal} {l : List Rul} {t n : Int} (h : wrunE g u l t n = 0) : walB g u = true ∧ rulesB l = true ∧ ((0 ≤ t ∧ t ≤ 1000000) ∧ (0 ≤ n ∧ n ≤ 1000) ∧ (0 < n → t + n - 1 ≤ 1000000)) ∧ (1 ≤ l.length ∧ l.length ≤ 8) := by
  rcases wrun_ways g u l t n with ⟨_, _, _, hE, _⟩ | ⟨_, _, _, hE, _⟩ | ⟨_, _, _, hE, _⟩ | ⟨hv, hr, hn, _, _, hl, _⟩
  · omega
  · omega
  · omega
  · exact ⟨hv, hr, hn, hl⟩
def dlE (k : Int) (c : Cel) : Int := (wsent k c).e - (wsent k c).w - c.e + c.w
def dlN (k : Int) (c : Cel) : Int := (wsent k c).n - (wsent k c).s - c.n + c.s
def impE (u : Wal) (cs : List Cel) (b : Int) : Nat → Int
  | 0 => 0
  | i + 1 => impE u cs b i + (if u.b.getD i 0 = b then dlE (u.k.getD i 0) (cs.getD i default) else 0)
def impN (u : Wal) (cs : List Cel) (b : Int) : Nat → Int
  | 0 => 0
  | i + 1 => impN u cs b i + (if u.b.getD i 0 = b then dlN (u.k.getD i 0) (cs.getD i default) else 0)
theorem impE_y {u : Wal} {cs : List Cel} {b : Int} {i : Nat} (h : u.b.getD i 0 = b) : impE u cs b (i + 1) = impE u cs b i + ((wsent (u.k.getD i 0) (cs.getD i default)).e - (wsent (u.k.getD i 0) (cs.getD i default)).w - (cs.getD i default).e + (cs.getD i default).w) := by simp only [impE, if_pos h, dlE]
theorem impE_n {u : Wal} {cs : List Cel} {b : Int} {i : Nat} (h : u.b.getD i 0 ≠ b) : impE u cs b (i + 1) = impE u cs b i := by simp only [impE, if_neg h, Int.add_zero]
theorem impN_y {u : Wal} {cs : List Cel} {b : Int} {i : Nat} (h : u.b.getD i 0 = b) : impN u cs b (i + 1) = impN u cs b i + ((wsent (u.k.getD i 0) (cs.getD i default)).n - (wsent (u.k.getD i 0) (cs.getD i default)).s - (cs.getD i default).n + (cs.getD i default).s) := by simp only [impN, if_pos h, dlN]
theorem impN_n {u : Wal} {cs : List Cel} {b : Int} {i : Nat} (h : u.b.getD i 0 ≠ b) : impN u cs b (i + 1) = impN u cs b i := by simp only [impN, if_neg h, Int.add_zero]
theorem cel_bds {c : Cel} (h : c.ok = true) (k : Int) : ((0 ≤ c.e ∧ c.e ≤ 1000000000) ∧ (0 ≤ c.n ∧ c.n ≤ 1000000000) ∧ (0 ≤ c.w ∧ c.w ≤ 1000000000) ∧ 0 ≤ c.s ∧ c.s ≤ 1000000000) ∧ ((0 ≤ (wsent k c).e ∧ (wsent k c).e ≤ 1000000000) ∧ (0 ≤ (wsent k c).n ∧ (wsent k c).n ≤ 1000000000) ∧ (0 ≤ (wsent k c).w ∧ (wsent k c).w ≤ 1000000000) ∧ 0 ≤ (wsent k c).s ∧ (wsent k c).s ≤ 1000000000) := by
  have h1 := Cel.ok_iff.1 h
  have h2 := Cel.ok_iff.1 (wsent_ok (k := k) h)
  omega
theorem imp_bd {u : Wal} {cs : List Cel} (ho : okL cs = true) (b : Int) : ∀ i : Nat, i ≤ cs.length → (-(4000000000 * (i : Int)) ≤ impE u cs b i ∧ impE u cs b i ≤ 4000000000 * i) ∧ -(4000000000 * (i : Int)) ≤ impN u cs b i ∧ impN u cs b i ≤ 4000000000 * i
  | 0, _ => by simp [impE, impN]
  | i + 1, hi => by
    have ih := imp_bd ho b (u := u) i (by omega)
    have hc := cel_bds (okL_at ho (i := i) (by omega)) (u.k.getD i 0)
    simp only [impE, impN, dlE, dlN]
    refine ⟨?_, ?_⟩ <;> split <;> omega
def drgS (g : Grd) (u : Wal) (l : List Rul) (t : Int) (b : Int) : Nat → Int × Int
  | 0 => (0, 0)
  | k + 1 => ((drgS g u l t b k).1 + impE u (wgr g u l t k).cs b g.cs.length, (drgS g u l t b k).2 + impN u (wgr g u l t k).cs b g.cs.length)
theorem drgS_bd {g : Grd} {u : Wal} {l : List Rul} {t : Int} (h : walB g u = true) (hr : rulesB l = true) (ht : 0 ≤ t) (b : Int) : ∀ k : Nat, (-(5000000000000 * (k : Int)) ≤ (drgS g u l t b k).1 ∧ (drgS g u l t b k).1 ≤ 5000000000000 * k) ∧ -(5000000000000 * (k : Int)) ≤ (drgS g u l t b k).2 ∧ (drgS g u l t b k).2 ≤ 5000000000000 * k
  | 0 => by simp [drgS]
  | k + 1 => by
    have ih := drgS_bd h hr ht b k
    have hw := wgr_ok h hr ht k
    have hb := gok_bds (wal_ok h).1
    have hi := imp_bd (u := u) (gok_okL hw.1) b g.cs.length (by omega)
    simp only [drgS]; omega
/-! ### Which bodies there are -/
def cntB (u : Wal) (b : Int) : Nat → Int
  | 0 => 0
  | i + 1 => cntB u b i + (if u.b.getD i 0 = b then 1 else 0)
theorem cntB_bd (u : Wal) (b : Int) : ∀ i : Nat, 0 ≤ cntB u b i ∧ cntB u b i ≤ i
  | 0 => by simp [cntB]
  | i + 1 => by have := cntB_bd u b i; simp only [cntB]; split <;> omega
theorem cntB_no {u : Wal} {b : Int} : ∀ {n : Nat}, cntB u b n = 0 → ∀ i, i < n → u.b.getD i 0 ≠ b
  | 0, _, i, hi => by omega
  | n + 1, h, i, hi => by
    have hb := cntB_bd u b n
    simp only [cntB] at h
    have h1 : cntB u b n = 0 := by revert h; split <;> omega
    have h2 : u.b.getD n 0 ≠ b := by intro e; rw [if_pos e] at h; omega
    by_cases e : i = n
    · subst e; exact h2
    · exact cntB_no h1 i (by omega)
def cntM (u : Wal) : Nat → List (Int × Int)
  | 0 => []
  | i + 1 => putA (cntM u i) (u.b.getD i 0) (getA 0 (cntM u i) (u.b.getD i 0) + 1)
theorem cntM_at (u : Wal) (b : Int) : ∀ i : Nat, getA 0 (cntM u i) b = cntB u b i
  | 0 => rfl
  | i + 1 => by
    rw [cntM, getA_put, cntM_at u b i, cntM_at u (u.b.getD i 0) i, cntB]
    by_cases e : b = u.b.getD i 0
    · rw [if_pos e, if_pos e.symm, ← e]
    · rw [if_neg e, if_neg (fun q => e q.symm), Int.add_zero]
def bodK (u : Wal) (n : Nat) : Nat → List Int
  | 0 => []
  | k + 1 => if 0 < cntB u ((k : Int) + 1) n then bodK u n k ++ [(k : Int) + 1] else bodK u n k
theorem bodK_len (u : Wal) (n : Nat) : ∀ k, (bodK u n k).length ≤ k
  | 0 => Nat.le_refl 0
  | k + 1 => by
    have := bodK_len u n k
    simp only [bodK]
    split
    · simp; omega
    · omega
theorem bodK_t {u : Wal} {n k : Nat} (h : 0 < cntB u ((k : Int) + 1) n) : bodK u n (k + 1) = bodK u n k ++ [(k : Int) + 1] := if_pos h
theorem bodK_f {u : Wal} {n k : Nat} (h : ¬ 0 < cntB u ((k : Int) + 1) n) : bodK u n (k + 1) = bodK u n k := if_neg h
theorem bodK_mem {u : Wal} {n : Nat} : ∀ {k : Nat} {b : Int}, b ∈ bodK u n k → (1 ≤ b ∧ b ≤ k) ∧ 0 < cntB u b n
  | 0, b, h => by cases h
  | k + 1, b, h => by
    simp only [bodK] at h
    split at h
    · rename_i hc
      rcases List.mem_append.1 h with h | h
      · have := bodK_mem h; omega
      · rw [List.mem_singleton] at h; subst h; exact ⟨by omega, hc⟩
    · have := bodK_mem h; omega
/-- A body has cells. -/
def hasI (l : List Int) (v : Int) : Bool := decide (∃ i, i < l.length ∧ l.getD i 0 = v)
theorem hasI_t {l : List Int} {v : Int} {i : Nat} (h1 : i < l.length) (h2 : l.getD i 0 = v) : hasI l v = true := decide_eq_true ⟨i, h1, h2⟩
theorem hasI_f {l : List Int} {v : Int} {k : Nat} (hk : l.length ≤ k) (h : ∀ j, j < k → l.getD j 0 ≠ v) : hasI l v = false := decide_eq_false fun ⟨i, h1, h2⟩ => h i (by omega) h2
theorem hasI_cnt {u : Wal} {b : Int} {n : Nat} (hn : n ≤ u.b.length) (h : 0 < cntB u b n) : hasI u.b b = true := by
  cases hh : hasI u.b b
  · have h9 := of_decide_eq_false hh
    exfalso
    have : ∀ m, m ≤ u.b.length → cntB u b m = 0 := fun m => by
      induction m with
      | zero => intro _; rfl
      | succ m ih => intro hm; rw [cntB, ih (by omega), if_neg (fun e => h9 ⟨m, by omega, e⟩)]; rfl
    have := this n hn
    omega
  · rfl
/-! ### Sums over lists -/
def sumL (f : Int → Int) : List Int → Int
  | [] => 0
  | x :: xs => f x + sumL f xs
theorem sumL_app (f : Int → Int) : ∀ xs ys : List Int, sumL f (xs ++ ys) = sumL f xs + sumL f ys
  | [], ys => by simp [sumL]
  | x :: xs, ys => by simp only [List.cons_append, sumL, sumL_app f xs ys]; omega
theorem sumL_take (f : Int → Int) {l : List Int} {k : Nat} (hk : k < l.length) : sumL f (l.take (k + 1)) = sumL f (l.take k) + f (l.getD k 0) := by
  rw [List.take_add_one, sumL_app, List.getElem?_eq_getElem hk, List.getD_eq_getElem?_getD, List.getElem?_eq_getElem hk]
  simp [sumL]
theorem sumL_add (f g : Int → Int) : ∀ l : List Int, sumL (fun b => f b + g b) l = sumL f l + sumL g l
  | [] => rfl
  | x :: xs => by simp only [sumL, sumL_add f g xs]; omega
theorem sumL_zero : ∀ l : List Int, sumL (fun _ => 0) l = 0
  | [] => rfl
  | x :: xs => by simp [sumL, sumL_zero xs]
theorem sumL_bd {f : Int → Int} {m : Int} (hf : ∀ b, -m ≤ f b ∧ f b ≤ m) : ∀ l : List Int, -(m * l.length) ≤ sumL f l ∧ sumL f l ≤ m * l.length
  | [] => by simp [sumL]
  | x :: xs => by
    have ih := sumL_bd hf xs
    have h := hf x
    simp only [sumL, List.length_cons, Int.natCast_add, Int.mul_add] at *
    omega
def totB (f : Int → Int) : Nat → Int
  | 0 => 0
  | m + 1 => totB f m + f ((m : Int) + 1)
theorem bod_sum {u : Wal} {n : Nat} {f : Int → Int} (h : ∀ b, cntB u b n = 0 → f b = 0) : ∀ m : Nat, sumL f (bodK u n m) = totB f m
  | 0 => rfl
  | m + 1 => by
    have ih := bod_sum h m
    simp only [bodK, totB]
    split
    · rw [sumL_app, ih]; simp [sumL]
    · rename_i hc
      have hb := cntB_bd u ((m : Int) + 1) n
      rw [ih, h _ (by omega)]; omega
theorem totB_add (f g : Int → Int) : ∀ m : Nat, totB (fun b => f b + g b) m = totB f m + totB g m
  | 0 => rfl
  | m + 1 => by simp only [totB, totB_add f g m]; omega
theorem totB_one (x v : Int) : ∀ m : Nat, totB (fun b => if x = b then v else 0) m = if 1 ≤ x ∧ x ≤ m then v else 0
  | 0 => by rw [if_neg (by omega)]; rfl
  | m + 1 => by
    simp only [totB, totB_one x v m]
    by_cases h1 : 1 ≤ x ∧ x ≤ m
    · rw [if_pos h1, if_neg (by omega), if_pos (by omega)]; omega
    · by_cases h2 : x = (m : Int) + 1
      · rw [if_neg h1, if_pos h2, if_pos (by omega)]; omega
      · rw [if_neg h1, if_neg h2, if_neg (by omega)]; omega
/-- What all walls give in a step. -/
def totE (u : Wal) (cs : List Cel) : Nat → Int
  | 0 => 0
  | i + 1 => totE u cs i + dlE (u.k.getD i 0) (cs.getD i default)
def totN (u : Wal) (cs : List Cel) : Nat → Int
  | 0 => 0
  | i + 1 => totN u cs i + dlN (u.k.getD i 0) (cs.getD i default)
theorem dl_open (c : Cel) : dlE 0 c = 0 ∧ dlN 0 c = 0 := by
  unfold dlE dlN wsent
  simp; omega
theorem imp_tot {u : Wal} {cs : List Cel} : ∀ {n : Nat}, (∀ i, i < n → brk (u.k.getD i 0) (u.b.getD i 0)) → totB (fun b => impE u cs b n) 9 = totE u cs n ∧ totB (fun b => impN u cs b n) 9 = totN u cs n
  | 0, _ => by simp [impE, impN, totE, totN, totB]
  | n + 1, h => by
    have ih := imp_tot (cs := cs) (n := n) fun i hi => h i (by omega)
    have hb := h n (by omega)
    have q1 := hb.k0; have q2 := hb.k3; have q3 := hb.lo; have q4 := hb.hi
    simp only [impE, impN, totE, totN, totB_add, totB_one, ih.1, ih.2]
    by_cases e : u.k.getD n 0 = 0
    · rw [e]
      have h0 := dl_open (cs.getD n default)
      rw [h0.1, h0.2]
      simp
    · rw [if_pos (by omega), if_pos (by omega)]
      exact ⟨rfl, rfl⟩
theorem imp_bod {u : Wal} {cs : List Cel} {n : Nat} (h : ∀ i, i < n → brk (u.k.getD i 0) (u.b.getD i 0)) : sumL (fun b => impE u cs b n) (bodK u n 9) = totE u cs n ∧ sumL (fun b => impN u cs b n) (bodK u n 9) = totN u cs n := by
  have hz : ∀ b, cntB u b n = 0 → ∀ m, m ≤ n → impE u cs b m = 0 ∧ impN u cs b m = 0 := fun b hb m => by
    induction m with
    | zero => intro _; exact ⟨rfl, rfl⟩
    | succ m ih =>
      intro hm
      have := ih (by omega)
      rw [impE_n (cntB_no hb m (by omega)), impN_n (cntB_no hb m (by omega))]; exact this
  rw [bod_sum (fun b hb => (hz b hb n (Nat.le_refl _)).1), bod_sum (fun b hb => (hz b hb n (Nat.le_refl _)).2)]
  exact imp_tot h
/-! ### The momentum of a grid -/
theorem eastL_setW (cs : List Cel) (v : Cel) : ∀ (k : Nat), k < cs.length → eastL (cs.set k v) = eastL cs - ((cs.getD k default).e - (cs.getD k default).w) + (v.e - v.w) ∧ northL (cs.set k v) = northL cs - ((cs.getD k default).n - (cs.getD k default).s) + (v.n - v.s) := by
  induction cs with
  | nil => intro k hk; simp at hk
  | cons c cs ih =>
    intro k hk
    cases k with
    | zero => simp [eastL, northL]; omega
    | succ k =>
      have := ih k (by simpa using hk)
      simp only [List.set_cons_succ, eastL, northL, List.getD_cons_succ]; omega
theorem metC_en (r : Rul) (k : Int) (c : Cel) : (metC r k c).e - (metC r k c).w = c.e - c.w + dlE k c ∧ (metC r k c).n - (metC r k c).s = c.n - c.s + dlN k c := by
  unfold metC
  split
  · rename_i h
    subst h
    have h0 := dl_open c
    have h1 := Cel.after_m (c := c) r
    rw [h0.1, h0.2]; omega
  · unfold dlE dlN; omega
theorem met_en (r : Rul) (u : Wal) (cs : List Cel) : ∀ k : Nat, k ≤ cs.length → eastL (prog (metF r u cs) k cs) = eastL cs + totE u cs k ∧ northL (prog (metF r u cs) k cs) = northL cs + totN u cs k
  | 0, _ => by rw [prog_zero]; simp [totE, totN]
  | k + 1, hk => by
    have ih := met_en r u cs k (by omega)
    have hs := eastL_setW (prog (metF r u cs) k cs) (metF r u cs k) k (by rw [prog_length]; omega)
    have hm := metC_en r (u.k.getD k 0) (cs.getD k default)
    rw [← prog_set (metF r u cs) k cs rfl, hs.1, hs.2, ih.1, ih.2, prog_getD _ _ _ (by omega), if_neg (Nat.lt_irrefl k)]
    show _ - _ + ((metC r (u.k.getD k 0) (cs.getD k default)).e - (metC r (u.k.getD k 0) (cs.getD k default)).w) = _ ∧ _ - _ + ((metC r (u.k.getD k 0) (cs.getD k default)).n - (metC r (u.k.getD k 0) (cs.getD k default)).s) = _
    simp only [totE, totN]; omega
theorem east_bd : ∀ {cs : List Cel}, okL cs = true → (-(2000000000 * (cs.length : Int)) ≤ eastL cs ∧ eastL cs ≤ 2000000000 * cs.length) ∧ -(2000000000 * (cs.length : Int)) ≤ northL cs ∧ northL cs ≤ 2000000000 * cs.length
  | [], _ => by simp [eastL, northL]
  | c :: cs, h => by
    have h' := okL_iff.1 h
    have hc := Cel.ok_iff.1 (h' c (List.mem_cons_self ..))
    have ih := east_bd (cs := cs) (okL_iff.2 fun d hd => h' d (List.mem_cons_of_mem _ hd))
    simp only [eastL, northL, List.length_cons]; omega
/-- The momentum after so many steps is that before and the drag of all bodies. -/
theorem walk_mom {g : Grd} {u : Wal} {l : List Rul} {t : Int} (h : walB g u = true) (hr : rulesB l = true) (ht : 0 ≤ t) : ∀ k : Nat, eastL (wgr g u l t k).cs = eastL g.cs + sumL (fun b => (drgS g u l t b k).1) (bodK u g.cs.length 9) ∧ northL (wgr g u l t k).cs = northL g.cs + sumL (fun b => (drgS g u l t b k).2) (bodK u g.cs.length 9)
  | 0 => by simp only [drgS, sumL_zero]; exact ⟨by simp [wgr, walkC], by simp [wgr, walkC]⟩
  | k + 1 => by
    have ih := walk_mom h hr ht k
    obtain ⟨hok, w1, w2, w3⟩ := wal_ok h
    have hw := wgr_ok h hr ht k
    have hb := gok_bds hok
    have hi := imp_bod (u := u) (cs := (wgr g u l t k).cs) w3
    have hm := met_en (rho l t k) u (wgr g u l t k).cs (wgr g u l t k).cs.length (Nat.le_refl _)
    have hf := flow_sums (w := g.w) (h := g.h) (cs := metL (rho l t k) u (wgr g u l t k).cs) (by omega) (by omega) (by rw [metL_length, hw.2.2]; omega) 1
    simp only [drgS, sumL_add, hi.1, hi.2]
    show eastL (flow g.w g.h 1 (metL (rho l t k) u (wgr g u l t k).cs)) = _ ∧ northL (flow g.w g.h 1 (metL (rho l t k) u (wgr g u l t k).cs)) = _
    rw [hf.2.1, hf.2.2]
    unfold metL
    rw [hm.1, hm.2, hw.2.2]
    omega
/-! ### For the law -/
theorem Wal.eta (u : Wal) : (⟨u.k, u.b⟩ : Wal) = u := rfl
theorem awakeRv : revG ⟨1, 1, [⟨1, 2, 3, 4⟩]⟩ = ⟨1, 1, [⟨3, 4, 1, 2⟩]⟩ ∧ (⟨1, 1, [⟨1, 2, 3, 4⟩]⟩ : Grd).err = 0 := by decide
theorem wrun_two (g : Grd) (u : Wal) (l : List Rul) (t n : Int) : (wrunE g u l t n ≠ 0) ∨ (wrunE g u l t n = 0 ∧ wrunG g u l t n = wgr g u l t n.toNat ∧ walB g u = true ∧ rulesB l = true ∧ ((0 ≤ t ∧ t ≤ 1000000) ∧ (0 ≤ n ∧ n ≤ 1000) ∧ (0 < n → t + n - 1 ≤ 1000000)) ∧ (1 ≤ l.length ∧ l.length ≤ 8)) := by
  by_cases h : wrunE g u l t n = 0
  · obtain ⟨h1, h2, h3, h4⟩ := wrun_ok h
    exact .inr ⟨h, by unfold wrunG; rw [if_pos h]; rfl, h1, h2, h3, h4⟩
  · exact .inl h
theorem bod_at {g : Grd} {u : Wal} {B : List Int} (h : walB g u = true) (hB : B = bodK u g.cs.length 9) : ∀ i, i < B.length → (1 ≤ B.getD i 0 ∧ B.getD i 0 ≤ 9) ∧ hasI u.b (B.getD i 0) = true := fun i hi => by
  have hm : B.getD i 0 ∈ bodK u g.cs.length 9 := by rw [← hB]; exact getD_mem 0 hi
  have := bodK_mem hm
  obtain ⟨_, _, w2, _⟩ := wal_ok h
  exact ⟨by omega, hasI_cnt (by omega) this.2⟩
theorem drg_sums {g : Grd} {u : Wal} {l : List Rul} {t n : Int} (h : walB g u = true) (hr : rulesB l = true) (ht : 0 ≤ t) (hn : n ≤ 1000) {FE FN : Int → Int} (hFE : FE = fun b => (drgS g u l t b n.toNat).1) (hFN : FN = fun b => (drgS g u l t b n.toNat).2) {B : List Int} (hB : B = bodK u g.cs.length 9) :
    ∀ i : Nat, (-100000000000000000 ≤ eastL g.cs + sumL FE (B.take i) ∧ eastL g.cs + sumL FE (B.take i) ≤ 100000000000000000) ∧ -100000000000000000 ≤ northL g.cs + sumL FN (B.take i) ∧ northL g.cs + sumL FN (B.take i) ≤ 100000000000000000 := fun i => by
  have hd := fun b => drgS_bd h hr ht b n.toNat
  have hf1 : ∀ b, -5000000000000000 ≤ FE b ∧ FE b ≤ 5000000000000000 := fun b => by have := hd b; rw [hFE]; simp only; omega
  have hf2 : ∀ b, -5000000000000000 ≤ FN b ∧ FN b ≤ 5000000000000000 := fun b => by have := hd b; rw [hFN]; simp only; omega
  have h1 := sumL_bd hf1 (B.take i)
  have h2 := sumL_bd hf2 (B.take i)
  have hl : (B.take i).length ≤ 9 := by
    have := bodK_len u g.cs.length 9
    rw [List.length_take, hB]; omega
  have he := east_bd (gok_okL (wal_ok h).1)
  have hb := gok_bds (wal_ok h).1
  omega
theorem drg_mom {g : Grd} {u : Wal} {l : List Rul} {t n : Int} (h : walB g u = true) (hr : rulesB l = true) (ht : 0 ≤ t) (hE : wrunE g u l t n = 0) (hG : wrunG g u l t n = wgr g u l t n.toNat) {FE FN : Int → Int} (hFE : FE = fun b => (drgS g u l t b n.toNat).1) (hFN : FN = fun b => (drgS g u l t b n.toNat).2) {B : List Int} (hB : B = bodK u g.cs.length 9) :
    (Grd.east (wrunG g u l t n) = eastL g.cs + sumL FE (B.take B.length) ∧ Grd.north (wrunG g u l t n) = northL g.cs + sumL FN (B.take B.length) ∧ Grd.err (wrunG g u l t n) = 0) ∧ (Grd.east g = eastL g.cs ∧ Grd.north g = northL g.cs ∧ Grd.err g = 0) ∧ (wrunG g u l t n).cs.length = g.cs.length := by
  have hw := wgr_ok h hr ht n.toNat
  have hm := walk_mom h hr ht n.toNat
  have hok := (wal_ok h).1
  have hg : (wrunG g u l t n).ok = true := by rw [hG]; exact hw.1
  rw [List.take_length]
  refine ⟨⟨?_, ?_, ?_⟩, ⟨?_, ?_, ?_⟩, by rw [hG]; exact hw.2.2⟩
  · simp only [Grd.east, hg, if_true]; rw [hG, hm.1, hFE, hB]
  · simp only [Grd.north, hg, if_true]; rw [hG, hm.2, hFN, hB]
  · simp [Grd.err, hg]
  · simp [Grd.east, hok]
  · simp [Grd.north, hok]
  · simp [Grd.err, hok]
end Go.Sy
