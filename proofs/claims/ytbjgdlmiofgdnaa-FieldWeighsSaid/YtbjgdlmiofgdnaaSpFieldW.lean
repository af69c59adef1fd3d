import Derived.Test.YtbjgdlmiofgdnaaSpRuns
import Derived.Test.YtbjgdlmiofgdnaaSpField5
import Derived.Test.YtbjgdlmiofgdnaaSyZ
/- What shifting, turning, mirroring a grid tell. -/
set_option linter.unusedSimpArgs false
set_option linter.unusedVariables false
set_option linter.unusedSectionVars false
namespace Go.Sy
def shiftG (g : Grd) (x y : Int) : Grd := if g.ok then ⟨g.w, g.h, shiftC g.w g.h x y g.cs⟩ else ⟨0, 0, []⟩
def turnG (g : Grd) : Grd := if g.ok then ⟨g.h, g.w, trnC g.w g.h g.cs⟩ else ⟨0, 0, []⟩
def mirG (g : Grd) : Grd := if g.ok then ⟨g.w, g.h, mirC g.w g.cs⟩ else ⟨0, 0, []⟩
theorem shiftC_length (w h x y : Int) (cs : List Cel) : (shiftC w h x y cs).length = cs.length := tab_length _ _
theorem trnC_length (w h : Int) (cs : List Cel) : (trnC w h cs).length = cs.length := tab_length _ _
theorem mirC_length (w : Int) (cs : List Cel) : (mirC w cs).length = cs.length := tab_length _ _
theorem move_ways (g : Grd) (x y : Int) : (g.ok = false ∧ g.err = 1 ∧ shiftG g x y = ⟨0, 0, []⟩ ∧ turnG g = ⟨0, 0, []⟩ ∧ mirG g = ⟨0, 0, []⟩) ∨
    (g.ok = true ∧ g.err = 0 ∧ shiftG g x y = ⟨g.w, g.h, shiftC g.w g.h x y g.cs⟩ ∧ turnG g = ⟨g.h, g.w, trnC g.w g.h g.cs⟩ ∧ mirG g = ⟨g.w, g.h, mirC g.w g.cs⟩ ∧ (1 ≤ g.cs.length ∧ g.cs.length ≤ 1024) ∧
      ((1 ≤ g.w ∧ g.w ≤ 64 ∧ 1 ≤ g.h ∧ g.h ≤ 64 ∧ g.w * g.h ≤ 1024) ∧ (g.cs.length : Int) = g.w * g.h ∧ g.cs.length = (g.w * g.h).toNat ∧ g.cs.length = (g.h * g.w).toNat) ∧
      (∀ k, k < g.cs.length → (g.cs.getD k default).ok = true) ∧
      (∀ k : Nat, k < g.cs.length → 0 ≤ (k : Int) % g.w ∧ (k : Int) % g.w < g.w ∧ 0 ≤ (k : Int) / g.w ∧ (k : Int) / g.w < g.h ∧ (k : Int) % g.w + g.w * ((k : Int) / g.w) = k) ∧
      Bij g.cs.length (shp g.w g.h x y) (shp g.w g.h (-x) (-y)) ∧ Bij g.cs.length (mirP g.w) (mirP g.w) ∧ Bij g.cs.length (trnP g.w g.h) (nrtP g.w g.h)) := by
  cases h : g.ok
  · exact .inl ⟨rfl, by simp [Grd.err, h], by simp [shiftG, h], by simp [turnG, h], by simp [mirG, h]⟩
  · obtain ⟨h1, h2, h3, h4⟩ := Grd.ok_iff.1 h
    have hb := gok_bds h
    have hw : 0 < g.w := by omega
    have hh : 0 < g.h := by omega
    have e : g.h * g.w = g.w * g.h := Int.mul_comm _ _
    exact .inr ⟨rfl, by simp [Grd.err, h], by simp [shiftG, h], by simp [turnG, h], by simp [mirG, h], by omega, ⟨h1, h2, by omega, by omega⟩, fun k hk => okL_at (gok_okL h) hk, fun k hk => xy_bd hw hh (by omega),
      bij_shp hw hh h2 x y, bij_mir hw hh h2, bij_trn hw hh h2⟩
/-- The places as the program counts them. -/
theorem at_shift {w h : Int} (hw : 0 < w) (hh : 0 < h) (x y : Int) (k : Nat) : atI w h ((k : Int) % w + x % w) ((k : Int) / w + y % h) = shp w h x y k := by
  rw [at_shp, shp_mod hw hh]
theorem at_mir {w h : Int} {k : Nat} (hx : 0 ≤ (k : Int) % w ∧ (k : Int) % w < w) (hy : 0 ≤ (k : Int) / w ∧ (k : Int) / w < h) : atI w h (w - 1 - (k : Int) % w) ((k : Int) / w) = mirP w k := by
  unfold atI mirP
  rw [Int.emod_eq_of_lt (a := w - 1 - (k : Int) % w) (by omega) (by omega), Int.emod_eq_of_lt hy.1 hy.2]
theorem at_trn {w h : Int} {k : Nat} (hx : 0 ≤ (k : Int) % w ∧ (k : Int) % w < w) (hy : 0 ≤ (k : Int) / w ∧ (k : Int) / w < h) : atI h w (h - 1 - (k : Int) / w) ((k : Int) % w) = trnP w h k := by
  unfold atI trnP
  rw [Int.emod_eq_of_lt (a := h - 1 - (k : Int) / w) (by omega) (by omega), Int.emod_eq_of_lt hx.1 hx.2]
theorem sc_shift {w h x y : Int} {cs : List Cel} (hb : Bij cs.length (shp w h x y) (shp w h (-x) (-y))) {k : Nat} (hk : cs.length ≤ k) : scat cs.length (shp w h (-x) (-y)) (fun i => cs.getD i default) k = shiftC w h x y cs := scat_full hb _ hk
theorem sc_mir {w : Int} {cs : List Cel} (hb : Bij cs.length (mirP w) (mirP w)) {k : Nat} (hk : cs.length ≤ k) : scat cs.length (mirP w) (fun i => (cs.getD i default).mir) k = mirC w cs := scat_full hb _ hk
theorem sc_trn {w h : Int} {cs : List Cel} (hb : Bij cs.length (trnP w h) (nrtP w h)) {k : Nat} (hk : cs.length ≤ k) : scat cs.length (nrtP w h) (fun i => (cs.getD i default).rot 1) k = trnC w h cs := scat_full hb _ hk
theorem sc_mir' {w : Int} {cs : List Cel} (hb : Bij cs.length (mirP w) (mirP w)) (ho : ∀ k, k < cs.length → (cs.getD k default).ok = true) {k : Nat} (hk : cs.length ≤ k) : scat cs.length (mirP w) (fun i => ((cs.getD i default).mirrored).1) k = mirC w cs := by
  rw [scat_full hb _ hk]
  refine tab_congr fun i hi => ?_
  simp only [Cel.mirrored, ho _ (hb.t i hi), if_true]
theorem sc_trn' {w h : Int} {cs : List Cel} (hb : Bij cs.length (trnP w h) (nrtP w h)) (ho : ∀ k, k < cs.length → (cs.getD k default).ok = true) {k : Nat} (hk : cs.length ≤ k) : scat cs.length (nrtP w h) (fun i => ((cs.getD i default).turned 1).1) k = trnC w h cs := by
  rw [scat_full hb _ hk]
  refine tab_congr fun i hi => ?_
  simp only [Cel.turned, ho _ (hb.t i hi), if_true]
  rfl
theorem r_shift {w h : Int} (hw : 0 < w) (hh : 0 < h) {x y : Int} {k : Nat} : (((k : Int) % w + x % w) % w + ((k : Int) / w + y % h) % h * w).toNat = shp w h x y k := by
  rw [Int.mul_comm _ w]; exact at_shift hw hh x y k
theorem mv_len (g : Grd) (x y : Int) : (shiftG g x y).cs.length ≤ g.cs.length ∧ (turnG g).cs.length ≤ g.cs.length ∧ (mirG g).cs.length ≤ g.cs.length := by
  unfold shiftG turnG mirG
  cases g.ok <;> simp [shiftC_length, trnC_length, mirC_length]
end Go.Sy

/- Runs put together and undone; steps kept. -/
set_option linter.unusedSimpArgs false
set_option linter.unusedVariables false
set_option linter.unusedSectionVars false
namespace Go.Sy
theorem run_len (g : Grd) (l : List Rul) (t n : Int) : (runG g l t n).cs.length ≤ g.cs.length ∧ (undoG g l t n).cs.length ≤ g.cs.length := by
  constructor
  · unfold runG; split
    · exact Nat.le_of_eq (runC_length ..)
    · exact Nat.zero_le _
  · unfold undoG; split
    · exact Nat.le_of_eq (bakC_length ..)
    · exact Nat.zero_le _
theorem rho_z (l : List Rul) (t : Int) : l.getD (t.tmod (l.length : Int)).toNat default = rho l t 0 := by
  unfold rho; rw [show t + ((0 : Nat) : Int) = t from Int.add_zero t]
theorem I64_mk {a : Int} (h1 : -9223372036854775808 ≤ a) (h2 : a ≤ 9223372036854775807) : I64 a := ⟨h1, h2⟩
theorem runE_zero {g : Grd} {l : List Rul} {t n : Int} (h : runE g l t n = 0) : g.ok = true ∧ rulesB l = true ∧ timesP t n := by
  unfold runE at h
  cases hg : g.ok
  · simp [hg] at h
  · cases hr : rulesB l
    · simp [hr] at h
    · by_cases ht : timesP t n
      · exact ⟨rfl, rfl, ht⟩
      · simp only [hg, hr, Bool.and_true, if_true, if_neg ht] at h; omega
theorem runE_mk {g : Grd} {l : List Rul} {t n : Int} (hg : g.ok = true) (hr : rulesB l = true) (ht : timesP t n) : runE g l t n = 0 := by
  unfold runE
  rw [hg, hr, Bool.and_true, if_pos rfl, if_pos ht]
theorem runG_eq {g : Grd} {l : List Rul} {t n : Int} (h : runE g l t n = 0) : runG g l t n = ⟨g.w, g.h, runC g.w g.h (rho l t) g.cs n.toNat⟩ := if_pos h
theorem undoG_eq {g : Grd} {l : List Rul} {t n : Int} (h : runE g l t n = 0) : undoG g l t n = ⟨g.w, g.h, bakC g.w g.h (fun i => rho l t (n.toNat - 1 - i)) g.cs n.toNat⟩ := if_pos h
theorem runG_ok {g : Grd} {l : List Rul} {t n : Int} (h : runE g l t n = 0) : (runG g l t n).ok = true := by
  obtain ⟨h1, h2, h3⟩ := runE_zero h
  rw [runG_eq h]
  exact runC_ok h1 (fun k => (rho_ok h2 h3.1.1 k).1) _
theorem undoG_ok {g : Grd} {l : List Rul} {t n : Int} (h : runE g l t n = 0) : (undoG g l t n).ok = true := by
  obtain ⟨h1, h2, h3⟩ := runE_zero h
  rw [undoG_eq h]
  exact bakC_ok h1 (fun k => (rho_ok h2 h3.1.1 _).1) _
theorem run_undone {g : Grd} {l : List Rul} {t n : Int} (h : runE g l t n = 0) : runE (runG g l t n) l t n = 0 ∧ undoG (runG g l t n) l t n = g := by
  obtain ⟨h1, h2, h3⟩ := runE_zero h
  have he : runE (runG g l t n) l t n = 0 := runE_mk (runG_ok h) h2 h3
  refine ⟨he, ?_⟩
  rw [undoG_eq he, runG_eq h]
  show (⟨g.w, g.h, _⟩ : Grd) = g
  simp only [undone h1 (fun k => (rho_ok h2 h3.1.1 k).1) n.toNat]
theorem step_redone {g : Grd} {l : List Rul} {t : Int} (h : runE g l t 1 = 0) : runE (undoG g l t 1) l t 1 = 0 ∧ runG (undoG g l t 1) l t 1 = g := by
  obtain ⟨h1, h2, h3⟩ := runE_zero h
  have he : runE (undoG g l t 1) l t 1 = 0 := runE_mk (undoG_ok h) h2 h3
  refine ⟨he, ?_⟩
  rw [runG_eq he, undoG_eq h]
  have e := Grd.step_back h1 (rho_ok h2 h3.1.1 0).1
  simp only [Grd.step, Grd.back] at e
  exact e
theorem kept_law (g : Grd) (l : List Rul) (t : Int) : runE g l t 1 ≠ 0 ∨ (runE g l t 1 = 0 ∧ g.ok = true ∧ (runG g l t 1).ok = true ∧ g.err = 0 ∧ (runG g l t 1).err = 0 ∧ (runG g l t 1).mass = g.mass ∧ (runG g l t 1).east = g.east ∧ (runG g l t 1).north = g.north ∧
    (runE (runG g l t 1) l t 1 = 0 ∧ undoG (runG g l t 1) l t 1 = g) ∧ (runE (undoG g l t 1) l t 1 = 0 ∧ runG (undoG g l t 1) l t 1 = g)) := by
  by_cases h : runE g l t 1 = 0
  · obtain ⟨h1, h2, h3⟩ := runE_zero h
    have ho := runG_ok h
    have hs := runC_sums h1 (fun k => (rho_ok h2 h3.1.1 k).1) (ρ := rho l t) (1 : Int).toNat
    refine .inr ⟨h, h1, ho, by simp [Grd.err, h1], by simp [Grd.err, ho], ?_, ?_, ?_, run_undone h, step_redone h⟩
    · simp only [Grd.mass, ho, h1, if_true]; rw [runG_eq h]; exact hs.1
    · simp only [Grd.east, ho, h1, if_true]; rw [runG_eq h]; exact hs.2.1
    · simp only [Grd.north, ho, h1, if_true]; rw [runG_eq h]; exact hs.2.2
  · exact .inl h
theorem rho_add (l : List Rul) (t m : Int) (hm : 0 ≤ m) (k : Nat) : rho l (t + m) k = rho l t (m.toNat + k) := by
  unfold rho
  rw [show t + m + (k : Int) = t + ((m.toNat + k : Nat) : Int) by omega]
theorem parts_law (g : Grd) (l : List Rul) (a b c : Int) : runE g l a b ≠ 0 ∨ ((0 ≤ a ∧ a ≤ 900000 ∧ 0 ≤ b ∧ b ≤ 30 ∧ 0 ≤ c ∧ c ≤ 30) → runE g l a b = 0 ∧ runE (runG g l a b) l (a + b) c = 0 ∧ runE g l a (b + c) = 0 ∧ runG (runG g l a b) l (a + b) c = runG g l a (b + c) ∧ runE (runG g l a (b + c)) l a (b + c) = 0 ∧ undoG (runG g l a (b + c)) l a (b + c) = g) := by
  by_cases h : runE g l a b = 0
  · refine .inr fun hb => ?_
    obtain ⟨h1, h2, h3⟩ := runE_zero h
    have e1 : runE (runG g l a b) l (a + b) c = 0 := runE_mk (runG_ok h) h2 (by unfold timesP; omega)
    have e2 : runE g l a (b + c) = 0 := runE_mk h1 h2 (by unfold timesP; omega)
    refine ⟨h, e1, e2, ?_, (run_undone e2).1, (run_undone e2).2⟩
    rw [runG_eq e1, runG_eq h, runG_eq e2]
    show (⟨g.w, g.h, _⟩ : Grd) = _
    rw [show (b + c).toNat = b.toNat + c.toNat by omega, runC_add]
    simp only
    rw [runC_congr fun i _ => rho_add l a b (by omega) i]
  · exact .inl h
/-! ### Streamed back by the machine's own steps -/
theorem turn_inv {r : Rul} (h : r.ok = true) (hk : r.k ≠ 2) : r.inv = r := by
  have h2 := Rul.ok_iff.1 h
  unfold Rul.inv
  obtain ⟨k, b⟩ := r
  simp only at *
  have : b = 0 := by omega
  subst this; rfl
theorem rev_after (c : Cel) (r : Rul) : c.rev.after r = (c.after r).rev := by
  have h1 : c.rev.h = c.h := by unfold Cel.h Cel.rev; simp only; omega
  have h2 : c.rev.v = c.v := by unfold Cel.v Cel.rev; simp only; omega
  unfold Cel.after
  rw [h1, h2, Cel.eq_iff]
  simp only [Cel.placed, h1, h2, Cel.rev]
  refine ⟨?_, ?_, ?_, ?_⟩ <;> first | rfl | (simp only [Cel.h, Cel.v]; omega)
theorem aft_rev (r : Rul) (cs : List Cel) : aft r (revC cs) = revC (aft r cs) := by
  unfold aft revC
  rw [List.map_map, List.map_map]
  exact List.map_congr_left fun c _ => rev_after c r
theorem rev_step {g : Grd} {r : Rul} (h : g.ok = true) (hr : r.ok = true) (hk : r.k ≠ 2) : aft r (flow g.w g.h 1 (revC (flow g.w g.h 1 (aft r g.cs)))) = revC g.cs := by
  obtain ⟨h1, h2, h3, h4⟩ := Grd.ok_iff.1 h
  have e := stream_rev (gok_flow 1 (gok_aft hr h))
  simp only at e
  have e2 := flow_flow (w := g.w) (h := g.h) (cs := aft r g.cs) (by omega) (by omega) (by rw [aft_length]; exact h2) 1
  have e3 : flow g.w g.h 1 (revC (flow g.w g.h 1 (aft r g.cs))) = revC (aft r g.cs) := by
    have := congrArg revC e
    rw [revC_revC, e2] at this; exact this
  rw [e3, aft_rev]
  have := (aft_undone hr (gok_okL h)).1
  rw [turn_inv hr hk] at this
  rw [this]
/-- What comes after k of n steps back. -/
def revR (w h : Int) (r : Rul) (cs : List Cel) (n k : Nat) : List Cel := revC (runC w h (fun _ => r) cs (n - k))
theorem revR_length (w h : Int) (r : Rul) (cs : List Cel) (n k : Nat) : (revR w h r cs n k).length = cs.length := by unfold revR; rw [revC_length, runC_length]
theorem revR_next {g : Grd} {r : Rul} (h : g.ok = true) (hr : r.ok = true) (hk : r.k ≠ 2) {n k : Nat} (hn : k < n) : aft r (flow g.w g.h 1 (revR g.w g.h r g.cs n k)) = revR g.w g.h r g.cs n (k + 1) := by
  unfold revR
  rw [show n - k = (n - (k + 1)) + 1 by omega, runC]
  exact rev_step (g := ⟨g.w, g.h, runC g.w g.h (fun _ => r) g.cs (n - (k + 1))⟩) (runC_ok h (fun _ => hr) _) hr hk
theorem revR_end (w h : Int) (r : Rul) (cs : List Cel) {n k : Nat} (hn : n ≤ k) : revC (revR w h r cs n k) = cs := by
  unfold revR; rw [show n - k = 0 by omega, runC, revC_revC]
theorem revR_zero (w h : Int) (r : Rul) (cs : List Cel) (n : Nat) : revR w h r cs n 0 = revC (runC w h (fun _ => r) cs n) := rfl
theorem revR_ok {g : Grd} {r : Rul} (h : g.ok = true) (hr : r.ok = true) (n k : Nat) : (⟨g.w, g.h, revR g.w g.h r g.cs n k⟩ : Grd).ok = true :=
  gok_rev (g := ⟨g.w, g.h, runC g.w g.h (fun _ => r) g.cs (n - k)⟩) (runC_ok h (fun _ => hr) _)
/-! ### Steps and movements change places -/
theorem emod_back {w : Int} (hw : 0 < w) (x : Int) : (w - 1 - x) % w = w - 1 - x % w := by
  have b1 := Int.emod_nonneg x (show w ≠ 0 by omega)
  have b2 := Int.emod_lt_of_pos x hw
  have hd := Int.emod_add_mul_ediv x w
  rw [show w - 1 - x = (w - 1 - x % w) + w * (-(x / w)) by rw [Int.mul_neg]; omega, Int.add_mul_emod_self_left]
  exact Int.emod_eq_of_lt (by omega) (by omega)
section
variable {w h : Int} (hw : 0 < w) (hh : 0 < h) {cs : List Cel} (hl : (cs.length : Int) = w * h)
include hw hh hl
theorem aft_tab (r : Rul) (n : Nat) (f : Nat → Cel) : aft r (tab n f) = tab n fun j => (f j).after r := by unfold aft tab; rw [List.map_map]; rfl
theorem aft_at (r : Rul) {j : Nat} (hj : j < cs.length) : (aft r cs).getD j default = (cs.getD j default).after r := by simp [aft, List.getD, hj]
theorem aft_shift (r : Rul) (x y : Int) : aft r (shiftC w h x y cs) = shiftC w h x y (aft r cs) := by
  unfold shiftC
  rw [aft_tab hw hh hl, aft_length]
  exact tab_congr fun j _ => (aft_at hw hh hl r (by have := shp_lt hw hh (-x) (-y) j; omega)).symm
theorem flow_shift (x y : Int) : flow w h 1 (shiftC w h x y cs) = shiftC w h x y (flow w h 1 cs) := by
  have lt : ∀ a b i, shp w h a b i < cs.length := fun a b i => by have := shp_lt hw hh a b i; omega
  have at_ : ∀ i, i < cs.length → (shiftC w h x y cs).getD i default = cs.getD (shp w h (-x) (-y) i) default := fun i hi => tab_at _ hi
  have hx : ∀ p q : Int, p + -q = -q + p := fun p q => Int.add_comm _ _
  conv => rhs; unfold shiftC
  rw [flow_length]
  unfold flow
  rw [shiftC_length]
  refine tab_congr fun j hj => ?_
  rw [tab_at _ (lt _ _ j)]
  simp only [at_ _ (lt _ _ _), shp_shp hw hh, Int.add_comm (-x), Int.add_comm (-y)]
theorem aft_mir (r : Rul) : aft r (mirC w cs) = mirC w (aft r cs) := by
  unfold mirC
  rw [aft_tab hw hh hl, aft_length]
  refine tab_congr fun j hj => ?_
  rw [aft_at hw hh hl r (mirP_xy hw hh hl hj).1, Cel.mir_after]
theorem mir_shp (a b : Int) {i : Nat} (hi : i < cs.length) : mirP w (shp w h a b i) = shp w h (-a) b (mirP w i) := by
  have q := mirP_xy hw hh hl hi
  have lt : shp w h a b i < cs.length := by have := shp_lt hw hh a b i; omega
  have q2 := mirP_xy hw hh hl lt
  refine shp_eq_iff hw hh ?_ ?_
  · rw [q2.2.1, shp_x hw hh, shp_x hw hh, q.2.1]
    rw [show w - 1 - (i : Int) % w + -a = w - 1 - ((i : Int) % w + a) by omega, emod_back hw]
  · rw [q2.2.2, shp_y hw hh, shp_y hw hh, q.2.2]
theorem flow_mir : flow w h 1 (mirC w cs) = mirC w (flow w h 1 cs) := by
  have lt : ∀ a b i, shp w h a b i < cs.length := fun a b i => by have := shp_lt hw hh a b i; omega
  have at_ : ∀ i, i < cs.length → (mirC w cs).getD i default = (cs.getD (mirP w i) default).mir := fun i hi => tab_at _ hi
  conv => rhs; unfold mirC
  rw [flow_length]
  unfold flow
  rw [mirC_length]
  refine tab_congr fun j hj => ?_
  rw [tab_at _ (mirP_xy hw hh hl hj).1]
  simp only [at_ _ (lt _ _ _), mir_shp hw hh hl _ _ hj, Cel.mir, Int.neg_neg, Int.neg_zero]
theorem aft_trn {r : Rul} (hr : r.ok = true) (hk : r.k ≠ 2) : aft r (trnC w h cs) = trnC w h (aft r cs) := by
  unfold trnC
  rw [aft_tab hw hh hl, aft_length]
  refine tab_congr fun j hj => ?_
  rw [aft_at hw hh hl r (nrtP_xy hw hh hl hj).1]
  obtain ⟨k, b⟩ := r
  have h2 := Rul.ok_iff.1 hr
  simp only at h2 hk
  have : b = 0 := by omega
  subst this
  rcases (show k = 0 ∨ k = 1 by omega) with rfl | rfl
  · have e : ∀ d : Cel, d.after ⟨0, 0⟩ = d := fun d => by
      rw [Cel.eq_iff]; simp [Cel.after, Cel.placed, Rul.turn]
    rw [e, e]
  · exact Cel.rot_after 1
theorem trn_shp (a b : Int) {j : Nat} (hj : j < cs.length) : nrtP w h (shp h w a b j) = shp w h b (-a) (nrtP w h j) := by
  have q := nrtP_xy hw hh hl hj
  have lt : shp h w a b j < cs.length := by have := shp_lt hh hw a b j; have : h * w = w * h := Int.mul_comm _ _; omega
  have q2 := nrtP_xy hw hh hl lt
  refine shp_eq_iff hw hh ?_ ?_
  · rw [q2.2.1, shp_x hw hh, shp_y hh hw, q.2.1]
  · rw [q2.2.2, shp_y hw hh, shp_x hh hw, q.2.2]
    rw [show h - 1 - (j : Int) % h + -a = h - 1 - ((j : Int) % h + a) by omega, emod_back hh]
theorem flow_trn : flow h w 1 (trnC w h cs) = trnC w h (flow w h 1 cs) := by
  have e : h * w = w * h := Int.mul_comm _ _
  have lt : ∀ a b i, shp h w a b i < cs.length := fun a b i => by have := shp_lt hh hw a b i; omega
  have at_ : ∀ i, i < cs.length → (trnC w h cs).getD i default = (cs.getD (nrtP w h i) default).rot 1 := fun i hi => tab_at _ hi
  conv => rhs; unfold trnC
  rw [flow_length]
  unfold flow
  rw [trnC_length]
  refine tab_congr fun j hj => ?_
  rw [tab_at _ (nrtP_xy hw hh hl hj).1]
  simp only [at_ _ (lt _ _ _), trn_shp hw hh hl _ _ hj, Cel.rot, Int.neg_neg, Int.neg_zero]
  simp
end
end Go.Sy

/- Crossings told cell by cell, rows, parities; what crosses all lines, what a step does to parities. -/
set_option linter.unusedSimpArgs false
set_option linter.unusedVariables false
set_option linter.unusedSectionVars false
namespace Go.Sy
/-! ### Cells that are picked out -/
def selS (P : Nat → Bool) (f : Cel → Int) (cs : List Cel) (k : Nat) : Int := sumI ((List.range k).map fun i => if P i then f (cs.getD i default) else 0)
theorem selS_zero (P : Nat → Bool) (f : Cel → Int) (cs : List Cel) : selS P f cs 0 = 0 := rfl
theorem selS_t {P : Nat → Bool} {f : Cel → Int} {cs : List Cel} {k : Nat} (h : P k = true) : selS P f cs (k + 1) = selS P f cs k + f (cs.getD k default) := by
  unfold selS; rw [sumI_range_succ (fun i => if P i then f (cs.getD i default) else 0), h]; simp
theorem selS_f {P : Nat → Bool} {f : Cel → Int} {cs : List Cel} {k : Nat} (h : P k = false) : selS P f cs (k + 1) = selS P f cs k := by
  unfold selS; rw [sumI_range_succ (fun i => if P i then f (cs.getD i default) else 0), h]; simp
theorem selS_bd {P : Nat → Bool} {f : Cel → Int} {cs : List Cel} (hf : ∀ i, 0 ≤ f (cs.getD i default) ∧ f (cs.getD i default) ≤ 4000000000) : ∀ k : Nat, 0 ≤ selS P f cs k ∧ selS P f cs k ≤ 4000000000 * k
  | 0 => by simp [selS_zero]
  | k + 1 => by
    have ih := selS_bd (P := P) hf k
    have h := hf k
    cases hp : P k
    · rw [selS_f hp]; omega
    · rw [selS_t hp]; omega
theorem range_cut (G : Nat → Int) (a : Nat) : ∀ b : Nat, sumI ((List.range (a + b)).map G) = sumI ((List.range a).map G) + sumI ((List.range b).map fun x => G (a + x))
  | 0 => by simp [sumI]
  | b + 1 => by rw [← Nat.add_assoc, sumI_range_succ, range_cut G a b, sumI_range_succ (fun x => G (a + x))]; omega
theorem range_grid (G : Nat → Int) (w : Nat) : ∀ m : Nat, sumI ((List.range (w * m)).map G) = sumI ((List.range m).map fun y => sumI ((List.range w).map fun x => G (w * y + x)))
  | 0 => by simp [sumI]
  | m + 1 => by rw [Nat.mul_succ, range_cut, range_grid G w m, sumI_range_succ (fun y => sumI ((List.range w).map fun x => G (w * y + x)))]
theorem sel_grid {g : Grd} (hg : g.ok = true) (P : Int → Int → Bool) (f : Cel → Int) : selS (fun i : Nat => P ((i : Int) % g.w) ((i : Int) / g.w)) f g.cs g.cs.length =
    sumI ((List.range g.h.toNat).map fun y : Nat => sumI ((List.range g.w.toNat).map fun x : Nat => if P (x : Int) (y : Int) then f (atP g.w g.cs (x : Int) (y : Int)) else 0)) := by
  have hb := gok_bds hg
  have hl : g.cs.length = g.w.toNat * g.h.toNat := by
    have : ((g.w.toNat * g.h.toNat : Nat) : Int) = g.w * g.h := by rw [Int.natCast_mul, Int.toNat_of_nonneg (by omega), Int.toNat_of_nonneg (by omega)]
    omega
  unfold selS
  rw [hl, range_grid]
  refine congrArg sumI (List.map_congr_left fun y hy => congrArg sumI (List.map_congr_left fun x hx => ?_))
  have hx' := List.mem_range.1 hx
  have e : ((g.w.toNat * y + x : Nat) : Int) = (x : Int) + g.w * (y : Int) := by rw [Int.natCast_add, Int.natCast_mul, Int.toNat_of_nonneg (by omega)]; omega
  have em : ((x : Int) + g.w * (y : Int)) % g.w = x := by rw [Int.add_mul_emod_self_left]; exact Int.emod_eq_of_lt (by omega) (by omega)
  have ed : ((x : Int) + g.w * (y : Int)) / g.w = y := by rw [Int.add_mul_ediv_left _ _ (show g.w ≠ 0 by omega), Int.ediv_eq_zero_of_lt (by omega) (by omega), Int.zero_add]
  simp only [e, em, ed]
  unfold atP
  rw [← e, Int.toNat_natCast]
theorem sum_zero (n : Nat) : sumI ((List.range n).map fun _ : Nat => (0 : Int)) = 0 := by
  induction n with
  | zero => rfl
  | succ n ih => rw [sumI_range_succ (fun _ => 0), ih]; rfl
theorem sum_pick (F : Nat → Int) (c : Nat) : ∀ n : Nat, sumI ((List.range n).map fun x : Nat => if ((x : Int) == (c : Int)) then F x else 0) = if c < n then F c else 0
  | 0 => by simp [sumI]
  | n + 1 => by
    rw [sumI_range_succ (fun x : Nat => if ((x : Int) == (c : Int)) then F x else 0), sum_pick F c n]
    by_cases h : n = c
    · subst h; simp
    · have h1 : ((n : Int) == (c : Int)) = false := by rw [beq_eq_false_iff_ne]; omega
      rw [h1]
      simp only [Bool.false_eq_true, if_false, Int.add_zero]
      by_cases h2 : c < n
      · rw [if_pos h2, if_pos (by omega)]
      · rw [if_neg h2, if_neg (by omega)]
theorem sel_col {g : Grd} (hg : g.ok = true) (f : Cel → Int) {c : Int} (hc : 0 ≤ c ∧ c ≤ g.w - 1) : selS (fun i : Nat => ((i : Int) % g.w == c)) f g.cs g.cs.length = lineS g 0 c f := by
  rw [sel_grid hg (fun x _ => x == c) f]
  obtain ⟨d, rfl⟩ : ∃ d : Nat, c = d := ⟨c.toNat, by omega⟩
  simp only [lineS, if_true]
  refine congrArg sumI (List.map_congr_left fun y _ => ?_)
  rw [sum_pick (fun x => f (atP g.w g.cs (x : Int) (y : Int))) d, if_pos (by omega)]
theorem sel_row {g : Grd} (hg : g.ok = true) (f : Cel → Int) {c : Int} (hc : 0 ≤ c ∧ c ≤ g.h - 1) : selS (fun i : Nat => ((i : Int) / g.w == c)) f g.cs g.cs.length = lineS g 1 c f := by
  rw [sel_grid hg (fun _ y => y == c) f]
  obtain ⟨d, rfl⟩ : ∃ d : Nat, c = d := ⟨c.toNat, by omega⟩
  simp only [lineS, Int.one_ne_zero, if_false]
  have h := sum_pick (fun y => sumI ((List.range g.w.toNat).map fun x : Nat => f (atP g.w g.cs (x : Int) (y : Int)))) d g.h.toNat
  rw [if_pos (by omega)] at h
  rw [← h]
  refine congrArg sumI (List.map_congr_left fun y _ => ?_)
  by_cases hy : ((y : Int) == (d : Int)) = true
  · simp only [hy, if_true]
  · simp only [hy, if_false]; exact sum_zero _
/-- Before the line. -/
theorem before_iff {n k a : Int} (hk : 0 ≤ k ∧ k ≤ n - 1) (ha : 0 ≤ a ∧ a ≤ n - 1) : ((k + 1) % n == a) = (k == (a + -1) % n) := by
  rw [Bool.eq_iff_iff, beq_iff_eq, beq_iff_eq]
  by_cases h1 : k = n - 1
  · rw [h1, show n - 1 + 1 = n by omega, Int.emod_self]
    by_cases h2 : a = 0
    · subst h2
      have : (0 + -1) % n = n - 1 := by rw [show (0 : Int) + -1 = (n - 1) + n * (-1) by omega, Int.add_mul_emod_self_left]; exact Int.emod_eq_of_lt (by omega) (by omega)
      omega
    · have : (a + -1) % n = a + -1 := Int.emod_eq_of_lt (by omega) (by omega)
      omega
  · rw [Int.emod_eq_of_lt (show 0 ≤ k + 1 by omega) (by omega)]
    by_cases h2 : a = 0
    · subst h2
      have : (0 + -1) % n = n - 1 := by rw [show (0 : Int) + -1 = (n - 1) + n * (-1) by omega, Int.add_mul_emod_self_left]; exact Int.emod_eq_of_lt (by omega) (by omega)
      omega
    · have : (a + -1) % n = a + -1 := Int.emod_eq_of_lt (by omega) (by omega)
      omega
theorem selS_congr {P Q : Nat → Bool} {f : Cel → Int} {cs : List Cel} {n : Nat} (h : ∀ i, i < n → P i = Q i) : selS P f cs n = selS Q f cs n := by
  unfold selS
  refine congrArg sumI (List.map_congr_left fun i hi => ?_)
  rw [h i (List.mem_range.1 hi)]
theorem col_in {g : Grd} (hg : g.ok = true) {i : Nat} (hi : i < g.cs.length) : (0 ≤ (i : Int) % g.w ∧ (i : Int) % g.w ≤ g.w - 1) ∧ 0 ≤ (i : Int) / g.w ∧ (i : Int) / g.w ≤ g.h - 1 := by
  have h := next_bd hg (k := (i : Int)) (by omega) (by omega)
  omega
/-- What the reference counts. -/
def cfP (g : Grd) (axis at_ : Int) (i : Nat) : Bool := if axis = 0 then (((i : Int) % g.w + 1) % g.w == at_) else (((i : Int) / g.w + 1) % g.h == at_)
def cbP (g : Grd) (axis at_ : Int) (i : Nat) : Bool := if axis = 0 then ((i : Int) % g.w == at_) else ((i : Int) / g.w == at_)
theorem cross_sel0 {g : Grd} (hg : g.ok = true) {a : Int} (ha : 0 ≤ a ∧ a ≤ g.w - 1) : crossF g 0 a = selS (cfP g 0 a) (·.e) g.cs g.cs.length ∧ crossB g 0 a = selS (cbP g 0 a) (·.w) g.cs g.cs.length := by
  have hc := crossE_ok hg (axis := 0) (i := a) (.inl rfl) (by simp only [sideN, if_true]; exact ha)
  have hb := gok_bds hg
  have hm := mod_line (n := g.w) (by omega) ha
  unfold crossF crossB
  rw [if_pos hc, if_pos hc]
  simp only [sideN, if_true]
  rw [lineC_eq, lineC_eq]
  simp only
  constructor
  · rw [← sel_col hg (·.e) (c := (a + -1) % g.w) ⟨hm.1, hm.2.1⟩]
    refine (selS_congr fun i hi => ?_).symm
    simp only [cfP, if_true]
    exact before_iff (col_in hg hi).1 ha
  · rw [← sel_col hg (·.w) ha]; rfl
theorem cross_sel1 {g : Grd} (hg : g.ok = true) {a : Int} (ha : 0 ≤ a ∧ a ≤ g.h - 1) : crossF g 1 a = selS (cfP g 1 a) (·.n) g.cs g.cs.length ∧ crossB g 1 a = selS (cbP g 1 a) (·.s) g.cs g.cs.length := by
  have hc := crossE_ok hg (axis := 1) (i := a) (.inr rfl) (by simp only [sideN, Int.one_ne_zero, if_false]; exact ha)
  have hb := gok_bds hg
  have hm := mod_line (n := g.h) (by omega) ha
  unfold crossF crossB
  rw [if_pos hc, if_pos hc]
  simp only [sideN, Int.one_ne_zero, if_false]
  rw [lineC_eq, lineC_eq]
  simp only
  constructor
  · rw [← sel_row hg (·.n) (c := (a + -1) % g.h) ⟨hm.1, hm.2.1⟩]
    refine (selS_congr fun i hi => ?_).symm
    simp only [cfP, Int.one_ne_zero, if_false]
    exact before_iff (col_in hg hi).2 ha
  · rw [← sel_row hg (·.s) ha]; rfl
/-! ### Rows -/
def rowG (g : Grd) (j i : Nat) : Int := (crnC g g.w 1 i j).e - (crnC g g.w 1 i j).w
def rowsL (g : Grd) : List Int := if g.ok then gridL (rowG g) (crnN g.w g.w) (crnN g.h 1) else []
def rowT (g : Grd) (j : Nat) : Int := eastL (blk g.w g.cs ⟨0, (j : Int)⟩ ⟨g.w - 1, (j : Int)⟩)
theorem rows_end {g : Grd} (hg : g.ok = true) : gridL (rowG g) (crnN g.w g.w) (crnN g.h 1) = (List.range g.h.toNat).map (rowT g) := by
  have hb := gok_bds hg
  rw [show crnN g.w g.w = 1 by unfold crnN; omega, show crnN g.h 1 = g.h.toNat by unfold crnN; omega, gridL_one]
  refine List.map_congr_left fun j _ => ?_
  unfold rowG rowT crnC
  rw [(sumC_m _).2.1]
  simp only [Int.natCast_zero, Int.zero_add, show (j : Int) + 1 - 1 = j by omega]
theorem rowT_app (g : Grd) (j : Nat) {x : Int} (hx : x = rowT g j) : Cts.ix ((List.range j).map (rowT g) ++ [x]) = Cts.ix ((List.range (j + 1)).map (rowT g)) := by
  subst hx; rw [List.range_succ, List.map_append]; rfl
theorem row_ok {g : Grd} (hg : g.ok = true) {j : Nat} (hj : (j : Int) < g.h) : blkOk g ⟨0, (j : Int)⟩ ⟨g.w - 1, (j : Int)⟩ := by
  have hb := gok_bds hg
  unfold blkOk onB; simp only; omega
/-! ### Parities -/
def parP (w : Int) (p : Int) (i : Nat) : Bool := (((i : Int) % w + (i : Int) / w) % 2 == p)
def parV (g : Grd) (p : Int) : Int := if g.ok then selS (parP g.w p) (·.m) g.cs g.cs.length else 0
theorem par_t {w p : Int} {i : Nat} (h : ((i : Int) % w + (i : Int) / w) % 2 = p) : parP w p i = true := by unfold parP; rw [h]; simp
theorem par_f {w p : Int} {i : Nat} (h : ((i : Int) % w + (i : Int) / w) % 2 ≠ p) : parP w p i = false := by unfold parP; rw [beq_eq_false_iff_ne]; exact h
theorem par_ways (g : Grd) : (g.ok = false ∧ g.err = 1 ∧ parV g 0 = 0 ∧ parV g 1 = 0 ∧ True) ∨ (g.ok = true ∧ g.err = 0 ∧ parV g 0 = selS (parP g.w 0) (·.m) g.cs g.cs.length ∧ parV g 1 = selS (parP g.w 1) (·.m) g.cs g.cs.length ∧ (∀ p k, 0 ≤ selS (parP g.w p) (·.m) g.cs k ∧ selS (parP g.w p) (·.m) g.cs k ≤ 4000000000 * k)) := by
  unfold parV Grd.err
  cases hg : g.ok
  · exact .inl ⟨rfl, rfl, rfl, rfl, trivial⟩
  · refine .inr ⟨rfl, rfl, rfl, rfl, fun p k => selS_bd (fun i => ?_) k⟩
    have h := okL_bd9 (gok_okL hg) i
    unfold bd9 at h
    unfold Cel.m
    omega
/-- The sums of what crosses. -/
def crT (g : Grd) (axis : Int) (k : Nat) : Int := sumI ((List.range k).map fun i : Nat => crossF g axis (i : Int) - crossB g axis (i : Int))
theorem crT_next (g : Grd) (axis : Int) (k : Nat) : crT g axis (k + 1) = crT g axis k + (crossF g axis (k : Int) - crossB g axis (k : Int)) := sumI_range_succ (fun i : Nat => crossF g axis (i : Int) - crossB g axis (i : Int)) k
theorem crT_bd {g : Grd} (hg : g.ok = true) {axis : Int} (ha : axis = 0 ∨ axis = 1) : ∀ k : Nat, (k : Int) ≤ sideN g axis → -5000000000000 * k ≤ crT g axis k ∧ crT g axis k ≤ 5000000000000 * k
  | 0, _ => by simp [crT, sumI]
  | k + 1, h => by
    have ih := crT_bd hg ha k (by omega)
    have hc := cross_bd hg ha (i := (k : Int)) (by omega)
    rw [crT_next]; omega
theorem sumI_sub (F G : Nat → Int) : ∀ n : Nat, sumI ((List.range n).map fun i => F i - G i) = sumI ((List.range n).map F) - sumI ((List.range n).map G)
  | 0 => rfl
  | n + 1 => by rw [sumI_range_succ (fun i => F i - G i), sumI_sub F G n, sumI_range_succ F, sumI_range_succ G]; omega
theorem crT_all {g : Grd} (hg : g.ok = true) : crT g 0 g.w.toNat = eastL g.cs ∧ crT g 1 g.h.toNat = northL g.cs := by
  have hb := gok_bds hg
  have hs := sums_eq g.cs
  constructor
  · have hE : sumI ((List.range g.w.toNat).map fun i : Nat => crossF g 0 (i : Int)) = sumP (·.e) g.cs := by
      rw [← lines_sum hg (axis := 0) (.inl rfl) (·.e)]
      simp only [sideN, if_true]
      have hr := ring_sum (fun x => lineS g 0 x (·.e)) (n := g.w.toNat) (by omega) (-1)
      rw [← hr]
      refine congrArg sumI (List.map_congr_left fun i hi => ?_)
      have hi' := List.mem_range.1 hi
      have hc := crossE_ok hg (axis := 0) (i := (i : Int)) (.inl rfl) (by simp only [sideN, if_true]; omega)
      unfold crossF
      rw [if_pos hc]
      simp only [sideN, if_true, lineC_eq, Int.toNat_of_nonneg (show 0 ≤ g.w by omega)]
    have hW : sumI ((List.range g.w.toNat).map fun i : Nat => crossB g 0 (i : Int)) = sumP (·.w) g.cs := by
      rw [← lines_sum hg (axis := 0) (.inl rfl) (·.w)]
      simp only [sideN, if_true]
      refine congrArg sumI (List.map_congr_left fun i hi => ?_)
      have hi' := List.mem_range.1 hi
      have hc := crossE_ok hg (axis := 0) (i := (i : Int)) (.inl rfl) (by simp only [sideN, if_true]; omega)
      unfold crossB
      rw [if_pos hc]
      simp only [if_true, lineC_eq]
    unfold crT
    rw [sumI_sub, hE, hW]; omega
  · have hE : sumI ((List.range g.h.toNat).map fun i : Nat => crossF g 1 (i : Int)) = sumP (·.n) g.cs := by
      rw [← lines_sum hg (axis := 1) (.inr rfl) (·.n)]
      simp only [sideN, Int.one_ne_zero, if_false]
      have hr := ring_sum (fun x => lineS g 1 x (·.n)) (n := g.h.toNat) (by omega) (-1)
      rw [← hr]
      refine congrArg sumI (List.map_congr_left fun i hi => ?_)
      have hi' := List.mem_range.1 hi
      have hc := crossE_ok hg (axis := 1) (i := (i : Int)) (.inr rfl) (by simp only [sideN, Int.one_ne_zero, if_false]; omega)
      unfold crossF
      rw [if_pos hc]
      simp only [sideN, Int.one_ne_zero, if_false, lineC_eq, Int.toNat_of_nonneg (show 0 ≤ g.h by omega)]
    have hW : sumI ((List.range g.h.toNat).map fun i : Nat => crossB g 1 (i : Int)) = sumP (·.s) g.cs := by
      rw [← lines_sum hg (axis := 1) (.inr rfl) (·.s)]
      simp only [sideN, Int.one_ne_zero, if_false]
      refine congrArg sumI (List.map_congr_left fun i hi => ?_)
      have hi' := List.mem_range.1 hi
      have hc := crossE_ok hg (axis := 1) (i := (i : Int)) (.inr rfl) (by simp only [sideN, Int.one_ne_zero, if_false]; omega)
      unfold crossB
      rw [if_pos hc]
      simp only [Int.one_ne_zero, if_false, lineC_eq]
    unfold crT
    rw [sumI_sub, hE, hW]; omega
/-! A step changes parities. -/
def parQ (p x y : Int) : Bool := ((x + y) % 2 == p)
def par2 (g : Grd) (cs : List Cel) (p : Int) (f : Cel → Int) : Int := sumI ((List.range g.h.toNat).map fun y : Nat => sumI ((List.range g.w.toNat).map fun x : Nat => if parQ p (x : Int) (y : Int) then f (atP g.w cs (x : Int) (y : Int)) else 0))
theorem par_grid {g : Grd} (hg : g.ok = true) (p : Int) (f : Cel → Int) : selS (parP g.w p) f g.cs g.cs.length = par2 g g.cs p f := sel_grid hg (fun x y => parQ p x y) f
theorem sum_sum (F G : Nat → Int) : ∀ n : Nat, sumI ((List.range n).map fun i => F i + G i) = sumI ((List.range n).map F) + sumI ((List.range n).map G)
  | 0 => rfl
  | n + 1 => by rw [sumI_range_succ (fun i => F i + G i), sum_sum F G n, sumI_range_succ F, sumI_range_succ G]; omega
/-- Places moved along a row: the parity changes. -/
theorem ring_par {n : Int} (hn : 1 ≤ n) (he : n % 2 = 0) {x y b : Int} (hb : b = 1 ∨ b = -1) (hx : 0 ≤ x ∧ x ≤ n - 1) {p : Int} (hp : p = 0 ∨ p = 1) : parQ p x y = parQ (1 - p) ((x + b) % n) y ∧ parQ p y x = parQ (1 - p) y ((x + b) % n) := by
  have hm : ((x + b) % n) % 2 = (x + b) % 2 := Int.emod_emod_of_dvd _ (Int.dvd_of_emod_eq_zero he)
  unfold parQ
  constructor <;> (rw [Bool.eq_iff_iff, beq_iff_eq, beq_iff_eq]; omega)
theorem par_flow {g : Grd} (hg : g.ok = true) (hw : g.w % 2 = 0) (hh : g.h % 2 = 0) {p : Int} (hp : p = 0 ∨ p = 1) : par2 g (flow g.w g.h 1 g.cs) p (·.m) = par2 g g.cs (1 - p) (·.m) := by
  have hb := gok_bds hg
  have nw : ((g.w.toNat : Nat) : Int) = g.w := Int.toNat_of_nonneg (by omega)
  have nh : ((g.h.toNat : Nat) : Int) = g.h := Int.toNat_of_nonneg (by omega)
  -- along rows
  have hx : ∀ (f : Cel → Int) (b : Int), (b = 1 ∨ b = -1) → sumI ((List.range g.h.toNat).map fun y : Nat => sumI ((List.range g.w.toNat).map fun x : Nat => if parQ p (x : Int) (y : Int) then f (atP g.w g.cs (((x : Int) + b) % g.w) (y : Int)) else 0)) = par2 g g.cs (1 - p) f := fun f b hb' => by
    refine congrArg sumI (List.map_congr_left fun y hy => ?_)
    have hr := ring_sum (fun x => if parQ (1 - p) x (y : Int) then f (atP g.w g.cs x (y : Int)) else 0) (n := g.w.toNat) (by omega) b
    rw [nw] at hr
    rw [← hr]
    refine congrArg sumI (List.map_congr_left fun x hx => ?_)
    have hx' := List.mem_range.1 hx
    rw [(ring_par (n := g.w) (by omega) hw (x := (x : Int)) (y := (y : Int)) hb' (by omega) hp).1]
  have hy : ∀ (f : Cel → Int) (b : Int), (b = 1 ∨ b = -1) → sumI ((List.range g.h.toNat).map fun y : Nat => sumI ((List.range g.w.toNat).map fun x : Nat => if parQ p (x : Int) (y : Int) then f (atP g.w g.cs (x : Int) (((y : Int) + b) % g.h)) else 0)) = par2 g g.cs (1 - p) f := fun f b hb' => by
    have hr := ring_sum (fun y => sumI ((List.range g.w.toNat).map fun x : Nat => if parQ (1 - p) (x : Int) y then f (atP g.w g.cs (x : Int) y) else 0)) (n := g.h.toNat) (by omega) b
    rw [nh] at hr
    unfold par2
    rw [← hr]
    refine congrArg sumI (List.map_congr_left fun y hy => congrArg sumI (List.map_congr_left fun x hx => ?_))
    have hy' := List.mem_range.1 hy
    rw [(ring_par (n := g.h) (by omega) hh (x := (y : Int)) (y := (x : Int)) hb' (by omega) hp).2]
  have split : ∀ (F : Nat → Nat → Cel), sumI ((List.range g.h.toNat).map fun y : Nat => sumI ((List.range g.w.toNat).map fun x : Nat => if parQ p (x : Int) (y : Int) then (F y x).m else 0)) =
      sumI ((List.range g.h.toNat).map fun y : Nat => sumI ((List.range g.w.toNat).map fun x : Nat => if parQ p (x : Int) (y : Int) then (F y x).e else 0)) + sumI ((List.range g.h.toNat).map fun y : Nat => sumI ((List.range g.w.toNat).map fun x : Nat => if parQ p (x : Int) (y : Int) then (F y x).n else 0)) +
      (sumI ((List.range g.h.toNat).map fun y : Nat => sumI ((List.range g.w.toNat).map fun x : Nat => if parQ p (x : Int) (y : Int) then (F y x).w else 0)) + sumI ((List.range g.h.toNat).map fun y : Nat => sumI ((List.range g.w.toNat).map fun x : Nat => if parQ p (x : Int) (y : Int) then (F y x).s else 0))) := fun F => by
    rw [← sum_sum, ← sum_sum, ← sum_sum]
    refine congrArg sumI (List.map_congr_left fun y _ => ?_)
    rw [← sum_sum, ← sum_sum, ← sum_sum]
    refine congrArg sumI (List.map_congr_left fun x _ => ?_)
    unfold Cel.m
    cases parQ p (x : Int) (y : Int) <;> simp <;> omega
  have e1 : par2 g (flow g.w g.h 1 g.cs) p (·.m) = sumI ((List.range g.h.toNat).map fun y : Nat => sumI ((List.range g.w.toNat).map fun x : Nat => if parQ p (x : Int) (y : Int) then (⟨(atP g.w g.cs (((x : Int) + -1) % g.w) (y : Int)).e, (atP g.w g.cs (x : Int) (((y : Int) + -1) % g.h)).n, (atP g.w g.cs (((x : Int) + 1) % g.w) (y : Int)).w, (atP g.w g.cs (x : Int) (((y : Int) + 1) % g.h)).s⟩ : Cel).m else 0)) := by
    refine congrArg sumI (List.map_congr_left fun y hy => congrArg sumI (List.map_congr_left fun x hx => ?_))
    have hy' := List.mem_range.1 hy
    have hx' := List.mem_range.1 hx
    rw [flowP_at hg (by omega) (by omega)]
  rw [e1, split (fun y x => ⟨(atP g.w g.cs (((x : Int) + -1) % g.w) (y : Int)).e, (atP g.w g.cs (x : Int) (((y : Int) + -1) % g.h)).n, (atP g.w g.cs (((x : Int) + 1) % g.w) (y : Int)).w, (atP g.w g.cs (x : Int) (((y : Int) + 1) % g.h)).s⟩)]
  simp only
  rw [hx (·.e) (-1) (.inr rfl), hy (·.n) (-1) (.inr rfl), hx (·.w) 1 (.inl rfl), hy (·.s) 1 (.inl rfl)]
  unfold par2
  rw [← sum_sum, ← sum_sum, ← sum_sum]
  refine congrArg sumI (List.map_congr_left fun y _ => ?_)
  rw [← sum_sum, ← sum_sum, ← sum_sum]
  refine congrArg sumI (List.map_congr_left fun x _ => ?_)
  unfold Cel.m
  cases parQ (1 - p) (x : Int) (y : Int) <;> simp <;> omega
theorem par_aft (g : Grd) (r : Rul) (p : Int) : par2 g (aft r g.cs) p (·.m) = par2 g g.cs p (·.m) := by
  refine congrArg sumI (List.map_congr_left fun y hy => congrArg sumI (List.map_congr_left fun x hx => ?_))
  have e : (atP g.w (aft r g.cs) (x : Int) (y : Int)).m = (atP g.w g.cs (x : Int) (y : Int)).m := by
    unfold atP aft
    by_cases h : ((x : Int) + g.w * (y : Int)).toNat < g.cs.length
    · have : ((g.cs.map fun c => c.after r).getD ((x : Int) + g.w * (y : Int)).toNat default) = (g.cs.getD ((x : Int) + g.w * (y : Int)).toNat default).after r := by
        simp [List.getD_eq_getElem?_getD, List.getElem?_map, List.getElem?_eq_getElem h]
      rw [this]; exact (Cel.after_m r).1
    · rw [show (g.cs.map fun c => c.after r).getD ((x : Int) + g.w * (y : Int)).toNat default = default by simp [List.getD, List.getElem?_eq_none (show g.cs.length ≤ ((x : Int) + g.w * (y : Int)).toNat by omega)], show g.cs.getD ((x : Int) + g.w * (y : Int)).toNat default = default by simp [List.getD, List.getElem?_eq_none (show g.cs.length ≤ ((x : Int) + g.w * (y : Int)).toNat by omega)]]
  show (if parQ p (x : Int) (y : Int) = true then (atP g.w (aft r g.cs) (x : Int) (y : Int)).m else 0) = _
  rw [e]
theorem par_step {g : Grd} {l : List Rul} {t : Int} (h : runE g l t 1 = 0) (hw : g.w % 2 = 0) (hh : g.h % 2 = 0) : (runG g l t 1).err = 0 ∧ parV (runG g l t 1) 0 = parV g 1 ∧ parV (runG g l t 1) 1 = parV g 0 := by
  obtain ⟨h1, h2, h3⟩ := runE_zero h
  have ho := runG_ok h
  have hr := (rho_ok h2 h3.1.1 0).1
  have ha := gok_aft hr h1
  have e : runG g l t 1 = ⟨g.w, g.h, flow g.w g.h 1 (aft (rho l t 0) g.cs)⟩ := by rw [runG_eq h]; rfl
  have q : ∀ p : Int, p = 0 ∨ p = 1 → parV (runG g l t 1) p = parV g (1 - p) := fun p hp => by
    unfold parV
    rw [if_pos ho, if_pos h1, par_grid ho, par_grid h1, e]
    have f := par_flow ha hw hh hp
    exact f.trans (par_aft g (rho l t 0) (1 - p))
  exact ⟨(Grd.tell_t ho).1, q 0 (.inl rfl), q 1 (.inr rfl)⟩
/-- The ways of the law of crossings. -/
theorem crsW (g : Grd) (l : List Rul) (t : Int) : (decide (big8 g) = true ∧ True ∧ True ∧ True ∧ True) ∨ (decide (big8 g) = false ∧ g.err = 1 ∧ g.cs.length ≤ 1100 ∧ True ∧ True) ∨
    (decide (big8 g) = false ∧ g.err = 0 ∧ g.cs.length ≤ 1100 ∧ (g.w.tmod 2 = g.w % 2) ∧ (g.h.tmod 2 = g.h % 2) ∧ g.ok = true ∧ g.east = eastL g.cs ∧ g.north = northL g.cs ∧ (∀ k : Nat, (k : Int) < g.w → crossE g 0 (k : Int) = 0) ∧ (∀ k : Nat, (k : Int) < g.h → crossE g 1 (k : Int) = 0) ∧
      (∀ k : Nat, (k : Int) ≤ g.w → -5000000000000 * k ≤ crT g 0 k ∧ crT g 0 k ≤ 5000000000000 * k) ∧ (∀ k : Nat, (k : Int) ≤ g.h → -5000000000000 * k ≤ crT g 1 k ∧ crT g 1 k ≤ 5000000000000 * k) ∧ (∀ k : Nat, (k : Int) = g.w → crT g 0 k = eastL g.cs) ∧ (∀ k : Nat, (k : Int) = g.h → crT g 1 k = northL g.cs) ∧
      (-1000000000 ≤ eastL g.cs ∧ eastL g.cs ≤ 1000000000 ∧ -1000000000 ≤ northL g.cs ∧ northL g.cs ≤ 1000000000) ∧ (runE g l t 1 = 0 → g.w % 2 = 0 → g.h % 2 = 0 → (runG g l t 1).err = 0 ∧ parV (runG g l t 1) 0 = parV g 1 ∧ parV (runG g l t 1) 1 = parV g 0)) := by
  by_cases hb : big8 g
  · exact .inl ⟨decide_eq_true hb, trivial, trivial, trivial, trivial⟩
  · have hl : g.cs.length ≤ 1100 := by unfold big8 at hb; omega
    cases hg : g.ok
    · exact .inr (.inl ⟨decide_eq_false hb, (Grd.tell_f hg).1, hl, trivial, trivial⟩)
    · have ht := Grd.tell_t hg
      have hgb := gok_bds hg
      have hm := mom_bd (okL_iff.1 (gok_okL hg))
      have ha := crT_all hg
      refine .inr (.inr ⟨decide_eq_false hb, ht.1, hl, Int.tmod_eq_emod_of_nonneg (by omega), Int.tmod_eq_emod_of_nonneg (by omega), rfl, ht.2.2.1, ht.2.2.2, fun k hk => crossE_ok hg (.inl rfl) (by simp only [sideN, if_true]; omega), fun k hk => crossE_ok hg (.inr rfl) (by simp only [sideN, Int.one_ne_zero, if_false]; omega), fun k hk => crT_bd hg (.inl rfl) k (by simp only [sideN, if_true]; omega), fun k hk => crT_bd hg (.inr rfl) k (by simp only [sideN, Int.one_ne_zero, if_false]; omega), fun k hk => ?_, fun k hk => ?_, by omega, fun h hw hh => par_step h hw hh⟩)
      · rw [show k = g.w.toNat by omega]; exact ha.1
      · rw [show k = g.h.toNat by omega]; exact ha.2
/-! The reference's crossings, told for the walk. -/
def crsA (axis : Int) (c : Cel) : Int := if axis = 0 then c.e else c.n
def crsZ (axis : Int) (c : Cel) : Int := if axis = 0 then c.w else c.s
theorem crs_bd {g : Grd} (hg : g.ok = true) (axis : Int) (P : Nat → Bool) (k : Nat) : (0 ≤ selS P (crsA axis) g.cs k ∧ selS P (crsA axis) g.cs k ≤ 4000000000 * k) ∧ 0 ≤ selS P (crsZ axis) g.cs k ∧ selS P (crsZ axis) g.cs k ≤ 4000000000 * k := by
  refine ⟨selS_bd (fun i => ?_) k, selS_bd (fun i => ?_) k⟩ <;> (have h := okL_bd9 (gok_okL hg) i; unfold bd9 at h; first | unfold crsA | unfold crsZ) <;> split <;> omega
theorem k_div {g : Grd} (hg : g.ok = true) {k : Nat} (hk : k < g.cs.length) : (k : Int).tmod g.w = (k : Int) % g.w ∧ (k : Int).tdiv g.w = (k : Int) / g.w ∧ ((k : Int) % g.w + 1).tmod g.w = ((k : Int) % g.w + 1) % g.w ∧ ((k : Int) / g.w + 1).tmod g.h = ((k : Int) / g.w + 1) % g.h ∧ ((k : Int) % g.w + (k : Int) / g.w).tmod 2 = ((k : Int) % g.w + (k : Int) / g.w) % 2 ∧ (0 ≤ (k : Int) % g.w ∧ (k : Int) % g.w ≤ 63) ∧ 0 ≤ (k : Int) / g.w ∧ (k : Int) / g.w ≤ 63 := by
  have hc := col_in hg hk
  have hb := gok_bds hg
  exact ⟨Int.tmod_eq_emod_of_nonneg (by omega), Int.tdiv_eq_ediv_of_nonneg (by omega), Int.tmod_eq_emod_of_nonneg (by omega), Int.tmod_eq_emod_of_nonneg (by omega), Int.tmod_eq_emod_of_nonneg (by omega), by omega, by omega⟩
theorem cf0 {g : Grd} (hg : g.ok = true) {a : Int} {k : Nat} (hk : k < g.cs.length) : cfP g 0 a k = decide (((k : Int).tmod g.w + 1).tmod g.w = a) := by
  have h := k_div hg hk
  rw [h.1, h.2.2.1]; simp only [cfP, if_true]; rw [Bool.eq_iff_iff]; simp
theorem cb0 {g : Grd} (hg : g.ok = true) {a : Int} {k : Nat} (hk : k < g.cs.length) : cbP g 0 a k = decide ((k : Int).tmod g.w = a) := by
  have h := k_div hg hk
  rw [h.1]; simp only [cbP, if_true]; rw [Bool.eq_iff_iff]; simp
theorem cf1 {g : Grd} (hg : g.ok = true) {a : Int} {k : Nat} (hk : k < g.cs.length) : cfP g 1 a k = decide (((k : Int).tdiv g.w + 1).tmod g.h = a) := by
  have h := k_div hg hk
  rw [h.2.1, h.2.2.2.1]; simp only [cfP, Int.one_ne_zero, if_false]; rw [Bool.eq_iff_iff]; simp
theorem cb1 {g : Grd} (hg : g.ok = true) {a : Int} {k : Nat} (hk : k < g.cs.length) : cbP g 1 a k = decide ((k : Int).tdiv g.w = a) := by
  have h := k_div hg hk
  rw [h.2.1]; simp only [cbP, Int.one_ne_zero, if_false]; rw [Bool.eq_iff_iff]; simp
theorem pr0 {g : Grd} (hg : g.ok = true) {k : Nat} (hk : k < g.cs.length) : parP g.w 0 k = decide (((k : Int).tmod g.w + (k : Int).tdiv g.w).tmod 2 = 0) ∧ parP g.w 1 k = ! decide (((k : Int).tmod g.w + (k : Int).tdiv g.w).tmod 2 = 0) := by
  have h := k_div hg hk
  rw [h.1, h.2.1, h.2.2.2.2.1]
  unfold parP
  constructor
  · rw [Bool.eq_iff_iff]; simp
  · rw [Bool.eq_iff_iff]; simp; omega
theorem pe0 {g : Grd} (hg : g.ok = true) {k : Nat} (hk : k < g.cs.length) : parP g.w 0 k = decide (((k : Int) % g.w + (k : Int) / g.w).tmod 2 = 0) ∧ parP g.w 1 k = decide (((k : Int) % g.w + (k : Int) / g.w).tmod 2 = 1) := by
  have h := k_div hg hk
  rw [h.2.2.2.2.1]
  unfold parP
  constructor <;> (rw [Bool.eq_iff_iff]; simp)
theorem crx_ways (g : Grd) (axis a : Int) : (g.ok = false ∧ profE g axis = 1 ∧ crossE g axis a = 1 ∧ crossF g axis a = 0 ∧ crossB g axis a = 0 ∧ True ∧ True) ∨ (g.ok = true ∧ profE g axis = 7 ∧ crossE g axis a = 7 ∧ crossF g axis a = 0 ∧ crossB g axis a = 0 ∧ True ∧ True) ∨
    (g.ok = true ∧ profE g axis = 0 ∧ crossE g axis a = 7 ∧ crossF g axis a = 0 ∧ crossB g axis a = 0 ∧ axis = 0 ∧ ¬ (0 ≤ a ∧ a ≤ g.w - 1)) ∨ (g.ok = true ∧ profE g axis = 0 ∧ crossE g axis a = 7 ∧ crossF g axis a = 0 ∧ crossB g axis a = 0 ∧ axis = 1 ∧ ¬ (0 ≤ a ∧ a ≤ g.h - 1)) ∨
    (g.ok = true ∧ profE g axis = 0 ∧ crossE g axis a = 0 ∧ crossF g axis a = selS (cfP g axis a) (crsA axis) g.cs g.cs.length ∧ crossB g axis a = selS (cbP g axis a) (crsZ axis) g.cs g.cs.length ∧ axis = 0 ∧ 0 ≤ a ∧ a ≤ g.w - 1) ∨
    (g.ok = true ∧ profE g axis = 0 ∧ crossE g axis a = 0 ∧ crossF g axis a = selS (cfP g axis a) (crsA axis) g.cs g.cs.length ∧ crossB g axis a = selS (cbP g axis a) (crsZ axis) g.cs g.cs.length ∧ axis = 1 ∧ 0 ≤ a ∧ a ≤ g.h - 1) := by
  rcases cross_ways g axis a with ⟨hv, he, hf, hb, _⟩ | ⟨hv, he, hf, hb, hc⟩ | ⟨hv, he, hf, hb, hx, ha⟩ | ⟨hv, he, hf, hb, hx, ha⟩
  · exact .inl ⟨hv, by simp [profE, hv], he, hf, hb, trivial, trivial⟩
  · by_cases h0 : axis = 0
    · exact .inr (.inr (.inl ⟨hv, by simp [profE, hv, h0], he, hf, hb, h0, fun q => hc (.inl ⟨h0, q⟩)⟩))
    · by_cases h1 : axis = 1
      · exact .inr (.inr (.inr (.inl ⟨hv, by simp [profE, hv, h1], he, hf, hb, h1, fun q => hc (.inr ⟨h1, q⟩)⟩)))
      · exact .inr (.inl ⟨hv, by unfold profE; rw [hv, if_pos rfl, if_neg (by omega)], he, hf, hb, trivial, trivial⟩)
  · subst hx
    have hz := cross_sel0 hv ha
    exact .inr (.inr (.inr (.inr (.inl ⟨hv, by simp [profE, hv], he, hz.1, hz.2, rfl, ha⟩))))
  · subst hx
    have hz := cross_sel1 hv ha
    exact .inr (.inr (.inr (.inr (.inr ⟨hv, by simp [profE, hv], he, hz.1, hz.2, rfl, ha⟩))))
theorem rows_ways (g : Grd) : (g.ok = false ∧ g.err = 1 ∧ rowsL g = []) ∨ (g.ok = true ∧ g.err = 0 ∧ rowsL g = gridL (rowG g) (crnN g.w g.w) (crnN g.h 1)) := by
  unfold rowsL Grd.err
  cases g.ok
  · exact .inl ⟨rfl, rfl, rfl⟩
  · exact .inr ⟨rfl, rfl, rfl⟩
end Go.Sy

/- Weighted means: the mean of a table's densities is the density of the grid. -/
set_option linter.unusedSimpArgs false
set_option linter.unusedVariables false
set_option linter.unusedSectionVars false
namespace Go.Sy
/-! ### Weighted means -/
def wOk (x : Rat2) (n : Int) : Prop := (1 ≤ n ∧ n ≤ 1024) ∧ (-1000000000 ≤ x.n ∧ x.n ≤ 1000000000) ∧ 1 ≤ x.d ∧ n.tmod x.d = 0
structure wAll (l : List Rat2) (n : List Int) (k : Nat) : Prop where
  all : ∀ i, i < k → wOk (l.getD i default) (n.getD i 0)
def wSum (l : List Rat2) (n : List Int) : Nat → Int
  | 0 => 0
  | k + 1 => wSum l n k + (l.getD k default).n * (n.getD k 0).tdiv (l.getD k default).d
def nSum (n : List Int) : Nat → Int
  | 0 => 0
  | k + 1 => nSum n k + n.getD k 0
open Classical in
noncomputable def wgtE (l : List Rat2) (n : List Int) : Int := if l.length ≠ n.length then 9 else if ¬ (1 ≤ l.length ∧ l.length ≤ 100) then 7 else if wAll l n l.length then 0 else 7
open Classical in
noncomputable def wgtR (l : List Rat2) (n : List Int) : Rat2 := if wgtE l n = 0 then ratP (wSum l n l.length) (nSum n l.length) else ⟨0, 0⟩
theorem w_term {x : Rat2} {n : Int} (h : wOk x n) : (0 ≤ n.tdiv x.d ∧ n.tdiv x.d ≤ 1024) ∧ -1024000000000 ≤ x.n * n.tdiv x.d ∧ x.n * n.tdiv x.d ≤ 1024000000000 := by
  obtain ⟨h1, h2, h3, h4⟩ := h
  have e : n.tdiv x.d = n / x.d := Int.tdiv_eq_ediv_of_nonneg (by omega)
  have d0 : 0 ≤ n / x.d := Int.ediv_nonneg (by omega) (by omega)
  have d1 : n / x.d ≤ n := Int.ediv_le_self _ (by omega)
  rw [e]
  have m1 : x.n * (n / x.d) ≤ 1000000000 * (n / x.d) := Int.mul_le_mul_of_nonneg_right (by omega) d0
  have m2 : -1000000000 * (n / x.d) ≤ x.n * (n / x.d) := Int.mul_le_mul_of_nonneg_right (by omega) d0
  omega
theorem wAll_next {l : List Rat2} {n : List Int} {k : Nat} (h : wAll l n k) (hk : wOk (l.getD k default) (n.getD k 0)) : wAll l n (k + 1) := ⟨fun i hi => by
  by_cases e : i = k
  · subst e; exact hk
  · exact h.all i (by omega)⟩
theorem w_bds {l : List Rat2} {n : List Int} : ∀ {k : Nat}, wAll l n k → (-1024000000000 * k ≤ wSum l n k ∧ wSum l n k ≤ 1024000000000 * k) ∧ (k : Int) ≤ nSum n k ∧ nSum n k ≤ 1024 * k
  | 0, _ => by simp [wSum, nSum]
  | k + 1, h => by
    have ih := w_bds (k := k) ⟨fun i hi => h.all i (by omega)⟩
    have ht := w_term (h.all k (by omega))
    have h1 := (h.all k (by omega)).1
    simp only [wSum, nSum]
    omega
theorem wgt_ways (l : List Rat2) (n : List Int) : (l.length ≠ n.length ∧ wgtE l n = 9 ∧ wgtR l n = ⟨0, 0⟩) ∨ (l.length = n.length ∧ ¬ (1 ≤ l.length ∧ l.length ≤ 100) ∧ wgtE l n = 7 ∧ wgtR l n = ⟨0, 0⟩) ∨
    (l.length = n.length ∧ (1 ≤ l.length ∧ l.length ≤ 100) ∧ (wAll l n l.length → wgtE l n = 0 ∧ wgtR l n = ratP (wSum l n l.length) (nSum n l.length)) ∧ (∀ k, k < l.length → ¬ wOk (l.getD k default) (n.getD k 0) → wgtE l n = 7 ∧ wgtR l n = ⟨0, 0⟩)) := by
  by_cases h1 : l.length = n.length
  · by_cases h2 : 1 ≤ l.length ∧ l.length ≤ 100
    · refine .inr (.inr ⟨h1, h2, fun h => ?_, fun k hk hn => ?_⟩)
      · have e : wgtE l n = 0 := by unfold wgtE; rw [if_neg (by simpa using h1), if_neg (by simpa using h2), if_pos h]
        exact ⟨e, by unfold wgtR; rw [if_pos e]⟩
      · have e : wgtE l n = 7 := by unfold wgtE; rw [if_neg (by simpa using h1), if_neg (by simpa using h2), if_neg (fun q => hn (q.all k hk))]
        exact ⟨e, by unfold wgtR; rw [if_neg (by omega)]⟩
    · have e : wgtE l n = 7 := by unfold wgtE; rw [if_neg (by simpa using h1), if_pos h2]
      exact .inr (.inl ⟨h1, h2, e, by unfold wgtR; rw [if_neg (by omega)]⟩)
  · have e : wgtE l n = 9 := by unfold wgtE; rw [if_pos h1]
    exact .inl ⟨h1, e, by unfold wgtR; rw [if_neg (by omega)]⟩
/-! ### The table's densities -/
theorem ratP_mul {n d : Int} (hd : 0 < d) : 0 < (ratP n d).d ∧ d.tmod (ratP n d).d = 0 ∧ (ratP n d).n * d.tdiv (ratP n d).d = n ∧ (ratP n d).n.natAbs ≤ n.natAbs := by
  have hg := gcd_pos (n := n) hd
  have h1 : ((Nat.gcd n.natAbs d.toNat : Nat) : Int) ∣ n := by
    rw [← Int.natAbs_dvd_natAbs, Int.natAbs_natCast]; exact Nat.gcd_dvd_left _ _
  have h2 : ((Nat.gcd n.natAbs d.toNat : Nat) : Int) ∣ d := by
    have : Nat.gcd n.natAbs d.toNat ∣ d.toNat := Nat.gcd_dvd_right _ _
    have := Int.natCast_dvd_natCast.2 this
    rwa [Int.toNat_of_nonneg (by omega)] at this
  obtain ⟨p, hp⟩ := h1
  obtain ⟨q, hq⟩ := h2
  have g0 : (((Nat.gcd n.natAbs d.toNat : Nat) : Int)) ≠ 0 := by omega
  have en : (ratP n d).n = p := by
    show n.tdiv _ = p
    conv => lhs; arg 1; rw [hp]
    exact Int.mul_tdiv_cancel_left _ g0
  have ed : (ratP n d).d = q := by
    show d.tdiv _ = q
    conv => lhs; arg 1; rw [hq]
    exact Int.mul_tdiv_cancel_left _ g0
  have hq0 : 0 < q := by
    rcases (show 0 < q ∨ q ≤ 0 by omega) with h | h
    · exact h
    · have := Int.mul_nonpos_of_nonneg_of_nonpos (show (0 : Int) ≤ ((Nat.gcd n.natAbs d.toNat : Nat) : Int) by omega) h
      omega
  have edq : d.tdiv q = ((Nat.gcd n.natAbs d.toNat : Nat) : Int) := by
    conv => lhs; arg 1; rw [hq]
    exact Int.mul_tdiv_cancel _ (by omega)
  refine ⟨by rw [ed]; exact hq0, ?_, ?_, ?_⟩
  · rw [ed]
    conv => lhs; arg 1; rw [hq]
    exact Int.mul_tmod_left _ _
  · rw [en, ed, edq, Int.mul_comm]; exact hp.symm
  · rw [en]
    have hn : n.natAbs = Nat.gcd n.natAbs d.toNat * p.natAbs := by
      conv => lhs; rw [hp]
      rw [Int.natAbs_mul, Int.natAbs_natCast]
    rw [hn]
    exact Nat.le_mul_of_pos_left _ hg
/-- The block at a place of the table. -/
def tqA (g : Grd) (wide high : Int) (i : Nat) : Pnt := ⟨((i : Int) % (g.w / wide)) * wide, ((i : Int) / (g.w / wide)) * high⟩
def tqB (g : Grd) (wide high : Int) (i : Nat) : Pnt := ⟨(tqA g wide high i).x + wide - 1, (tqA g wide high i).y + high - 1⟩
def tqM (g : Grd) (wide high : Int) (i : Nat) : Int := massL (blk g.w g.cs (tqA g wide high i) (tqB g wide high i))
def tqD (g : Grd) (wide high : Int) (i : Nat) : Rat2 := densR g (tqA g wide high i) (tqB g wide high i)
theorem gridL_at {α : Type} (F : Nat → Nat → α) {n : Nat} (hn : 0 < n) (d : α) : ∀ (m i : Nat), i < n * m → (gridL F n m).getD i d = F (i / n) (i % n)
  | 0, i, h => by omega
  | m + 1, i, h => by
    rw [gridL, List.getD_eq_getElem?_getD, List.getElem?_append, gridL_len]
    rw [Nat.mul_succ] at h
    by_cases hi : i < n * m
    · rw [if_pos hi, ← List.getD_eq_getElem?_getD, gridL_at F hn d m i hi]
    · rw [if_neg hi]
      have e1 : i / n = m := by
        have : i = n * m + (i - n * m) := by omega
        rw [this, Nat.mul_add_div hn, Nat.div_eq_of_lt (by omega)]; rfl
      have e2 : i % n = i - n * m := by
        have := Nat.div_add_mod i n
        rw [e1] at this; omega
      rw [e1, e2]
      simp [List.getElem?_map, List.getElem?_range (show i - n * m < n by omega)]
theorem tab_q {g : Grd} (hg : g.ok = true) {wide high : Int} (hs : (1 ≤ wide ∧ wide ≤ g.w) ∧ 1 ≤ high ∧ high ≤ g.h) (hz : g.w % wide = 0 ∧ g.h % high = 0) (hE : tabE g wide high = 0) {i : Nat} (hi : i < (tabL g wide high).length) :
    1 ≤ g.w / wide ∧ g.w / wide ≤ 64 ∧ blkOk g (tqA g wide high i) (tqB g wide high i) ∧ (tabL g wide high).getD i 0 = tqM g wide high i ∧ (0 ≤ (tqA g wide high i).x ∧ (tqA g wide high i).x ≤ 63) ∧ (0 ≤ (tqA g wide high i).y ∧ (tqA g wide high i).y ≤ 63) ∧ 0 ≤ (i : Int) % (g.w / wide) ∧ 0 ≤ (i : Int) / (g.w / wide) := by
  have hb := gok_bds hg
  have ht := tab_side hg hs
  have hw1 : 1 ≤ g.w / wide := by
    have e : g.w = wide * (g.w / wide) := by have := Int.mul_ediv_add_emod g.w wide; omega
    rcases (show 1 ≤ g.w / wide ∨ g.w / wide ≤ 0 by omega) with h | h
    · exact h
    · have := Int.mul_nonpos_of_nonneg_of_nonpos (show (0 : Int) ≤ wide by omega) h
      omega
  have hq : (((g.w / wide).toNat : Nat) : Int) = g.w / wide := Int.toNat_of_nonneg (by omega)
  unfold tabL at hi ⊢
  rw [if_pos hE] at hi ⊢
  rw [gridL_len] at hi
  have hn : 0 < (g.w / wide).toNat := by omega
  have hI := Nat.mod_lt i hn
  have hJ : i / (g.w / wide).toNat < (g.h / high).toNat := Nat.div_lt_of_lt_mul hi
  have eI : (i : Int) % (g.w / wide) = ((i % (g.w / wide).toNat : Nat) : Int) := by rw [Int.natCast_emod, hq]
  have eJ : (i : Int) / (g.w / wide) = ((i / (g.w / wide).toNat : Nat) : Int) := by rw [Int.natCast_ediv, hq]
  have hok := tab_ok hg hs hz hJ hI
  have hin := tab_in hs hz hJ hI
  refine ⟨hw1, by omega, ?_, ?_, ?_, ?_, by rw [eI]; exact Int.natCast_nonneg _, by rw [eJ]; exact Int.natCast_nonneg _⟩
  · unfold tqB tqA; simp only [eI, eJ]; exact hok
  · rw [gridL_at _ hn 0 _ i hi, tabF_eq]
    unfold tqM tqB tqA; simp only [eI, eJ]
  · unfold tqA; simp only [eI]; omega
  · unfold tqA; simp only [eJ]; omega
theorem blk_mass_le {g : Grd} (hg : g.ok = true) {wide high : Int} (hs : (1 ≤ wide ∧ wide ≤ g.w) ∧ 1 ≤ high ∧ high ≤ g.h) (hz : g.w % wide = 0 ∧ g.h % high = 0) (hE : tabE g wide high = 0) (hsum : sumI (tabL g wide high) = massL g.cs) {i : Nat} (hi : i < (tabL g wide high).length) : 0 ≤ tqM g wide high i ∧ tqM g wide high i ≤ 1000000000 := by
  have hq := fun (k : Nat) (hk : k < (tabL g wide high).length) => tab_q hg hs hz hE hk
  have hb := gok_bds hg
  have hnn : ∀ x ∈ tabL g wide high, 0 ≤ x := fun x hx => by
    obtain ⟨k, hk, rfl⟩ := List.getElem_of_mem hx
    have h := (hq k hk).2.2.2.1
    rw [List.getD_eq_getElem?_getD, List.getElem?_eq_getElem hk] at h
    simp only [Option.getD_some] at h
    rw [h]
    exact (blk_sums hg (hq k hk).2.2.1).1.1
  have h1 := sumI_drop (tabL g wide high) i
  have h2 := sumI_nn (l := (tabL g wide high).take i) fun x hx => hnn x (List.mem_of_mem_take hx)
  have h3 : sumI ((tabL g wide high).drop i) = (tabL g wide high).getD i 0 + sumI ((tabL g wide high).drop (i + 1)) := by
    rw [drop_cons _ 0 hi]; rfl
  have h4 := sumI_nn (l := (tabL g wide high).drop (i + 1)) fun x hx => hnn x (List.mem_of_mem_drop hx)
  have h5 := (hq i hi).2.2.2.1
  have h6 := (blk_sums hg (hq i hi).2.2.1).1.1
  unfold tqM at *
  omega
theorem sumI_gridL (F : Nat → Nat → Int) (n : Nat) : ∀ m, sumI (gridL F n m) = sumI ((List.range m).map fun j => sumI ((List.range n).map fun i => F j i))
  | 0 => rfl
  | m + 1 => by rw [gridL, sumI_app, sumI_gridL F n m, sumI_range_succ (fun j => sumI ((List.range n).map fun i => F j i))]
theorem tab_sum {g : Grd} (hg : g.ok = true) {wide high : Int} (hs : (1 ≤ wide ∧ wide ≤ g.w) ∧ 1 ≤ high ∧ high ≤ g.h) (hz : g.w % wide = 0 ∧ g.h % high = 0) (hE : tabE g wide high = 0) : sumI (tabL g wide high) = massL g.cs := by
  have hb := gok_bds hg
  obtain ⟨W, hW⟩ : ∃ W : Nat, wide = W := ⟨wide.toNat, by omega⟩
  obtain ⟨H, hH⟩ : ∃ H : Nat, high = H := ⟨high.toNat, by omega⟩
  have ew : g.w.toNat = W * (g.w / wide).toNat := by
    have e : g.w = wide * (g.w / wide) := by have := Int.mul_ediv_add_emod g.w wide; omega
    have p : 0 ≤ g.w / wide := Int.ediv_nonneg (by omega) (by omega)
    have : ((W * (g.w / wide).toNat : Nat) : Int) = g.w := by rw [Int.natCast_mul, Int.toNat_of_nonneg p, ← hW]; exact e.symm
    omega
  have eh : g.h.toNat = H * (g.h / high).toNat := by
    have e : g.h = high * (g.h / high) := by have := Int.mul_ediv_add_emod g.h high; omega
    have p : 0 ≤ g.h / high := Int.ediv_nonneg (by omega) (by omega)
    have : ((H * (g.h / high).toNat : Nat) : Int) = g.h := by rw [Int.natCast_mul, Int.toNat_of_nonneg p, ← hH]; exact e.symm
    omega
  have e0 := congrArg (sumP (·.m)) (blk_all hg).1
  unfold blk at e0
  rw [sumP_blk, show (g.w - 1 - 0 + 1).toNat = g.w.toNat by omega, show (g.h - 1 - 0 + 1).toNat = g.h.toNat by omega, ew, eh, range_grid] at e0
  simp only [Int.zero_add] at e0
  rw [massL_P, ← e0]
  unfold tabL
  rw [if_pos hE, sumI_gridL]
  refine congrArg sumI (List.map_congr_left fun J _ => ?_)
  have hc : ∀ I : Nat, tabF g wide high J I = sumI ((List.range H).map fun dy : Nat => sumI ((List.range W).map fun dx : Nat => (atP g.w g.cs ((W * I + dx : Nat) : Int) ((H * J + dy : Nat) : Int)).m)) := fun I => by
    rw [tabF_eq, massL_P]
    unfold blk
    rw [sumP_blk]
    simp only
    rw [show ((I : Int) * wide + wide - 1 - (I : Int) * wide + 1).toNat = W by omega, show ((J : Int) * high + high - 1 - (J : Int) * high + 1).toNat = H by omega]
    refine congrArg sumI (List.map_congr_left fun dy _ => congrArg sumI (List.map_congr_left fun dx _ => ?_))
    have q1 : (I : Int) * wide + (dx : Int) = ((W * I + dx : Nat) : Int) := by rw [Int.natCast_add, Int.natCast_mul, hW, Int.mul_comm]
    have q2 : (J : Int) * high + (dy : Int) = ((H * J + dy : Nat) : Int) := by rw [Int.natCast_add, Int.natCast_mul, hH, Int.mul_comm]
    rw [q1, q2]
  simp only [hc]
  rw [sum_swap (fun I dy => sumI ((List.range W).map fun dx : Nat => (atP g.w g.cs ((W * I + dx : Nat) : Int) ((H * J + dy : Nat) : Int)).m)) H]
  refine congrArg sumI (List.map_congr_left fun dy _ => ?_)
  exact (range_grid (fun x => (atP g.w g.cs (x : Int) ((H * J + dy : Nat) : Int)).m) W (g.w / wide).toNat).symm
/-- What is known of each block of the table. -/
theorem tq_all {g : Grd} (hg : g.ok = true) {wide high : Int} (hs : (1 ≤ wide ∧ wide ≤ g.w) ∧ 1 ≤ high ∧ high ≤ g.h) (hz : g.w % wide = 0 ∧ g.h % high = 0) (hE : tabE g wide high = 0) {i : Nat} (hi : i < (tabL g wide high).length) :
    blkE g (tqA g wide high i) (tqB g wide high i) = 0 ∧ cellsR g (tqA g wide high i) (tqB g wide high i) = wide * high ∧ 1 ≤ (tqD g wide high i).d ∧ (tqD g wide high i).n * (wide * high).tdiv (tqD g wide high i).d = (tabL g wide high).getD i 0 ∧ wOk (tqD g wide high i) (wide * high) := by
  have h := tab_q hg hs hz hE hi
  have hm := blk_mass_le hg hs hz hE (tab_sum hg hs hz hE) hi
  have hb := gok_bds hg
  have he := (circ_at hg h.2.2.1).1
  have hc : (tqB g wide high i).x - (tqA g wide high i).x + 1 = wide ∧ (tqB g wide high i).y - (tqA g wide high i).y + 1 = high := by unfold tqB; simp only; omega
  have hp : 1 ≤ wide * high ∧ wide * high ≤ 1024 := by
    have h1 : wide * high ≤ g.w * high := Int.mul_le_mul_of_nonneg_right (by omega) (by omega)
    have h2 : g.w * high ≤ g.w * g.h := Int.mul_le_mul_of_nonneg_left (by omega) (by omega)
    have h3 := Int.mul_pos (show 0 < wide by omega) (show 0 < high by omega)
    omega
  have hd : tqD g wide high i = ratP (tqM g wide high i) (wide * high) := by
    unfold tqD densR tqM; rw [if_pos he, hc.1, hc.2]
  have hr := ratP_mul (n := tqM g wide high i) (d := wide * high) (by omega)
  refine ⟨he, ?_, ?_, ?_, ?_⟩
  · unfold cellsR; rw [if_pos he, hc.1, hc.2]
  · rw [hd]; omega
  · rw [hd, h.2.2.2.1]; exact hr.2.2.1
  · rw [hd]; exact ⟨hp, by omega, by omega, hr.2.1⟩
def tqL (g : Grd) (wide high : Int) (k : Nat) : List Rat2 := (List.range k).map (tqD g wide high)
theorem tqL_len (g : Grd) (wide high : Int) (k : Nat) : (tqL g wide high k).length = k := by simp [tqL]
theorem tqL_at (g : Grd) (wide high : Int) {k i : Nat} (hi : i < k) : (tqL g wide high k).getD i default = tqD g wide high i := by
  simp [tqL, List.getD_eq_getElem?_getD, List.getElem?_map, List.getElem?_range hi]
theorem tqL_app (g : Grd) (wide high : Int) (k : Nat) {n d : Int} (hn : n = (tqD g wide high k).n) (hd : d = (tqD g wide high k).d) : Cts.qx (tqL g wide high k ++ [⟨n, d⟩]) = Cts.qx (tqL g wide high (k + 1)) := by
  subst hn hd; unfold tqL; rw [List.range_succ, List.map_append]; rfl
theorem rep_at (c : Int) {k i : Nat} (hi : i < k) : (List.replicate k c).getD i 0 = c := by simp [List.getD_eq_getElem?_getD, List.getElem?_replicate, hi]
theorem repI_app (c : Int) (k : Nat) {x : Int} (hx : x = c) : Cts.ix (List.replicate k c ++ [x]) = Cts.ix (List.replicate (k + 1) c) := by subst hx; rw [List.replicate_succ']
theorem tq_mean {g : Grd} (hg : g.ok = true) {wide high : Int} (hs : (1 ≤ wide ∧ wide ≤ g.w) ∧ 1 ≤ high ∧ high ≤ g.h) (hz : g.w % wide = 0 ∧ g.h % high = 0) (hE : tabE g wide high = 0) (hl : (tabL g wide high).length ≤ 100) :
    wgtE (tqL g wide high (tabL g wide high).length) (List.replicate (tabL g wide high).length (wide * high)) = 0 ∧ wgtR (tqL g wide high (tabL g wide high).length) (List.replicate (tabL g wide high).length (wide * high)) = densR g ⟨0, 0⟩ ⟨g.w - 1, g.h - 1⟩ := by
  have hb := gok_bds hg
  have ht := tab_side hg hs
  have hq := fun (k : Nat) (hk : k < (tabL g wide high).length) => tq_all hg hs hz hE hk
  generalize hK : (tabL g wide high).length = K at *
  have hlen : (K : Int) * (wide * high) = g.w * g.h := by
    have e1 : g.w = wide * (g.w / wide) := by have := Int.mul_ediv_add_emod g.w wide; omega
    have e2 : g.h = high * (g.h / high) := by have := Int.mul_ediv_add_emod g.h high; omega
    have p1 : 0 ≤ g.w / wide := Int.ediv_nonneg (by omega) (by omega)
    have p2 : 0 ≤ g.h / high := Int.ediv_nonneg (by omega) (by omega)
    have e3 : (K : Int) = (g.w / wide) * (g.h / high) := by
      rw [← hK]; unfold tabL; rw [if_pos hE, gridL_len, Int.natCast_mul, Int.toNat_of_nonneg p1, Int.toNat_of_nonneg p2]
    rw [e3]
    conv => rhs; rw [e1, e2]
    simp only [Int.mul_assoc, Int.mul_left_comm, Int.mul_comm]
  have hK1 : 1 ≤ K := by
    rcases (show K = 0 ∨ 1 ≤ K by omega) with h | h
    · subst h; have := Int.mul_pos (show 0 < g.w by omega) (show 0 < g.h by omega); simp at hlen; omega
    · exact h
  have hall : wAll (tqL g wide high K) (List.replicate K (wide * high)) (tqL g wide high K).length := ⟨fun i hi => by
    rw [tqL_len] at hi
    rw [tqL_at g wide high hi, rep_at _ hi]
    exact (hq i hi).2.2.2.2⟩
  have hw : ∀ k, k ≤ K → wSum (tqL g wide high K) (List.replicate K (wide * high)) k = sumI ((tabL g wide high).take k) ∧ nSum (List.replicate K (wide * high)) k = (k : Int) * (wide * high) := fun k => by
    induction k with
    | zero => intro _; exact ⟨by simp [wSum, sumI], by simp [nSum]⟩
    | succ k ih =>
      intro hk
      obtain ⟨i1, i2⟩ := ih (by omega)
      simp only [wSum, nSum]
      rw [i1, i2, tqL_at g wide high (show k < K by omega), rep_at _ (show k < K by omega), (hq k (by omega)).2.2.2.1, sumI_take _ (by omega)]
      refine ⟨rfl, ?_⟩
      rw [show ((k + 1 : Nat) : Int) = (k : Int) + 1 by omega, Int.add_mul, Int.one_mul]
  rcases wgt_ways (tqL g wide high K) (List.replicate K (wide * high)) with ⟨h, _⟩ | ⟨_, h, _⟩ | ⟨_, _, h, _⟩
  · rw [tqL_len, List.length_replicate] at h; exact absurd rfl h
  · rw [tqL_len] at h; omega
  · obtain ⟨h1, h2⟩ := h hall
    refine ⟨h1, ?_⟩
    rw [h2, tqL_len, (hw K (Nat.le_refl _)).1, (hw K (Nat.le_refl _)).2, sumI_all _ (by omega), tab_sum hg hs hz hE, hlen]
    unfold densR
    rw [if_pos (blkE_all hg), (blk_all hg).1]
    simp only [Int.sub_zero, show g.w - 1 + 1 = g.w by omega, show g.h - 1 + 1 = g.h by omega]
end Go.Sy

/- The law of weighted means: what its walk needs to know. -/
set_option linter.unusedSimpArgs false
set_option linter.unusedVariables false
namespace Go.Sy
theorem ex4 {β γ δ ε : Type} {P : β × γ × δ × ε → Prop} {b : β} {c : γ} {d : δ} {e : ε} (h : P (b, c, d, e)) : ∃ x, P x := ⟨_, h⟩
theorem tq_x (g : Grd) {wide high : Int} (hw : 0 ≤ g.w) (k : Nat) : (k : Int).tmod (g.w.tdiv wide) * wide = (tqA g wide high k).x ∧ (k : Int).tdiv (g.w.tdiv wide) * high = (tqA g wide high k).y := by
  rw [Int.tdiv_eq_ediv_of_nonneg hw, Int.tmod_eq_emod_of_nonneg (by omega), Int.tdiv_eq_ediv_of_nonneg (by omega)]
  exact ⟨rfl, rfl⟩
theorem tqB_eq (g : Grd) (wide high : Int) (k : Nat) : (⟨(tqA g wide high k).x + wide - 1, (tqA g wide high k).y + high - 1⟩ : Pnt) = tqB g wide high k := rfl
structure WeighF (g : Grd) (wide high : Int) : Prop where
  hv : g.ok = true
  hs : (1 ≤ wide ∧ wide ≤ g.w) ∧ 1 ≤ high ∧ high ≤ g.h
  hqb : 1 ≤ g.w.tdiv wide ∧ g.w.tdiv wide ≤ 64
  hwp : 1 ≤ wide * high ∧ wide * high ≤ 1024
  hx : ∀ k : Nat, (k : Int).tmod (g.w.tdiv wide) * wide = (tqA g wide high k).x
  hy : ∀ k : Nat, (k : Int).tdiv (g.w.tdiv wide) * high = (tqA g wide high k).y
  hF : ∀ k : Nat, k < (tabL g wide high).length → blkE g (tqA g wide high k) (tqB g wide high k) = 0 ∧ cellsR g (tqA g wide high k) (tqB g wide high k) = wide * high ∧ 1 ≤ (densR g (tqA g wide high k) (tqB g wide high k)).d ∧ (densR g (tqA g wide high k) (tqB g wide high k)).n * (wide * high).tdiv (densR g (tqA g wide high k) (tqB g wide high k)).d = (tabL g wide high).getD k 0 ∧
        ((0 ≤ (tabL g wide high).getD k 0 ∧ (tabL g wide high).getD k 0 ≤ 1000000000) ∧ (0 ≤ (tqA g wide high k).x ∧ (tqA g wide high k).x ≤ 63) ∧ 0 ≤ (tqA g wide high k).y ∧ (tqA g wide high k).y ≤ 63)
  hZ : blkE g ⟨0, 0⟩ ⟨g.w - 1, g.h - 1⟩ = 0
  hM : ∀ k : Nat, k = (tabL g wide high).length → k ≤ 100 → wgtE (tqL g wide high k) (List.replicate k (wide * high)) = 0 ∧ wgtR (tqL g wide high k) (List.replicate k (wide * high)) = densR g ⟨0, 0⟩ ⟨g.w - 1, g.h - 1⟩
theorem weighW (g : Grd) (wide high : Int) : (decide (big8 g) = true ∧ True ∧ True) ∨ (decide (big8 g) = false ∧ g.cs.length ≤ 1100 ∧ ¬ tabE g wide high = 0) ∨
    (decide (big8 g) = false ∧ g.cs.length ≤ 1100 ∧ tabE g wide high = 0 ∧ WeighF g wide high) := by
  by_cases hb : big8 g
  · exact .inl ⟨decide_eq_true hb, trivial, trivial⟩
  · have hl : g.cs.length ≤ 1100 := by unfold big8 at hb; omega
    rcases tab_ways g wide high with ⟨hv, he, hE, hL, hs, hz⟩ | ⟨hv, he, hE, hL, hs, hz⟩ | ⟨hv, he, hE, hL, hs, hz⟩ | ⟨hv, he, hE, hL, hs, hz⟩
    · exact .inr (.inl ⟨decide_eq_false hb, hl, by omega⟩)
    · exact .inr (.inl ⟨decide_eq_false hb, hl, by omega⟩)
    · exact .inr (.inl ⟨decide_eq_false hb, hl, by omega⟩)
    · have hg := gok_bds hv
      have hsum := tab_sum hv hs hz hE
      have hq := fun (k : Nat) (hk : k < (tabL g wide high).length) => tq_all hv hs hz hE hk
      have hq2 := fun (k : Nat) (hk : k < (tabL g wide high).length) => tab_q hv hs hz hE hk
      have ht := tab_side hv hs
      have hw1 : 1 ≤ g.w / wide ∧ g.w / wide ≤ g.w := by
        have e : g.w = wide * (g.w / wide) := by have := Int.mul_ediv_add_emod g.w wide; omega
        refine ⟨?_, Int.ediv_le_self _ (by omega)⟩
        rcases (show 1 ≤ g.w / wide ∨ g.w / wide ≤ 0 by omega) with h | h
        · exact h
        · have := Int.mul_nonpos_of_nonneg_of_nonpos (show (0 : Int) ≤ wide by omega) h
          omega
      have hp : 1 ≤ wide * high ∧ wide * high ≤ 1024 := by
        have h1 : wide * high ≤ g.w * high := Int.mul_le_mul_of_nonneg_right (by omega) (by omega)
        have h2 : g.w * high ≤ g.w * g.h := Int.mul_le_mul_of_nonneg_left (by omega) (by omega)
        have h3 := Int.mul_pos (show 0 < wide by omega) (show 0 < high by omega)
        omega
      refine .inr (.inr ⟨decide_eq_false hb, hl, hE, hv, hs, ?_, hp, fun k => (tq_x g (high := high) (by omega) k).1, fun k => (tq_x g (wide := wide) (by omega) k).2, fun k hk => ?_, blkE_all hv, fun k hk h100 => ?_⟩)
      · rw [Int.tdiv_eq_ediv_of_nonneg (by omega)]; omega
      · have a := hq k hk
        have b := hq2 k hk
        have c := blk_mass_le hv hs hz hE hsum hk
        rw [← b.2.2.2.1] at c
        exact ⟨a.1, a.2.1, a.2.2.1, a.2.2.2.1, c, b.2.2.2.2.1, b.2.2.2.2.2.1⟩
      · subst hk
        exact tq_mean hv hs hz hE h100
end Go.Sy

