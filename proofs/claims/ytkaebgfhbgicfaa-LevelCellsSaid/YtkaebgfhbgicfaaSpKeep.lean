/- Runs put together and undone; steps kept. -/
import Derived.Test.YtkaebgfhbgicfaaSpMoves
set_option linter.unusedSimpArgs false
set_option linter.unusedVariables false
set_option linter.unusedSectionVars false
namespace Go.Sy
theorem run_len (g : Grd) (l : List Rul) (t n : Int) : (runG g l t n).cs.length ≤ g.cs.length ∧ (undoG g l t n).cs.length ≤ g.cs.length := by
  constructor
  · unfold runG; split
    · exact Nat.le_of_eq (runC_length ..)
    · exact Nat.zero_le _
  · unfold undoG; split
    · exact Nat.le_of_eq (bakC_length ..)
    · exact Nat.zero_le _
theorem rho_z (l : List Rul) (t : Int) : l.getD (t.tmod (l.length : Int)).toNat default = rho l t 0 := by
  unfold rho; rw [show t + ((0 : Nat) : Int) = t from Int.add_zero t]
theorem I64_mk {a : Int} (h1 : -9223372036854775808 ≤ a) (h2 : a ≤ 9223372036854775807) : I64 a := ⟨h1, h2⟩
theorem runE_zero {g : Grd} {l : List Rul} {t n : Int} (h : runE g l t n = 0) : g.ok = true ∧ rulesB l = true ∧ timesP t n := by
  unfold runE at h
  cases hg : g.ok
  · simp [hg] at h
  · cases hr : rulesB l
    · simp [hr] at h
    · by_cases ht : timesP t n
      · exact ⟨rfl, rfl, ht⟩
      · simp only [hg, hr, Bool.and_true, if_true, if_neg ht] at h; omega
theorem runE_mk {g : Grd} {l : List Rul} {t n : Int} (hg : g.ok = true) (hr : rulesB l = true) (ht : timesP t n) : runE g l t n = 0 := by
  unfold runE
  rw [hg, hr, Bool.and_true, if_pos rfl, if_pos ht]
theorem runG_eq {g : Grd} {l : List Rul} {t n : Int} (h : runE g l t n = 0) : runG g l t n = ⟨g.w, g.h, runC g.w g.h (rho l t) g.cs n.toNat⟩ := if_pos h
theorem undoG_eq {g : Grd} {l : List Rul} {t n : Int} (h : runE g l t n = 0) : undoG g l t n = ⟨g.w, g.h, bakC g.w g.h (fun i => rho l t (n.toNat - 1 - i)) g.cs n.toNat⟩ := if_pos h
theorem runG_ok {g : Grd} {l : List Rul} {t n : Int} (h : runE g l t n = 0) : (runG g l t n).ok = true := by
  obtain ⟨h1, h2, h3⟩ := runE_zero h
  rw [runG_eq h]
  exact runC_ok h1 (fun k => (rho_ok h2 h3.1.1 k).1) _
theorem undoG_ok {g : Grd} {l : List Rul} {t n : Int} (h : runE g l t n = 0) : (undoG g l t n).ok = true := by
  obtain ⟨h1, h2, h3⟩ := runE_zero h
  rw [undoG_eq h]
  exact bakC_ok h1 (fun k => (rho_ok h2 h3.1.1 _).1) _
theorem run_undone {g : Grd} {l : List Rul} {t n : Int} (h : runE g l t n = 0) : runE (runG g l t n) l t n = 0 ∧ undoG (runG g l t n) l t n = g := by
  obtain ⟨h1, h2, h3⟩ := runE_zero h
  have he : runE (runG g l t n) l t n = 0 := runE_mk (runG_ok h) h2 h3
  refine ⟨he, ?_⟩
  rw [undoG_eq he, runG_eq h]
  show (⟨g.w, g.h, _⟩ : Grd) = g
  simp only [undone h1 (fun k => (rho_ok h2 h3.1.1 k).1) n.toNat]
theorem step_redone {g : Grd} {l : List Rul} {t : Int} (h : runE g l t 1 = 0) : runE (undoG g l t 1) l t 1 = 0 ∧ runG (undoG g l t 1) l t 1 = g := by
  obtain ⟨h1, h2, h3⟩ := runE_zero h
  have he : runE (undoG g l t 1) l t 1 = 0 := runE_mk (undoG_ok h) h2 h3
  refine ⟨he, ?_⟩
  rw [runG_eq he, undoG_eq h]
  have e := Grd.step_back h1 (rho_ok h2 h3.1.1 0).1
  simp only [Grd.step, Grd.back] at e
  exact e
theorem kept_law (g : Grd) (l : List Rul) (t : Int) : runE g l t 1 ≠ 0 ∨ (runE g l t 1 = 0 ∧ g.ok = true ∧ (runG g l t 1).ok = true ∧ g.err = 0 ∧ (runG g l t 1).err = 0 ∧ (runG g l t 1).mass = g.mass ∧ (runG g l t 1).east = g.east ∧ (runG g l t 1).north = g.north ∧
    (runE (runG g l t 1) l t 1 = 0 ∧ undoG (runG g l t 1) l t 1 = g) ∧ (runE (undoG g l t 1) l t 1 = 0 ∧ runG (undoG g l t 1) l t 1 = g)) := by
  by_cases h : runE g l t 1 = 0
  · obtain ⟨h1, h2, h3⟩ := runE_zero h
    have ho := runG_ok h
    have hs := runC_sums h1 (fun k => (rho_ok h2 h3.1.1 k).1) (ρ := rho l t) (1 : Int).toNat
    refine .inr ⟨h, h1, ho, by simp [Grd.err, h1], by simp [Grd.err, ho], ?_, ?_, ?_, run_undone h, step_redone h⟩
    · simp only [Grd.mass, ho, h1, if_true]; rw [runG_eq h]; exact hs.1
    · simp only [Grd.east, ho, h1, if_true]; rw [runG_eq h]; exact hs.2.1
    · simp only [Grd.north, ho, h1, if_true]; rw [runG_eq h]; exact hs.2.2
  · exact .inl h
theorem rho_add (l : List Rul) (t m : Int) (hm : 0 ≤ m) (k : Nat) : rho l (t + m) k = rho l t (m.toNat + k) := by
  unfold rho
  rw [show t + m + (k : Int) = t + ((m.toNat + k : Nat) : Int) by omega]
theorem parts_law (g : Grd) (l : List Rul) (a b c : Int) : runE g l a b ≠ 0 ∨ ((0 ≤ a ∧ a ≤ 900000 ∧ 0 ≤ b ∧ b ≤ 30 ∧ 0 ≤ c ∧ c ≤ 30) → runE g l a b = 0 ∧ runE (runG g l a b) l (a + b) c = 0 ∧ runE g l a (b + c) = 0 ∧ runG (runG g l a b) l (a + b) c = runG g l a (b + c) ∧ runE (runG g l a (b + c)) l a (b + c) = 0 ∧ undoG (runG g l a (b + c)) l a (b + c) = g) := by
  by_cases h : runE g l a b = 0
  · refine .inr fun hb => ?_
    obtain ⟨h1, h2, h3⟩ := runE_zero h
    have e1 : runE (runG g l a b) l (a + b) c = 0 := runE_mk (runG_ok h) h2 (by unfold timesP; omega)
    have e2 : runE g l a (b + c) = 0 := runE_mk h1 h2 (by unfold timesP; omega)
    refine ⟨h, e1, e2, ?_, (run_undone e2).1, (run_undone e2).2⟩
    rw [runG_eq e1, runG_eq h, runG_eq e2]
    show (⟨g.w, g.h, _⟩ : Grd) = _
    rw [show (b + c).toNat = b.toNat + c.toNat by omega, runC_add]
    simp only
    rw [runC_congr fun i _ => rho_add l a b (by omega) i]
  · exact .inl h
/-! ### Streamed back by the machine's own steps -/
theorem turn_inv {r : Rul} (h : r.ok = true) (hk : r.k ≠ 2) : r.inv = r := by
  have h2 := Rul.ok_iff.1 h
  unfold Rul.inv
  obtain ⟨k, b⟩ := r
  simp only at *
  have : b = 0 := by omega
  subst this; rfl
theorem rev_after (c : Cel) (r : Rul) : c.rev.after r = (c.after r).rev := by
  have h1 : c.rev.h = c.h := by unfold Cel.h Cel.rev; simp only; omega
  have h2 : c.rev.v = c.v := by unfold Cel.v Cel.rev; simp only; omega
  unfold Cel.after
  rw [h1, h2, Cel.eq_iff]
  simp only [Cel.placed, h1, h2, Cel.rev]
  refine ⟨?_, ?_, ?_, ?_⟩ <;> first | rfl | (simp only [Cel.h, Cel.v]; omega)
theorem aft_rev (r : Rul) (cs : List Cel) : aft r (revC cs) = revC (aft r cs) := by
  unfold aft revC
  rw [List.map_map, List.map_map]
  exact List.map_congr_left fun c _ => rev_after c r
theorem rev_step {g : Grd} {r : Rul} (h : g.ok = true) (hr : r.ok = true) (hk : r.k ≠ 2) : aft r (flow g.w g.h 1 (revC (flow g.w g.h 1 (aft r g.cs)))) = revC g.cs := by
  obtain ⟨h1, h2, h3, h4⟩ := Grd.ok_iff.1 h
  have e := stream_rev (gok_flow 1 (gok_aft hr h))
  simp only at e
  have e2 := flow_flow (w := g.w) (h := g.h) (cs := aft r g.cs) (by omega) (by omega) (by rw [aft_length]; exact h2) 1
  have e3 : flow g.w g.h 1 (revC (flow g.w g.h 1 (aft r g.cs))) = revC (aft r g.cs) := by
    have := congrArg revC e
    rw [revC_revC, e2] at this; exact this
  rw [e3, aft_rev]
  have := (aft_undone hr (gok_okL h)).1
  rw [turn_inv hr hk] at this
  rw [this]
/-- What comes after k of n steps back. -/
def revR (w h : Int) (r : Rul) (cs : List Cel) (n k : Nat) : List Cel := revC (runC w h (fun _ => r) cs (n - k))
theorem revR_length (w h : Int) (r : Rul) (cs : List Cel) (n k : Nat) : (revR w h r cs n k).length = cs.length := by unfold revR; rw [revC_length, runC_length]
theorem revR_next {g : Grd} {r : Rul} (h : g.ok = true) (hr : r.ok = true) (hk : r.k ≠ 2) {n k : Nat} (hn : k < n) : aft r (flow g.w g.h 1 (revR g.w g.h r g.cs n k)) = revR g.w g.h r g.cs n (k + 1) := by
  unfold revR
  rw [show n - k = (n - (k + 1)) + 1 by omega, runC]
  exact rev_step (g := ⟨g.w, g.h, runC g.w g.h (fun _ => r) g.cs (n - (k + 1))⟩) (runC_ok h (fun _ => hr) _) hr hk
theorem revR_end (w h : Int) (r : Rul) (cs : List Cel) {n k : Nat} (hn : n ≤ k) : revC (revR w h r cs n k) = cs := by
  unfold revR; rw [show n - k = 0 by omega, runC, revC_revC]
theorem revR_zero (w h : Int) (r : Rul) (cs : List Cel) (n : Nat) : revR w h r cs n 0 = revC (runC w h (fun _ => r) cs n) := rfl
theorem revR_ok {g : Grd} {r : Rul} (h : g.ok = true) (hr : r.ok = true) (n k : Nat) : (⟨g.w, g.h, revR g.w g.h r g.cs n k⟩ : Grd).ok = true :=
  gok_rev (g := ⟨g.w, g.h, runC g.w g.h (fun _ => r) g.cs (n - k)⟩) (runC_ok h (fun _ => hr) _)
/-! ### Steps and movements change places -/
theorem emod_back {w : Int} (hw : 0 < w) (x : Int) : (w - 1 - x) % w = w - 1 - x % w := by
  have b1 := Int.emod_nonneg x (show w ≠ 0 by omega)
  have b2 := Int.emod_lt_of_pos x hw
  have hd := Int.emod_add_mul_ediv x w
  rw [show w - 1 - x = (w - 1 - x % w) + w * (-(x / w)) by rw [Int.mul_neg]; omega, Int.add_mul_emod_self_left]
  exact Int.emod_eq_of_lt (by omega) (by omega)
section
variable {w h : Int} (hw : 0 < w) (hh : 0 < h) {cs : List Cel} (hl : (cs.length : Int) = w * h)
include hw hh hl
theorem aft_tab (r : Rul) (n : Nat) (f : Nat → Cel) : aft r (tab n f) = tab n fun j => (f j).after r := by unfold aft tab; rw [List.map_map]; rfl
theorem aft_at (r : Rul) {j : Nat} (hj : j < cs.length) : (aft r cs).getD j default = (cs.getD j default).after r := by simp [aft, List.getD, hj]
theorem aft_shift (r : Rul) (x y : Int) : aft r (shiftC w h x y cs) = shiftC w h x y (aft r cs) := by
  unfold shiftC
  rw [aft_tab hw hh hl, aft_length]
  exact tab_congr fun j _ => (aft_at hw hh hl r (by have := shp_lt hw hh (-x) (-y) j; omega)).symm
theorem flow_shift (x y : Int) : flow w h 1 (shiftC w h x y cs) = shiftC w h x y (flow w h 1 cs) := by
  have lt : ∀ a b i, shp w h a b i < cs.length := fun a b i => by have := shp_lt hw hh a b i; omega
  have at_ : ∀ i, i < cs.length → (shiftC w h x y cs).getD i default = cs.getD (shp w h (-x) (-y) i) default := fun i hi => tab_at _ hi
  have hx : ∀ p q : Int, p + -q = -q + p := fun p q => Int.add_comm _ _
  conv => rhs; unfold shiftC
  rw [flow_length]
  unfold flow
  rw [shiftC_length]
  refine tab_congr fun j hj => ?_
  rw [tab_at _ (lt _ _ j)]
  simp only [at_ _ (lt _ _ _), shp_shp hw hh, Int.add_comm (-x), Int.add_comm (-y)]
theorem aft_mir (r : Rul) : aft r (mirC w cs) = mirC w (aft r cs) := by
  unfold mirC
  rw [aft_tab hw hh hl, aft_length]
  refine tab_congr fun j hj => ?_
  rw [aft_at hw hh hl r (mirP_xy hw hh hl hj).1, Cel.mir_after]
theorem mir_shp (a b : Int) {i : Nat} (hi : i < cs.length) : mirP w (shp w h a b i) = shp w h (-a) b (mirP w i) := by
  have q := mirP_xy hw hh hl hi
  have lt : shp w h a b i < cs.length := by have := shp_lt hw hh a b i; omega
  have q2 := mirP_xy hw hh hl lt
  refine shp_eq_iff hw hh ?_ ?_
  · rw [q2.2.1, shp_x hw hh, shp_x hw hh, q.2.1]
    rw [show w - 1 - (i : Int) % w + -a = w - 1 - ((i : Int) % w + a) by omega, emod_back hw]
  · rw [q2.2.2, shp_y hw hh, shp_y hw hh, q.2.2]
theorem flow_mir : flow w h 1 (mirC w cs) = mirC w (flow w h 1 cs) := by
  have lt : ∀ a b i, shp w h a b i < cs.length := fun a b i => by have := shp_lt hw hh a b i; omega
  have at_ : ∀ i, i < cs.length → (mirC w cs).getD i default = (cs.getD (mirP w i) default).mir := fun i hi => tab_at _ hi
  conv => rhs; unfold mirC
  rw [flow_length]
  unfold flow
  rw [mirC_length]
  refine tab_congr fun j hj => ?_
  rw [tab_at _ (mirP_xy hw hh hl hj).1]
  simp only [at_ _ (lt _ _ _), mir_shp hw hh hl _ _ hj, Cel.mir, Int.neg_neg, Int.neg_zero]
theorem aft_trn {r : Rul} (hr : r.ok = true) (hk : r.k ≠ 2) : aft r (trnC w h cs) = trnC w h (aft r cs) := by
  unfold trnC
  rw [aft_tab hw hh hl, aft_length]
  refine tab_congr fun j hj => ?_
  rw [aft_at hw hh hl r (nrtP_xy hw hh hl hj).1]
  obtain ⟨k, b⟩ := r
  have h2 := Rul.ok_iff.1 hr
  simp only at h2 hk
  have : b = 0 := by omega
  subst this
  rcases (show k = 0 ∨ k = 1 by omega) with rfl | rfl
  · have e : ∀ d : Cel, d.after ⟨0, 0⟩ = d := fun d => by
      rw [Cel.eq_iff]; simp [Cel.after, Cel.placed, Rul.turn]
    rw [e, e]
  · exact Cel.rot_after 1
theorem trn_shp (a b : Int) {j : Nat} (hj : j < cs.length) : nrtP w h (shp h w a b j) = shp w h b (-a) (nrtP w h j) := by
  have q := nrtP_xy hw hh hl hj
  have lt : shp h w a b j < cs.length := by have := shp_lt hh hw a b j; have : h * w = w * h := Int.mul_comm _ _; omega
  have q2 := nrtP_xy hw hh hl lt
  refine shp_eq_iff hw hh ?_ ?_
  · rw [q2.2.1, shp_x hw hh, shp_y hh hw, q.2.1]
  · rw [q2.2.2, shp_y hw hh, shp_x hh hw, q.2.2]
    rw [show h - 1 - (j : Int) % h + -a = h - 1 - ((j : Int) % h + a) by omega, emod_back hh]
theorem flow_trn : flow h w 1 (trnC w h cs) = trnC w h (flow w h 1 cs) := by
  have e : h * w = w * h := Int.mul_comm _ _
  have lt : ∀ a b i, shp h w a b i < cs.length := fun a b i => by have := shp_lt hh hw a b i; omega
  have at_ : ∀ i, i < cs.length → (trnC w h cs).getD i default = (cs.getD (nrtP w h i) default).rot 1 := fun i hi => tab_at _ hi
  conv => rhs; unfold trnC
  rw [flow_length]
  unfold flow
  rw [trnC_length]
  refine tab_congr fun j hj => ?_
  rw [tab_at _ (nrtP_xy hw hh hl hj).1]
  simp only [at_ _ (lt _ _ _), trn_shp hw hh hl _ _ hj, Cel.rot, Int.neg_neg, Int.neg_zero]
  simp
end
end Go.Sy
