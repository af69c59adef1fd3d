/- Steps and movements change places; steps told cell by cell. -/
import Derived.Test.YtbcajalaopjmdaaSpKeep
set_option linter.unusedSimpArgs false
set_option linter.unusedVariables false
set_option linter.unusedSectionVars false
namespace Go.Sy
theorem mass_mir {w h : Int} (hw : 0 < w) (hh : 0 < h) {cs : List Cel} (hl : (cs.length : Int) = w * h) : massL (mirC w cs) = massL cs := by
  have b := bij_mir hw hh hl
  have lt := b.s
  have inj : ∀ i j, i < cs.length → j < cs.length → mirP w i = mirP w j → i = j := fun i j hi hj e => by have h1 := b.ts i hi; have h2 := b.ts j hj; rw [← h1, ← h2, e]
  have e1 := sums_eq (mirC w cs)
  have e2 := sums_eq cs
  have q1 : sumP (·.e) (mirC w cs) = sumP (·.w) cs := (sumP_tab _ _ _).trans (sumP_mix (·.w) cs lt inj)
  have q2 : sumP (·.n) (mirC w cs) = sumP (·.n) cs := (sumP_tab _ _ _).trans (sumP_mix (·.n) cs lt inj)
  have q3 : sumP (·.w) (mirC w cs) = sumP (·.e) cs := (sumP_tab _ _ _).trans (sumP_mix (·.e) cs lt inj)
  have q4 : sumP (·.s) (mirC w cs) = sumP (·.s) cs := (sumP_tab _ _ _).trans (sumP_mix (·.s) cs lt inj)
  omega
theorem mass_trn {w h : Int} (hw : 0 < w) (hh : 0 < h) {cs : List Cel} (hl : (cs.length : Int) = w * h) : massL (trnC w h cs) = massL cs := by
  have b := (bij_trn hw hh hl).symm
  have lt := b.s
  have inj : ∀ i j, i < cs.length → j < cs.length → nrtP w h i = nrtP w h j → i = j := fun i j hi hj e => by have h1 := b.ts i hi; have h2 := b.ts j hj; rw [← h1, ← h2, e]
  have e1 := sums_eq (trnC w h cs)
  have e2 := sums_eq cs
  have rt : ∀ c : Cel, c.rot 1 = ⟨c.s, c.e, c.n, c.w⟩ := fun c => by unfold Cel.rot; simp
  have q1 : sumP (·.e) (trnC w h cs) = sumP (·.s) cs := (sumP_tab _ _ _).trans (by simp only [rt]; exact sumP_mix (·.s) cs lt inj)
  have q2 : sumP (·.n) (trnC w h cs) = sumP (·.e) cs := (sumP_tab _ _ _).trans (by simp only [rt]; exact sumP_mix (·.e) cs lt inj)
  have q3 : sumP (·.w) (trnC w h cs) = sumP (·.n) cs := (sumP_tab _ _ _).trans (by simp only [rt]; exact sumP_mix (·.n) cs lt inj)
  have q4 : sumP (·.s) (trnC w h cs) = sumP (·.w) cs := (sumP_tab _ _ _).trans (by simp only [rt]; exact sumP_mix (·.w) cs lt inj)
  omega
theorem mass_shift {w h : Int} (hw : 0 < w) (hh : 0 < h) {cs : List Cel} (hl : (cs.length : Int) = w * h) (x y : Int) : massL (shiftC w h x y cs) = massL cs := by
  have e1 := sums_eq (shiftC w h x y cs)
  have e2 := sums_eq cs
  have q : ∀ f : Cel → Int, sumP f (shiftC w h x y cs) = sumP f cs := fun f => (sumP_tab _ _ _).trans (sumP_shp hw hh hl f (-x) (-y))
  rw [q, q, q, q] at e1
  omega
theorem gok_shift {g : Grd} (h : g.ok = true) (x y : Int) : (⟨g.w, g.h, shiftC g.w g.h x y g.cs⟩ : Grd).ok = true := by
  obtain ⟨h1, h2, h3, h4⟩ := Grd.ok_iff.1 h
  refine gok_mk h1 (by rw [shiftC_length]; exact h2) (fun c hc => ?_) (by rw [mass_shift (by omega) (by omega) h2]; exact h4)
  obtain ⟨i, hi, rfl⟩ := tab_mem hc
  exact okL_nn (gok_okL h) _ (getD_mem default (by have := shp_lt (w := g.w) (h := g.h) (by omega) (by omega) (-x) (-y) i; omega))
theorem gok_mir {g : Grd} (h : g.ok = true) : (⟨g.w, g.h, mirC g.w g.cs⟩ : Grd).ok = true := by
  obtain ⟨h1, h2, h3, h4⟩ := Grd.ok_iff.1 h
  refine gok_mk h1 (by rw [mirC_length]; exact h2) (fun c hc => ?_) (by rw [mass_mir (by omega) (by omega) h2]; exact h4)
  obtain ⟨i, hi, rfl⟩ := tab_mem hc
  have := okL_nn (gok_okL h) _ (getD_mem default (mirP_xy (w := g.w) (h := g.h) (by omega) (by omega) h2 hi).1)
  refine ⟨?_, ?_, ?_, ?_⟩ <;> simp only [Cel.mir] <;> omega
theorem gok_trn {g : Grd} (h : g.ok = true) : (⟨g.h, g.w, trnC g.w g.h g.cs⟩ : Grd).ok = true := by
  obtain ⟨h1, h2, h3, h4⟩ := Grd.ok_iff.1 h
  have e : g.h * g.w = g.w * g.h := Int.mul_comm _ _
  refine gok_mk (by omega) (by rw [trnC_length]; omega) (fun c hc => ?_) (by rw [mass_trn (by omega) (by omega) h2]; exact h4)
  obtain ⟨i, hi, rfl⟩ := tab_mem hc
  have := okL_nn (gok_okL h) _ (getD_mem default (nrtP_xy (w := g.w) (h := g.h) (by omega) (by omega) h2 hi).1)
  have rt : ∀ c : Cel, c.rot 1 = ⟨c.s, c.e, c.n, c.w⟩ := fun c => rfl
  rw [rt]; refine ⟨?_, ?_, ?_, ?_⟩ <;> (try simp only) <;> omega
theorem step_one (g : Grd) (r : Rul) (t : Int) (h : runE g [r] t 1 = 0) : runG g [r] t 1 = ⟨g.w, g.h, flow g.w g.h 1 (aft r g.cs)⟩ ∧ r.ok = true := by
  refine ⟨?_, ?_⟩
  · rw [runG_eq h]
    have e : (1 : Int).toNat = 0 + 1 := rfl
    rw [e, runC, runC, rho_one]
  · have := rulesB_iff.1 (runE_zero h).2.1
    exact this.2 r (by simp)
theorem run_one_mk {g : Grd} {r : Rul} (hg : g.ok = true) (hr : r.ok = true) : runE g [r] 0 1 = 0 := runE_mk hg (rules_one hr) (by unfold timesP; omega)
theorem sym_law (g : Grd) (r : Rul) (x y : Int) : runE g [r] 0 1 ≠ 0 ∨ (runE g [r] 0 1 = 0 ∧ g.err = 0 ∧ (runG g [r] 0 1).err = 0 ∧ runE (shiftG g x y) [r] 0 1 = 0 ∧ shiftG (runG g [r] 0 1) x y = runG (shiftG g x y) [r] 0 1 ∧
    runE (mirG g) [r] 0 1 = 0 ∧ mirG (runG g [r] 0 1) = runG (mirG g) [r] 0 1 ∧ (r.k = 2 ∨ r.k ≠ 2 ∧ runE (turnG g) [r] 0 1 = 0 ∧ turnG (runG g [r] 0 1) = runG (turnG g) [r] 0 1)) := by
  by_cases h : runE g [r] 0 1 = 0
  · have hg := (runE_zero h).1
    obtain ⟨e, hr⟩ := step_one g r 0 h
    obtain ⟨h1, h2, _, _⟩ := Grd.ok_iff.1 hg
    have ho := runG_ok h
    have hw : 0 < g.w := by omega
    have hh : 0 < g.h := by omega
    have h2a : ((aft r g.cs).length : Int) = g.w * g.h := by rw [aft_length]; exact h2
    have es : shiftG g x y = ⟨g.w, g.h, shiftC g.w g.h x y g.cs⟩ := by unfold shiftG; rw [if_pos hg]
    have em : mirG g = ⟨g.w, g.h, mirC g.w g.cs⟩ := by unfold mirG; rw [if_pos hg]
    have et : turnG g = ⟨g.h, g.w, trnC g.w g.h g.cs⟩ := by unfold turnG; rw [if_pos hg]
    have os : (shiftG g x y).ok = true := by rw [es]; exact gok_shift hg x y
    have om : (mirG g).ok = true := by rw [em]; exact gok_mir hg
    have ot : (turnG g).ok = true := by rw [et]; exact gok_trn hg
    have rs := run_one_mk os hr
    have rm := run_one_mk om hr
    have rt := run_one_mk ot hr
    refine .inr ⟨h, by simp [Grd.err, hg], by simp [Grd.err, ho], rs, ?_, rm, ?_, ?_⟩
    · rw [(step_one _ _ _ rs).1, es]
      unfold shiftG
      rw [if_pos ho, e]
      simp only
      rw [aft_shift hw hh h2, flow_shift hw hh h2a]
    · rw [(step_one _ _ _ rm).1, em]
      unfold mirG
      rw [if_pos ho, e]
      simp only
      rw [aft_mir hw hh h2, flow_mir hw hh h2a]
    · by_cases hk : r.k = 2
      · exact .inl hk
      · refine .inr ⟨hk, rt, ?_⟩
        rw [(step_one _ _ _ rt).1, et]
        unfold turnG
        rw [if_pos ho, e]
        simp only
        rw [aft_trn hw hh h2 hr hk, flow_trn hw hh h2a]
  · exact .inl h
theorem sym_len (g : Grd) (r : Rul) (x y : Int) : (runG g [r] 0 1).cs.length ≤ g.cs.length ∧ (∀ a : Grd, (shiftG a x y).cs.length ≤ a.cs.length ∧ (turnG a).cs.length ≤ a.cs.length ∧ (mirG a).cs.length ≤ a.cs.length) ∧ ∀ a : Grd, (runG a [r] 0 1).cs.length ≤ a.cs.length :=
  ⟨(run_len g [r] 0 1).1, fun a => mv_len a x y, fun a => (run_len a [r] 0 1).1⟩
/-! ### Cell by cell -/
def apc (r : Rul) (cs : List Cel) (k : Nat) : List Cel := aft r (cs.take k)
theorem apc_zero (r : Rul) (cs : List Cel) : apc r cs 0 = [] := rfl
theorem apc_length (r : Rul) {cs : List Cel} {k : Nat} (h : k ≤ cs.length) : (apc r cs k).length = k := by unfold apc; rw [aft_length, List.length_take]; omega
theorem apc_snoc (r : Rul) {cs : List Cel} {k : Nat} (h : k < cs.length) : apc r cs (k + 1) = apc r cs k ++ [(cs.getD k default).after r] := by
  unfold apc; rw [take_snoc cs default h]; unfold aft; rw [List.map_append]; rfl
theorem apc_full (r : Rul) {cs : List Cel} {k : Nat} (h : cs.length ≤ k) : apc r cs k = aft r cs := by unfold apc; rw [List.take_of_length_le h]
theorem cells_law (g : Grd) (l : List Rul) (t : Int) : (runE g l t 1 ≠ 0 ∧ True ∧ True ∧ True ∧ True ∧ True ∧ True ∧ True ∧ True) ∨ (runE g l t 1 = 0 ∧ atE l t = 0 ∧ atR l t = rho l t 0 ∧ (1 ≤ g.cs.length ∧ g.cs.length ≤ 1024) ∧ (∀ k, k < g.cs.length → (g.cs.getD k default).collide (rho l t 0) = ((g.cs.getD k default).after (rho l t 0), 0)) ∧
    (⟨g.w, g.h, aft (rho l t 0) g.cs⟩ : Grd).err = 0 ∧ streamG 1 ⟨g.w, g.h, aft (rho l t 0) g.cs⟩ = runG g l t 1 ∧ g.ok = true ∧ (rho l t 0).ok = true) := by
  by_cases h : runE g l t 1 = 0
  · obtain ⟨h1, h2, h3⟩ := runE_zero h
    have hr := (rho_ok h2 h3.1.1 0).1
    have ha := gok_aft hr h1
    refine .inr ⟨h, ?_, ?_, by have := gok_bds h1; omega, fun k hk => ?_, by simp [Grd.err, ha], ?_, h1, hr⟩
    · unfold atE; rw [if_pos h2, if_pos h3.1]
    · unfold atR; rw [if_pos ⟨h2, h3.1⟩, ← rho_z]
    · have ho := okL_at (gok_okL h1) hk
      simp only [Cel.collide, ho, hr, Bool.and_true, if_true]
    · unfold streamG; rw [if_pos ha, runG_eq h]; rfl
  · exact .inl ⟨h, trivial, trivial, trivial, trivial, trivial, trivial, trivial, trivial⟩
theorem awakeRev : revG ⟨1, 1, [⟨1, 2, 3, 4⟩]⟩ = ⟨1, 1, [⟨3, 4, 1, 2⟩]⟩ ∧ (⟨1, 1, [⟨1, 2, 3, 4⟩]⟩ : Grd).err = 0 := by decide
/-- The run back by the machine's own steps. -/
theorem rev_law (g : Grd) (r : Rul) (n : Int) : (runE g [r] 0 n ≠ 0 ∧ True ∧ True ∧ True ∧ True ∧ True ∧ True ∧ True ∧ True ∧ True ∧ True ∧ True) ∨ (runE g [r] 0 n = 0 ∧ (runG g [r] 0 n).err = 0 ∧ revG (runG g [r] 0 n) = ⟨g.w, g.h, revR g.w g.h r g.cs n.toNat 0⟩ ∧
    (∀ k, streamG 1 ⟨g.w, g.h, revR g.w g.h r g.cs n.toNat k⟩ = ⟨g.w, g.h, flow g.w g.h 1 (revR g.w g.h r g.cs n.toNat k)⟩) ∧ (∀ k, (⟨g.w, g.h, revR g.w g.h r g.cs n.toNat k⟩ : Grd).err = 0) ∧ (1 ≤ g.cs.length ∧ g.cs.length ≤ 1024) ∧ r.ok = true ∧
    ((∀ k, (revR g.w g.h r g.cs n.toNat k).length = g.cs.length) ∧ (revG (runG g [r] 0 n)).cs.length = g.cs.length ∧ ∀ k, (streamG 1 ⟨g.w, g.h, revR g.w g.h r g.cs n.toNat k⟩).cs.length = g.cs.length) ∧ (∀ k, okL (flow g.w g.h 1 (revR g.w g.h r g.cs n.toNat k)) = true) ∧
    (∀ k j, j < g.cs.length → (((flow g.w g.h 1 (revR g.w g.h r g.cs n.toNat k)).getD j default).collide r).2 = 0) ∧ (r.k ≠ 2 → ∀ k, k < n.toNat → aft r (flow g.w g.h 1 (revR g.w g.h r g.cs n.toNat k)) = revR g.w g.h r g.cs n.toNat (k + 1)) ∧ ∀ k, n.toNat ≤ k → revG ⟨g.w, g.h, revR g.w g.h r g.cs n.toNat k⟩ = g) := by
  by_cases h : runE g [r] 0 n = 0
  · obtain ⟨h1, h2, h3⟩ := runE_zero h
    have hr : r.ok = true := (rulesB_iff.1 h2).2 r (by simp)
    have e : runG g [r] 0 n = ⟨g.w, g.h, runC g.w g.h (fun _ => r) g.cs n.toNat⟩ := by
      rw [runG_eq h, runC_congr (σ := fun _ => r) fun i _ => rho_one r 0 i]
    have hb := gok_bds h1
    have ho := fun k => revR_ok h1 hr n.toNat k
    have hf := fun k => gok_flow 1 (ho k)
    have s1 : ∀ k, streamG 1 ⟨g.w, g.h, revR g.w g.h r g.cs n.toNat k⟩ = ⟨g.w, g.h, flow g.w g.h 1 (revR g.w g.h r g.cs n.toNat k)⟩ := fun k => by unfold streamG; rw [if_pos (ho k)]
    have s0 : revG (runG g [r] 0 n) = ⟨g.w, g.h, revR g.w g.h r g.cs n.toNat 0⟩ := by
      have := runG_ok h
      unfold revG
      rw [if_pos this, e]
      rfl
    refine .inr ⟨h, by simp [Grd.err, runG_ok h], s0, s1, fun k => by simp [Grd.err, ho k], by omega, hr, ⟨fun k => revR_length .., by rw [s0]; exact revR_length .., fun k => by rw [s1]; simp only [flow_length, revR_length]⟩, fun k => gok_okL (hf k), fun k j hj => ?_, fun hk k hkn => revR_next h1 hr hk hkn, fun k hk => ?_⟩
    · have := okL_at (gok_okL (hf k)) (i := j) (by simp only [flow_length, revR_length]; exact hj)
      simp only at this
      simp only [Cel.collide, this, hr, Bool.and_true, if_true]
    · unfold revG
      rw [if_pos (ho k)]
      simp only [revR_end g.w g.h r g.cs hk]
  · exact .inl ⟨h, trivial, trivial, trivial, trivial, trivial, trivial, trivial, trivial, trivial, trivial, trivial⟩
end Go.Sy
