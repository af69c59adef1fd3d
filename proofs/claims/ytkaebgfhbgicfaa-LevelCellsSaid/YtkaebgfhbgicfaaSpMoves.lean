/- What shifting, turning, mirroring a grid tell. -/
import Derived.Test.YtkaebgfhbgicfaaSpRuns
set_option linter.unusedSimpArgs false
set_option linter.unusedVariables false
set_option linter.unusedSectionVars false
namespace Go.Sy
def shiftG (g : Grd) (x y : Int) : Grd := if g.ok then ⟨g.w, g.h, shiftC g.w g.h x y g.cs⟩ else ⟨0, 0, []⟩
def turnG (g : Grd) : Grd := if g.ok then ⟨g.h, g.w, trnC g.w g.h g.cs⟩ else ⟨0, 0, []⟩
def mirG (g : Grd) : Grd := if g.ok then ⟨g.w, g.h, mirC g.w g.cs⟩ else ⟨0, 0, []⟩
theorem shiftC_length (w h x y : Int) (cs : List Cel) : (shiftC w h x y cs).length = cs.length := tab_length _ _
theorem trnC_length (w h : Int) (cs : List Cel) : (trnC w h cs).length = cs.length := tab_length _ _
theorem mirC_length (w : Int) (cs : List Cel) : (mirC w cs).length = cs.length := tab_length _ _
theorem move_ways (g : Grd) (x y : Int) : (g.ok = false ∧ g.err = 1 ∧ shiftG g x y = ⟨0, 0, []⟩ ∧ turnG g = ⟨0, 0, []⟩ ∧ mirG g = ⟨0, 0, []⟩) ∨
    (g.ok = true ∧ g.err = 0 ∧ shiftG g x y = ⟨g.w, g.h, shiftC g.w g.h x y g.cs⟩ ∧ turnG g = ⟨g.h, g.w, trnC g.w g.h g.cs⟩ ∧ mirG g = ⟨g.w, g.h, mirC g.w g.cs⟩ ∧ (1 ≤ g.cs.length ∧ g.cs.length ≤ 1024) ∧
      ((1 ≤ g.w ∧ g.w ≤ 64 ∧ 1 ≤ g.h ∧ g.h ≤ 64 ∧ g.w * g.h ≤ 1024) ∧ (g.cs.length : Int) = g.w * g.h ∧ g.cs.length = (g.w * g.h).toNat ∧ g.cs.length = (g.h * g.w).toNat) ∧
      (∀ k, k < g.cs.length → (g.cs.getD k default).ok = true) ∧
      (∀ k : Nat, k < g.cs.length → 0 ≤ (k : Int) % g.w ∧ (k : Int) % g.w < g.w ∧ 0 ≤ (k : Int) / g.w ∧ (k : Int) / g.w < g.h ∧ (k : Int) % g.w + g.w * ((k : Int) / g.w) = k) ∧
      Bij g.cs.length (shp g.w g.h x y) (shp g.w g.h (-x) (-y)) ∧ Bij g.cs.length (mirP g.w) (mirP g.w) ∧ Bij g.cs.length (trnP g.w g.h) (nrtP g.w g.h)) := by
  cases h : g.ok
  · exact .inl ⟨rfl, by simp [Grd.err, h], by simp [shiftG, h], by simp [turnG, h], by simp [mirG, h]⟩
  · obtain ⟨h1, h2, h3, h4⟩ := Grd.ok_iff.1 h
    have hb := gok_bds h
    have hw : 0 < g.w := by omega
    have hh : 0 < g.h := by omega
    have e : g.h * g.w = g.w * g.h := Int.mul_comm _ _
    exact .inr ⟨rfl, by simp [Grd.err, h], by simp [shiftG, h], by simp [turnG, h], by simp [mirG, h], by omega, ⟨h1, h2, by omega, by omega⟩, fun k hk => okL_at (gok_okL h) hk, fun k hk => xy_bd hw hh (by omega),
      bij_shp hw hh h2 x y, bij_mir hw hh h2, bij_trn hw hh h2⟩
/-- The places as the program counts them. -/
theorem at_shift {w h : Int} (hw : 0 < w) (hh : 0 < h) (x y : Int) (k : Nat) : atI w h ((k : Int) % w + x % w) ((k : Int) / w + y % h) = shp w h x y k := by
  rw [at_shp, shp_mod hw hh]
theorem at_mir {w h : Int} {k : Nat} (hx : 0 ≤ (k : Int) % w ∧ (k : Int) % w < w) (hy : 0 ≤ (k : Int) / w ∧ (k : Int) / w < h) : atI w h (w - 1 - (k : Int) % w) ((k : Int) / w) = mirP w k := by
  unfold atI mirP
  rw [Int.emod_eq_of_lt (a := w - 1 - (k : Int) % w) (by omega) (by omega), Int.emod_eq_of_lt hy.1 hy.2]
theorem at_trn {w h : Int} {k : Nat} (hx : 0 ≤ (k : Int) % w ∧ (k : Int) % w < w) (hy : 0 ≤ (k : Int) / w ∧ (k : Int) / w < h) : atI h w (h - 1 - (k : Int) / w) ((k : Int) % w) = trnP w h k := by
  unfold atI trnP
  rw [Int.emod_eq_of_lt (a := h - 1 - (k : Int) / w) (by omega) (by omega), Int.emod_eq_of_lt hx.1 hx.2]
theorem sc_shift {w h x y : Int} {cs : List Cel} (hb : Bij cs.length (shp w h x y) (shp w h (-x) (-y))) {k : Nat} (hk : cs.length ≤ k) : scat cs.length (shp w h (-x) (-y)) (fun i => cs.getD i default) k = shiftC w h x y cs := scat_full hb _ hk
theorem sc_mir {w : Int} {cs : List Cel} (hb : Bij cs.length (mirP w) (mirP w)) {k : Nat} (hk : cs.length ≤ k) : scat cs.length (mirP w) (fun i => (cs.getD i default).mir) k = mirC w cs := scat_full hb _ hk
theorem sc_trn {w h : Int} {cs : List Cel} (hb : Bij cs.length (trnP w h) (nrtP w h)) {k : Nat} (hk : cs.length ≤ k) : scat cs.length (nrtP w h) (fun i => (cs.getD i default).rot 1) k = trnC w h cs := scat_full hb _ hk
theorem sc_mir' {w : Int} {cs : List Cel} (hb : Bij cs.length (mirP w) (mirP w)) (ho : ∀ k, k < cs.length → (cs.getD k default).ok = true) {k : Nat} (hk : cs.length ≤ k) : scat cs.length (mirP w) (fun i => ((cs.getD i default).mirrored).1) k = mirC w cs := by
  rw [scat_full hb _ hk]
  refine tab_congr fun i hi => ?_
  simp only [Cel.mirrored, ho _ (hb.t i hi), if_true]
theorem sc_trn' {w h : Int} {cs : List Cel} (hb : Bij cs.length (trnP w h) (nrtP w h)) (ho : ∀ k, k < cs.length → (cs.getD k default).ok = true) {k : Nat} (hk : cs.length ≤ k) : scat cs.length (nrtP w h) (fun i => ((cs.getD i default).turned 1).1) k = trnC w h cs := by
  rw [scat_full hb _ hk]
  refine tab_congr fun i hi => ?_
  simp only [Cel.turned, ho _ (hb.t i hi), if_true]
  rfl
theorem r_shift {w h : Int} (hw : 0 < w) (hh : 0 < h) {x y : Int} {k : Nat} : (((k : Int) % w + x % w) % w + ((k : Int) / w + y % h) % h * w).toNat = shp w h x y k := by
  rw [Int.mul_comm _ w]; exact at_shift hw hh x y k
theorem mv_len (g : Grd) (x y : Int) : (shiftG g x y).cs.length ≤ g.cs.length ∧ (turnG g).cs.length ≤ g.cs.length ∧ (mirG g).cs.length ≤ g.cs.length := by
  unfold shiftG turnG mirG
  cases g.ok <;> simp [shiftC_length, trnC_length, mirC_length]
end Go.Sy
