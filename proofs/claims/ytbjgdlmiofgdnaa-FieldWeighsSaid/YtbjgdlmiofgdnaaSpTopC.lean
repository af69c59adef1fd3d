/- What crosses the lines of a grid that streams: the law's facts. -/
import Derived.Test.YtbjgdlmiofgdnaaSpCont
import Derived.Test.YtbjgdlmiofgdnaaSpRun
set_option linter.unusedSimpArgs false
set_option linter.unusedVariables false
set_option linter.unusedSectionVars false
namespace Go.Sy
/-! ### The whole grid as a block -/
theorem rowK_take (w : Int) (cs : List Cel) (hw : 0 ≤ w) (y : Nat) : ∀ k : Nat, w.toNat * y + k ≤ cs.length → rowK w cs 0 (y : Int) k = (cs.drop (w.toNat * y)).take k
  | 0, _ => rfl
  | k + 1, h => by
    have e : ((0 : Int) + (k : Int) + w * (y : Int)).toNat = w.toNat * y + k := by
      have : w * (y : Int) = ((w.toNat * y : Nat) : Int) := by rw [Int.natCast_mul, Int.toNat_of_nonneg hw]
      omega
    rw [rowK, rowK_take w cs hw y k (by omega), take_snoc _ default (by simp; omega)]
    unfold atP
    rw [e]
    simp [List.getD_eq_getElem?_getD, List.getElem?_drop]
theorem blkK_take (w : Int) (cs : List Cel) (hw : 0 ≤ w) : ∀ k : Nat, w.toNat * k ≤ cs.length → blkK w cs 0 0 w.toNat k = cs.take (w.toNat * k)
  | 0, _ => by simp [blkK]
  | k + 1, h => by
    rw [Nat.mul_succ] at h
    rw [blkK, blkK_take w cs hw k (by omega), show (0 : Int) + (k : Int) = (k : Int) by omega, rowK_take w cs hw k w.toNat (by omega), Nat.mul_succ, List.take_add]
theorem blk_all {g : Grd} (hg : g.ok = true) : blk g.w g.cs ⟨0, 0⟩ ⟨g.w - 1, g.h - 1⟩ = g.cs ∧ blkOk g ⟨0, 0⟩ ⟨g.w - 1, g.h - 1⟩ := by
  have hb := gok_bds hg
  have e1 : (g.w - 1 - 0 + 1).toNat = g.w.toNat := by omega
  have e2 : (g.h - 1 - 0 + 1).toNat = g.h.toNat := by omega
  have e3 : g.w.toNat * g.h.toNat = g.cs.length := by
    have : ((g.w.toNat * g.h.toNat : Nat) : Int) = g.w * g.h := by rw [Int.natCast_mul, Int.toNat_of_nonneg (by omega), Int.toNat_of_nonneg (by omega)]
    omega
  refine ⟨?_, ?_⟩
  · unfold blk
    simp only [e1, e2]
    rw [blkK_take g.w g.cs (by omega) _ (by omega), e3, List.take_length]
  · unfold blkOk onB; simp only; omega
theorem blkE_all {g : Grd} (hg : g.ok = true) : blkE g ⟨0, 0⟩ ⟨g.w - 1, g.h - 1⟩ = 0 := by
  unfold blkE; rw [hg, if_pos rfl, if_pos (blk_all hg).2]
theorem lineC_bd {g : Grd} (hg : g.ok = true) {axis i : Int} (ha : axis = 0 ∨ axis = 1) (hi : 0 ≤ i ∧ i ≤ sideN g axis - 1) : (0 ≤ (lineC g axis i).e ∧ (lineC g axis i).e ≤ 5000000000000) ∧ (0 ≤ (lineC g axis i).n ∧ (lineC g axis i).n ≤ 5000000000000) ∧ (0 ≤ (lineC g axis i).w ∧ (lineC g axis i).w ≤ 5000000000000) ∧ 0 ≤ (lineC g axis i).s ∧ (lineC g axis i).s ≤ 5000000000000 :=
  blk_bds hg (line_bds hg ha hi)
theorem crossE_ok {g : Grd} (hg : g.ok = true) {axis i : Int} (ha : axis = 0 ∨ axis = 1) (hi : 0 ≤ i ∧ i ≤ sideN g axis - 1) : crossE g axis i = 0 := by
  unfold crossE
  rw [hg, if_pos rfl, if_pos]
  rcases ha with rfl | rfl
  · exact .inl ⟨rfl, by simpa [sideN] using hi⟩
  · exact .inr ⟨rfl, by simpa [sideN] using hi⟩
theorem cross_eq {g : Grd} (hg : g.ok = true) {axis i : Int} (ha : axis = 0 ∨ axis = 1) (hi : 0 ≤ i ∧ i ≤ sideN g axis - 1) :
    crossF g axis i = (if axis = 0 then (lineC g axis ((i + -1) % sideN g axis)).e else (lineC g axis ((i + -1) % sideN g axis)).n) ∧ crossB g axis i = (if axis = 0 then (lineC g axis i).w else (lineC g axis i).s) := by
  have := crossE_ok hg ha hi
  unfold crossF crossB
  simp only [this, if_true, and_self]
theorem cross_bd {g : Grd} (hg : g.ok = true) {axis i : Int} (ha : axis = 0 ∨ axis = 1) (hi : 0 ≤ i ∧ i ≤ sideN g axis - 1) : (0 ≤ crossF g axis i ∧ crossF g axis i ≤ 5000000000000) ∧ 0 ≤ crossB g axis i ∧ crossB g axis i ≤ 5000000000000 := by
  have hn : 1 ≤ sideN g axis := by omega
  have hm := mod_line hn hi
  have q := cross_eq hg ha hi
  have b1 := lineC_bd hg ha hi
  have b2 := lineC_bd hg ha (i := (i + -1) % sideN g axis) ⟨hm.1, hm.2.1⟩
  rw [q.1, q.2]
  rcases ha with rfl | rfl
  · simp only [if_true]; omega
  · simp only [Int.one_ne_zero, if_false]; omega
/-- All that the law asks at one line. -/
theorem cont_line {g : Grd} (hg : g.ok = true) {axis : Int} (ha : axis = 0 ∨ axis = 1) {i : Nat} (hi : (i : Int) < sideN g axis) :
    crossE g axis i = 0 ∧ crossE g axis (((i : Int) + 1).tmod ((profL g axis).length : Int)) = 0 ∧
    (profL ⟨g.w, g.h, flow g.w g.h 1 g.cs⟩ axis).getD i 0 = (profL g axis).getD i 0 + crossF g axis i - crossB g axis i - crossF g axis (((i : Int) + 1).tmod ((profL g axis).length : Int)) + crossB g axis (((i : Int) + 1).tmod ((profL g axis).length : Int)) ∧
    ((0 ≤ (profL g axis).getD i 0 ∧ (profL g axis).getD i 0 ≤ 20000000000000) ∧ (0 ≤ crossF g axis i ∧ crossF g axis i ≤ 5000000000000) ∧ (0 ≤ crossB g axis i ∧ crossB g axis i ≤ 5000000000000) ∧
      (0 ≤ crossF g axis (((i : Int) + 1).tmod ((profL g axis).length : Int)) ∧ crossF g axis (((i : Int) + 1).tmod ((profL g axis).length : Int)) ≤ 5000000000000) ∧ 0 ≤ crossB g axis (((i : Int) + 1).tmod ((profL g axis).length : Int)) ∧ crossB g axis (((i : Int) + 1).tmod ((profL g axis).length : Int)) ≤ 5000000000000) ∧
    (0 ≤ ((i : Int) + 1).tmod ((profL g axis).length : Int) ∧ ((i : Int) + 1).tmod ((profL g axis).length : Int) ≤ 64) := by
  have hl := prof_len hg ha
  have hok : (⟨g.w, g.h, flow g.w g.h 1 g.cs⟩ : Grd).ok = true := gok_flow 1 hg
  have hs : sideN ⟨g.w, g.h, flow g.w g.h 1 g.cs⟩ axis = sideN g axis := rfl
  have et : ((i : Int) + 1).tmod ((profL g axis).length : Int) = ((i : Int) + 1) % sideN g axis := by rw [hl.1, Int.tmod_eq_emod_of_nonneg (by omega)]
  have h1 := Int.emod_nonneg ((i : Int) + 1) (show sideN g axis ≠ 0 by omega)
  have h2 := Int.emod_lt_of_pos ((i : Int) + 1) (show 0 < sideN g axis by omega)
  rw [et]
  have r1 : 0 ≤ (i : Int) ∧ (i : Int) ≤ sideN g axis - 1 := by omega
  have r2 : 0 ≤ ((i : Int) + 1) % sideN g axis ∧ ((i : Int) + 1) % sideN g axis ≤ sideN g axis - 1 := by omega
  have c1 := cross_eq hg ha r1
  have c2 := cross_eq hg ha r2
  have em : (((i : Int) + 1) % sideN g axis + -1) % sideN g axis = i := by
    rw [Int.emod_add_emod, show (i : Int) + 1 + -1 = i by omega]
    exact Int.emod_eq_of_lt r1.1 (by omega)
  rw [em] at c2
  have lf := line_flow hg ha r1
  have b := lineC_bd hg ha r1
  refine ⟨crossE_ok hg ha r1, crossE_ok hg ha r2, ?_, ⟨?_, ?_⟩, ?_⟩
  · rw [prof_at hok ha (by rw [hs]; exact hi), prof_at hg ha hi, lf, c1.1, c1.2, c2.1, c2.2]
  · rw [prof_at hg ha hi]; unfold Cel.m; omega
  · have q1 := cross_bd hg ha r1
    have q2 := cross_bd hg ha r2
    exact ⟨q1.1, q1.2, q2.1, q2.2⟩
  · omega
theorem cont_ways (g : Grd) : (100 < g.cs.length ∧ True) ∨ (g.cs.length ≤ 100 ∧ g.ok = false) ∨ (g.cs.length ≤ 100 ∧ g.ok = true ∧ streamG 1 g = ⟨g.w, g.h, flow g.w g.h 1 g.cs⟩ ∧ g.err = 0 ∧ (⟨g.w, g.h, flow g.w g.h 1 g.cs⟩ : Grd).ok = true ∧ (⟨g.w, g.h, flow g.w g.h 1 g.cs⟩ : Grd).err = 0 ∧
    (∀ x : Int, x = 0 ∨ x = 1 → profE g x = 0 ∧ profE ⟨g.w, g.h, flow g.w g.h 1 g.cs⟩ x = 0 ∧ (profL ⟨g.w, g.h, flow g.w g.h 1 g.cs⟩ x).length = (profL g x).length ∧ ((profL g x).length : Int) = sideN g x ∧ (profL g x).length ≤ 64 ∧ 1 ≤ (profL g x).length) ∧
    (blkE g ⟨0, 0⟩ ⟨g.w - 1, g.h - 1⟩ = 0 ∧ blkE ⟨g.w, g.h, flow g.w g.h 1 g.cs⟩ ⟨0, 0⟩ ⟨g.w - 1, g.h - 1⟩ = 0 ∧ densR ⟨g.w, g.h, flow g.w g.h 1 g.cs⟩ ⟨0, 0⟩ ⟨g.w - 1, g.h - 1⟩ = densR g ⟨0, 0⟩ ⟨g.w - 1, g.h - 1⟩) ∧
    ((⟨g.w, g.h, flow g.w g.h 1 g.cs⟩ : Grd).east = g.east ∧ (⟨g.w, g.h, flow g.w g.h 1 g.cs⟩ : Grd).north = g.north) ∧ (1 ≤ g.w ∧ g.w ≤ 64 ∧ 1 ≤ g.h ∧ g.h ≤ 64)) := by
  rcases Nat.lt_or_ge 100 g.cs.length with h | h
  · exact .inl ⟨h, trivial⟩
  · cases hg : g.ok
    · exact .inr (.inl ⟨h, rfl⟩)
    · have hok : (⟨g.w, g.h, flow g.w g.h 1 g.cs⟩ : Grd).ok = true := gok_flow 1 hg
      have hb := gok_bds hg
      have hs := flow_sums (w := g.w) (h := g.h) (by omega) (by omega) hb.2.2.2.2.2.1 1
      have t1 := Grd.tell_t hg
      have t2 := Grd.tell_t hok
      refine .inr (.inr ⟨h, rfl, by unfold streamG; rw [if_pos hg], t1.1, hok, t2.1, fun x hx => ?_, ⟨blkE_all hg, blkE_all hok, ?_⟩, ⟨?_, ?_⟩, by omega⟩)
      · have l1 := prof_len hg hx
        have l2 := prof_len hok hx
        have hs2 : sideN ⟨g.w, g.h, flow g.w g.h 1 g.cs⟩ x = sideN g x := rfl
        rw [hs2] at l2
        have e : ∀ q : Grd, q.ok = true → profE q x = 0 := fun q hq => by unfold profE; rw [hq, if_pos rfl, if_pos (by omega)]
        exact ⟨e g hg, e _ hok, by omega, l1.1, by omega, by omega⟩
      · unfold densR
        rw [blkE_all hg, (blkE_all hok : blkE ⟨g.w, g.h, flow g.w g.h 1 g.cs⟩ ⟨0, 0⟩ ⟨g.w - 1, g.h - 1⟩ = 0)]
        simp only [if_true]
        rw [(blk_all hg).1, ((blk_all hok).1 : blk g.w (flow g.w g.h 1 g.cs) ⟨0, 0⟩ ⟨g.w - 1, g.h - 1⟩ = _), hs.1]
      · rw [t1.2.2.1, t2.2.2.1]; exact hs.2.1
      · rw [t1.2.2.2, t2.2.2.2]; exact hs.2.2
end Go.Sy
