/-
  PhaseRuns: Run and Undo of the program are those of the reference; a run is undone.
-/
import Derived.Test.YtokeaplbmlpkdaaGreatKPhaseRuns
import Derived.Test.YtokeaplbmlpkdaaGreatSyO
import Derived.Test.YtokeaplbmlpkdaaGreatRows
set_option linter.unusedSimpArgs false
set_option linter.unusedVariables false
namespace Go.Proofs.YtokeaplbmlpkdaaGreat
open Go.Sy Go.RowKit Go.ChangeShapes Go.WideShapes Go.ChangeAt

theorem own : ownKnob Tryz.prog.godebug = none := by kernel_rfl
theorem laidOut : laidOutB Tryz.prog = true := by kernel_rfl
set_option maxRecDepth 100000 in
theorem phaseRuns_lifted (os : Os) (started : os.Started) (H : Type) (enc : TypeId × Value → H) :
    ReturnsInHanded {} Tryz.checked os 3 .any (Rows.phaseRunsSpec.pre6 enc Tryz.prog Tryz.f3 Rows.phaseRunsRow.domain false) (Rows.phaseRunsSpec.post enc Tryz.prog Tryz.f3 false true false false) := by
  refine returnsInHanded_of_change (C := Tryz.checked) own started (by kernel_rfl) Tryz.func3
    (ChangeSpec.witness6 (enc := enc) (C := Tryz.checked) false ⟨#[], #[.agg #[.int .i64 0, .int .i64 0, .slice none 0 0, .slice none 0 0], .agg #[.slice none 0 0, .slice none 0 0], .agg #[.int .i64 0, .int .i64 0]], []⟩ 8 (by kernel_rfl) (by kernel_rfl) (by kernel_rfl) (by kernel_rfl)) ?_
  intro W base args ds gs before hval0 hW hcnd _
  have hval : ∀ (j : Nat) t v, Tryz.f3.params[j]? = some t → args[j]? = some v → Value.okWide Tryz.prog W .any base t v := hval0
  have hW' := hW
  obtain ⟨p, q, hA0, hV, rfl, hfz, hnd⟩ := hW
  have hA : DataW.TrodAll enc Tryz.prog W 0 (fun _ => true) true Tryz.f3.params.toList args.toList ds p := hA0
  rw [Tryz.params3] at hA hval
  obtain ⟨v0, vs0, d0, ds0, p0, q0, hargs, rfl, rfl, h0, r0⟩ := trodAll_cons hA
  obtain ⟨v1, vs1, d1, ds1, p1, q1, rfl, rfl, rfl, h1, r1⟩ := trodAll_cons r0
  obtain ⟨v2, vs2, d2, ds2, p2, q2, rfl, rfl, rfl, h2, r2⟩ := trodAll_cons r1
  obtain ⟨rfl, rfl, rfl⟩ := trodAll_nil r2
  obtain rfl : args = #[v0, v1, v2] := by apply Array.ext'; exact hargs
  obtain ⟨x, ax, capx, bx, dapx, rfl, i_x, posx, qosx, b_x, bb_x⟩ := open_mix (t := 24) (by kernel_rfl) (by kernel_rfl) (hval 0 24 _ rfl rfl) h0
  obtain ⟨r, ar, capr, br, dapr, rfl, i_r, posr, qosr, b_r, bb_r⟩ := open_rls (t := 27) (by kernel_rfl) (by kernel_rfl) (hval 1 27 _ rfl rfl) h1
  obtain ⟨n, rfl, i_n⟩ := open_pnt (t := 28) (by kernel_rfl) (by kernel_rfl) (hval 2 28 _ rfl rfl) h2
  obtain ⟨v, hv, hc⟩ := k_lawD_PhaseRuns.get ⟨_, Tryz.func3, (by kernel_rfl), rfl⟩ [.agg [.int .i64 x.w, .int .i64 x.h, .sl 0 ax 0 4 x.a.length capx, .sl 1 bx 0 4 x.b.length dapx], .agg [.sl 2 ar 0 2 r.c.length capr, .sl 3 br 0 2 r.x.length dapr], .agg [.int .i64 n.x, .int .i64 n.y]] [⟨ax, false, .ro, .cx x.a⟩, ⟨bx, false, .ro, .cx x.b⟩, ⟨ar, false, .ro, .rx r.c⟩, ⟨br, false, .ro, .rx r.x⟩] (fun v => den v = .bool true) (⟨⟨rfl, rfl, rfl, posx⟩, ⟨⟨rfl, rfl, rfl, qosx⟩, ⟨⟨rfl, rfl, rfl, posr⟩, ⟨⟨rfl, rfl, rfl, qosr⟩, ⟨⟨⟨i_x.2.2.1, i_x.2.2.2⟩, i_r, i_n.1, i_n.2⟩, rfl⟩⟩⟩⟩⟩)
  refine (hc W (fun _ hb => by simp only [List.mem_cons, List.not_mem_nil, or_false] at hb; rcases hb with rfl | rfl | rfl | rfl <;> first | exact b_x | exact bb_x | exact b_r | exact bb_r)).mono fun e W' ⟨he, hb⟩ => ⟨_, by rw [he, hv], law_step (tb := 4) laidOut (by kernel_rfl) rfl Tryz.underlying4 rfl (fun ds hl => ?_) hW' hb⟩
  match ds, hl with
  | [_, _, _], _ => exact ⟨rfl, rfl, rfl⟩
theorem phaseRuns_holds : Rows.PhaseRunsSaid :=
  OpenClaim.holds_of_wide 3 Tryz.f3 rfl rfl rfl rfl rfl rfl rfl ⟨rfl, rfl, rfl, rfl, rfl⟩ rfl rfl rfl rfl rfl (by kernel_rfl) Tryz.func3 (by kernel_rfl)
    (of_decide_eq_true (by kernel_rfl)) (by unfold Func.isWrapper; rw [if_neg (of_decide_eq_false (by kernel_rfl))]; exact ⟨rfl, rfl⟩)
    (fun os started H enc _ => phaseRuns_lifted os started H enc)
#print axioms phaseRuns_holds
end Go.Proofs.YtokeaplbmlpkdaaGreat
