/-
  PhaseEven: On a grid each of whose cells is of A or of B the interface has an even number of pairs.
-/
import Derived.Test.YtghflfilemhaoaaKPhaseEven
import Derived.Test.YtghflfilemhaoaaSyO
import Derived.Test.YtghflfilemhaoaaRows
set_option linter.unusedSimpArgs false
set_option linter.unusedVariables false
namespace Go.Proofs.Ytghflfilemhaoaa
open Go.Sy Go.RowKit Go.ChangeShapes Go.WideShapes Go.ChangeAt

theorem own : ownKnob Try.prog.godebug = none := by kernel_rfl
theorem laidOut : laidOutB Try.prog = true := by kernel_rfl
set_option maxRecDepth 100000 in
theorem phaseEven_lifted (os : Os) (started : os.Started) (H : Type) (enc : TypeId × Value → H) :
    ReturnsInHanded {} Try.checked os 3 .any (Rows.phaseEvenSpec.pre6 enc Try.prog Try.f3 Rows.phaseEvenRow.domain false) (Rows.phaseEvenSpec.post enc Try.prog Try.f3 false true false false) := by
  refine returnsInHanded_of_change (C := Try.checked) own started (by kernel_rfl) Try.func3
    (ChangeSpec.witness6 (enc := enc) (C := Try.checked) false ⟨#[], #[.agg #[.int .i64 0, .int .i64 0, .slice none 0 0, .slice none 0 0]], []⟩ 8 (by kernel_rfl) (by kernel_rfl) (by kernel_rfl) (by kernel_rfl)) ?_
  intro W base args ds gs before hval0 hW hcnd _
  have hval : ∀ (j : Nat) t v, Try.f3.params[j]? = some t → args[j]? = some v → Value.okWide Try.prog W .any base t v := hval0
  have hW' := hW
  obtain ⟨p, q, hA0, hV, rfl, hfz, hnd⟩ := hW
  have hA : DataW.TrodAll enc Try.prog W 0 (fun _ => true) true Try.f3.params.toList args.toList ds p := hA0
  rw [Try.params3] at hA hval
  obtain ⟨v0, vs0, d0, ds0, p0, q0, hargs, rfl, rfl, h0, r0⟩ := trodAll_cons hA
  obtain ⟨rfl, rfl, rfl⟩ := trodAll_nil r0
  obtain rfl : args = #[v0] := by apply Array.ext'; exact hargs
  obtain ⟨x, ax, capx, bx, dapx, rfl, i_x, posx, qosx, b_x, bb_x⟩ := open_mix (t := 24) (by kernel_rfl) (by kernel_rfl) (hval 0 24 _ rfl rfl) h0
  obtain ⟨v, hv, hc⟩ := k_lawD_PhaseEven.ok [.agg [.int .i64 x.w, .int .i64 x.h, .sl 0 ax 0 4 x.a.length capx, .sl 1 bx 0 4 x.b.length dapx]] [⟨ax, false, .ro, .cx x.a⟩, ⟨bx, false, .ro, .cx x.b⟩] (fun v => den v = .bool true) (⟨⟨rfl, rfl, rfl, posx⟩, ⟨⟨rfl, rfl, rfl, qosx⟩, ⟨⟨i_x.2.2.1, i_x.2.2.2⟩, rfl⟩⟩⟩)
  refine (hc W (fun _ hb => by simp only [List.mem_cons, List.not_mem_nil, or_false] at hb; rcases hb with rfl | rfl <;> first | exact b_x | exact bb_x)).mono fun e W' ⟨he, hb⟩ => ⟨_, by rw [he, hv], law_step (tb := 4) laidOut (by kernel_rfl) rfl Try.underlying4 rfl (fun ds hl => ?_) hW' hb⟩
  match ds, hl with
  | [_], _ => exact ⟨rfl, rfl, rfl⟩
theorem phaseEven_holds : Rows.PhaseEvenSaid :=
  OpenClaim.holds_of_wide 3 Try.f3 rfl rfl rfl rfl rfl rfl rfl ⟨rfl, rfl, rfl, rfl, rfl⟩ rfl rfl rfl rfl rfl (by kernel_rfl) Try.func3 (by kernel_rfl)
    (of_decide_eq_true (by kernel_rfl)) (by unfold Func.isWrapper; rw [if_neg (of_decide_eq_false (by kernel_rfl))]; exact ⟨rfl, rfl⟩)
    (fun os started H enc _ => phaseEven_lifted os started H enc)
#print axioms phaseEven_holds
end Go.Proofs.Ytghflfilemhaoaa
