/-
  FieldSpreads: Spread and Picture of the program are those of the reference; Spread is 0 exactly if all cells have the same mass.
-/
import Derived.Test.YtfoacdhlfaonaaaKFieldSpreads
import Derived.Test.YtfoacdhlfaonaaaSyO
import Derived.Test.YtfoacdhlfaonaaaRows
set_option linter.unusedSimpArgs false
set_option linter.unusedVariables false
namespace Go.Proofs.Ytfoacdhlfaonaaa
open Go.Sy Go.RowKit Go.ChangeShapes Go.WideShapes Go.ChangeAt

theorem own : ownKnob Try.prog.godebug = none := by kernel_rfl
theorem laidOut : laidOutB Try.prog = true := by kernel_rfl
set_option maxRecDepth 100000 in
theorem fieldSpreads_lifted (os : Os) (started : os.Started) (H : Type) (enc : TypeId × Value → H) :
    ReturnsInHanded {} Try.checked os 3 .any (Rows.fieldSpreadsSpec.pre6 enc Try.prog Try.f3 Rows.fieldSpreadsRow.domain false) (Rows.fieldSpreadsSpec.post enc Try.prog Try.f3 false true false false) := by
  refine returnsInHanded_of_change (C := Try.checked) own started (by kernel_rfl) Try.func3
    (ChangeSpec.witness6 (enc := enc) (C := Try.checked) false ⟨#[], #[.agg #[.int .i64 0, .int .i64 0, .slice none 0 0]], []⟩ 8 (by kernel_rfl) (by kernel_rfl) (by kernel_rfl) (by kernel_rfl)) ?_
  intro W base args ds gs before hval0 hW hcnd _
  have hval : ∀ (j : Nat) t v, Try.f3.params[j]? = some t → args[j]? = some v → Value.okWide Try.prog W .any base t v := hval0
  have hW' := hW
  obtain ⟨p, q, hA0, hV, rfl, hfz, hnd⟩ := hW
  have hA : DataW.TrodAll enc Try.prog W 0 (fun _ => true) true Try.f3.params.toList args.toList ds p := hA0
  rw [Try.params3] at hA hval
  obtain ⟨v0, vs0, d0, ds0, p0, q0, hargs, rfl, rfl, h0, r0⟩ := trodAll_cons hA
  obtain ⟨rfl, rfl, rfl⟩ := trodAll_nil r0
  obtain rfl : args = #[v0] := by apply Array.ext'; exact hargs
  obtain ⟨g, ag, capg, rfl, i_g, posg, b_g⟩ := open_grd (t := 24) (by kernel_rfl) (by kernel_rfl) (hval 0 24 _ rfl rfl) h0
  obtain ⟨v, hv, hc⟩ := k_lawH_FieldSpreads.get ⟨_, Try.func3, (by kernel_rfl), rfl⟩ [.agg [.int .i64 g.w, .int .i64 g.h, .sl 0 ag 0 4 g.cs.length capg]] [⟨ag, false, .ro, .cx g.cs⟩] (fun v => den v = .bool true) (⟨⟨rfl, rfl, rfl, posg⟩, ⟨Nat.le_trans i_g.2.2.1 i_g.2.2.2, rfl⟩⟩)
  refine (hc W (fun _ hb => by rw [List.mem_singleton] at hb; subst hb; exact b_g)).mono fun e W' ⟨he, hb⟩ => ⟨_, by rw [he, hv], law_step (tb := 4) laidOut (by kernel_rfl) rfl Try.underlying4 rfl (fun ds hl => ?_) hW' hb⟩
  match ds, hl with
  | [_], _ => exact ⟨rfl, rfl, rfl⟩
theorem fieldSpreads_holds : Rows.FieldSpreadsSaid :=
  OpenClaim.holds_of_wide 3 Try.f3 rfl rfl rfl rfl rfl rfl rfl ⟨rfl, rfl, rfl, rfl, rfl⟩ rfl rfl rfl rfl rfl (by kernel_rfl) Try.func3 (by kernel_rfl)
    (of_decide_eq_true (by kernel_rfl)) (by unfold Func.isWrapper; rw [if_neg (of_decide_eq_false (by kernel_rfl))]; exact ⟨rfl, rfl⟩)
    (fun os started H enc _ => fieldSpreads_lifted os started H enc)
#print axioms fieldSpreads_holds
end Go.Proofs.Ytfoacdhlfaonaaa
