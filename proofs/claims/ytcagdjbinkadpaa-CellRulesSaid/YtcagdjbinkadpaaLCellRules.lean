/-
  CellRules: ValidRules and At of the program are those of the reference.
-/
import Derived.Test.YtcagdjbinkadpaaKCellRules
import Derived.Test.YtcagdjbinkadpaaSyO
import Derived.Test.YtcagdjbinkadpaaRows
set_option linter.unusedSimpArgs false
set_option linter.unusedVariables false
namespace Go.Proofs.Ytcagdjbinkadpaa
open Go.Sy Go.RowKit Go.ChangeShapes Go.WideShapes Go.ChangeAt

theorem own : ownKnob Try.prog.godebug = none := by kernel_rfl
theorem laidOut : laidOutB Try.prog = true := by kernel_rfl
set_option maxRecDepth 100000 in
theorem cellRules_lifted (os : Os) (started : os.Started) (H : Type) (enc : TypeId × Value → H) :
    ReturnsInHanded {} Try.checked os 10 .any (Rows.cellRulesSpec.pre6 enc Try.prog Try.f10 Rows.cellRulesRow.domain false) (Rows.cellRulesSpec.post enc Try.prog Try.f10 false true false false) := by
  refine returnsInHanded_of_change (C := Try.checked) own started (by kernel_rfl) Try.func10
    (ChangeSpec.witness6 (enc := enc) (C := Try.checked) false ⟨#[], #[.slice none 0 0, .int .i64 0], []⟩ 8 (by kernel_rfl) (by kernel_rfl) (by kernel_rfl) (by kernel_rfl)) ?_
  intro W base args ds gs before hval0 hW hcnd _
  have hval : ∀ (j : Nat) t v, Try.f10.params[j]? = some t → args[j]? = some v → Value.okWide Try.prog W .any base t v := hval0
  have hW' := hW
  obtain ⟨p, q, hA0, hV, rfl, hfz, hnd⟩ := hW
  have hA : DataW.TrodAll enc Try.prog W 0 (fun _ => true) true Try.f10.params.toList args.toList ds p := hA0
  rw [Try.params10] at hA hval
  obtain ⟨v0, vs0, d0, ds0, p0, q0, hargs, rfl, rfl, h0, r0⟩ := trodAll_cons hA
  obtain ⟨v1, vs1, d1, ds1, p1, q1, rfl, rfl, rfl, h1, r1⟩ := trodAll_cons r0
  obtain ⟨rfl, rfl, rfl⟩ := trodAll_nil r1
  obtain rfl : args = #[v0, v1] := by apply Array.ext'; exact hargs
  obtain ⟨l, al, capl, rfl, le_l, mx_l, posl, b_l⟩ := open_lr Try.underlying49 (by kernel_rfl) (by kernel_rfl) (hval 0 49 _ rfl rfl) h0
  obtain ⟨s, rfl, rfl, rfl, wfs⟩ := open_int Try.underlying3 (hval 1 3 _ rfl rfl) h1
  have i_s := wf_I64 wfs
  obtain ⟨v, hv, hc⟩ := k_lawA_CellRules.ok [.sl 0 al 0 2 l.length capl, .int .i64 s] [⟨al, false, .ro, .rx l⟩] (fun v => den v = .bool true) (⟨⟨rfl, rfl, rfl, posl⟩, ⟨⟨i_s, Nat.le_trans le_l mx_l⟩, rfl⟩⟩)
  refine (hc W (fun _ hb => by rw [List.mem_singleton] at hb; subst hb; exact b_l)).mono fun e W' ⟨he, hb⟩ => ⟨_, by rw [he, hv], law_step (tb := 4) laidOut (by kernel_rfl) rfl Try.underlying4 rfl (fun ds hl => ?_) hW' hb⟩
  match ds, hl with
  | [_, _], _ => exact ⟨rfl, rfl, rfl⟩
theorem cellRules_holds : Rows.CellRulesSaid :=
  OpenClaim.holds_of_wide 10 Try.f10 rfl rfl rfl rfl rfl rfl rfl ⟨rfl, rfl, rfl, rfl, rfl⟩ rfl rfl rfl rfl rfl (by kernel_rfl) Try.func10 (by kernel_rfl)
    (of_decide_eq_true (by kernel_rfl)) (by unfold Func.isWrapper; rw [if_neg (of_decide_eq_false (by kernel_rfl))]; exact ⟨rfl, rfl⟩)
    (fun os started H enc _ => cellRules_lifted os started H enc)
#print axioms cellRules_holds
end Go.Proofs.Ytcagdjbinkadpaa
