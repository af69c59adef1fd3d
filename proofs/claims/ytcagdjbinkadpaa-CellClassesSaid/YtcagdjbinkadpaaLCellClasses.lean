/-
  CellClasses: Norm, Place and Of of the program are those of the reference; a cell is that of its class at its place.
-/
import Derived.Test.YtcagdjbinkadpaaKCellClasses
import Derived.Test.YtcagdjbinkadpaaSyR
import Derived.Test.YtcagdjbinkadpaaRows
set_option linter.unusedSimpArgs false
set_option linter.unusedVariables false
namespace Go.Proofs.Ytcagdjbinkadpaa
open Go.Sy Go.RowKit Go.ChangeShapes Go.WideShapes Go.ChangeAt

theorem own : ownKnob Try.prog.godebug = none := by kernel_rfl
theorem laidOut : laidOutB Try.prog = true := by kernel_rfl
set_option maxRecDepth 100000 in
theorem cellClasses_lifted (os : Os) (started : os.Started) (H : Type) (enc : TypeId × Value → H) :
    ReturnsInHanded {} Try.checked os 11 .any (Rows.cellClassesSpec.pre6 enc Try.prog Try.f11 Rows.cellClassesRow.domain false) (Rows.cellClassesSpec.post enc Try.prog Try.f11 false true false false) := by
  refine returnsInHanded_of_change (C := Try.checked) own started (by kernel_rfl) Try.func11
    (ChangeSpec.witness6 (enc := enc) (C := Try.checked) false ⟨#[], #[.agg #[.int .i64 0, .int .i64 0, .int .i64 0, .int .i64 0], .agg #[.int .i64 0, .int .i64 0, .int .i64 0, .int .i64 0]], []⟩ 8 (by kernel_rfl) (by kernel_rfl) (by kernel_rfl) (by kernel_rfl)) ?_
  intro W base args ds gs before hval0 hW hcnd _
  have hval : ∀ (j : Nat) t v, Try.f11.params[j]? = some t → args[j]? = some v → Value.okWide Try.prog W .any base t v := hval0
  have hW' := hW
  obtain ⟨p, q, hA0, hV, rfl, hfz, hnd⟩ := hW
  have hA : DataW.TrodAll enc Try.prog W 0 (fun _ => true) true Try.f11.params.toList args.toList ds p := hA0
  rw [Try.params11] at hA hval
  obtain ⟨v0, vs0, d0, ds0, p0, q0, hargs, rfl, rfl, h0, r0⟩ := trodAll_cons hA
  obtain ⟨v1, vs1, d1, ds1, p1, q1, rfl, rfl, rfl, h1, r1⟩ := trodAll_cons r0
  obtain ⟨rfl, rfl, rfl⟩ := trodAll_nil r1
  obtain rfl : args = #[v0, v1] := by apply Array.ext'; exact hargs
  obtain ⟨c, rfl, i_c⟩ := open_cel (t := 23) (by kernel_rfl) (by kernel_rfl) (hval 0 23 _ rfl rfl) h0
  obtain ⟨n, rfl, i_n⟩ := open_cel (t := 22) (by kernel_rfl) (by kernel_rfl) (hval 1 22 _ rfl rfl) h1
  obtain ⟨v, hv, hc⟩ := k_lawA_CellClasses.ok [Cel.sv c, Cel.sv n] [] (fun v => den v = .bool true) (⟨i_n, rfl⟩)
  refine (hc W (fun _ hb => by cases hb)).mono fun e W' ⟨he, hb⟩ => ⟨_, by rw [he, hv], law_step (tb := 4) laidOut (by kernel_rfl) rfl Try.underlying4 rfl (fun ds hl => ?_) hW' hb⟩
  match ds, hl with
  | [_, _], _ => exact ⟨rfl, rfl, rfl⟩
theorem cellClasses_holds : Rows.CellClassesSaid :=
  OpenClaim.holds_of_wide 11 Try.f11 rfl rfl rfl rfl rfl rfl rfl ⟨rfl, rfl, rfl, rfl, rfl⟩ rfl rfl rfl rfl rfl (by kernel_rfl) Try.func11 (by kernel_rfl)
    (of_decide_eq_true (by kernel_rfl)) (by unfold Func.isWrapper; rw [if_neg (of_decide_eq_false (by kernel_rfl))]; exact ⟨rfl, rfl⟩)
    (fun os started H enc _ => cellClasses_lifted os started H enc)
#print axioms cellClasses_holds
end Go.Proofs.Ytcagdjbinkadpaa
