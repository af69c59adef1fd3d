/-
  CellTurns: Turned and Mirrored of the program are those of the reference; turned pairs turn, and a mirror may be exchanged with any rule.
-/
import Derived.Test.YtcagdjbinkadpaaC3
import Derived.Test.YtcagdjbinkadpaaSxR
import Derived.Test.YtcagdjbinkadpaaRows
set_option linter.unusedSimpArgs false
set_option linter.unusedVariables false
namespace Go.Proofs.Ytcagdjbinkadpaa
open Go.Sx Go.RowKit Go.ChangeShapes Go.WideShapes Go.ChangeAt

theorem own : ownKnob Try.prog.godebug = none := by kernel_rfl
theorem laidOut : laidOutB Try.prog = true := by kernel_rfl
set_option maxRecDepth 100000 in
theorem cellTurns_lifted (os : Os) (started : os.Started) (H : Type) (enc : TypeId × Value → H) :
    ReturnsInHanded {} Try.checked os 5 .any (Rows.cellTurnsSpec.pre6 enc Try.prog Try.f5 Rows.cellTurnsRow.domain false) (Rows.cellTurnsSpec.post enc Try.prog Try.f5 false true false false) := by
  refine returnsInHanded_of_change (C := Try.checked) own started (by kernel_rfl) Try.func5
    (ChangeSpec.witness6 (enc := enc) (C := Try.checked) false ⟨#[], #[.agg #[.int .i64 0, .int .i64 0, .int .i64 0, .int .i64 0], .int .i64 0, .agg #[.int .i64 0, .int .i64 0]], []⟩ 8 (by kernel_rfl) (by kernel_rfl) (by kernel_rfl) (by kernel_rfl)) ?_
  intro W base args ds gs before hval0 hW hcnd _
  have hval : ∀ (j : Nat) t v, Try.f5.params[j]? = some t → args[j]? = some v → Value.okWide Try.prog W .any base t v := hval0
  have hW' := hW
  obtain ⟨p, q, hA0, hV, rfl, hfz, hnd⟩ := hW
  have hA : DataW.TrodAll enc Try.prog W 0 (fun _ => true) true Try.f5.params.toList args.toList ds p := hA0
  rw [Try.params5] at hA hval
  obtain ⟨v0, vs0, d0, ds0, p0, q0, hargs, rfl, rfl, h0, r0⟩ := trodAll_cons hA
  obtain ⟨v1, vs1, d1, ds1, p1, q1, rfl, rfl, rfl, h1, r1⟩ := trodAll_cons r0
  obtain ⟨v2, vs2, d2, ds2, p2, q2, rfl, rfl, rfl, h2, r2⟩ := trodAll_cons r1
  obtain ⟨rfl, rfl, rfl⟩ := trodAll_nil r2
  obtain rfl : args = #[v0, v1, v2] := by apply Array.ext'; exact hargs
  obtain ⟨c, rfl, i_c⟩ := open_cel (t := 23) (by kernel_rfl) (by kernel_rfl) (hval 0 23 _ rfl rfl) h0
  obtain ⟨q, rfl, rfl, rfl, wfq⟩ := open_int Try.underlying3 (hval 1 3 _ rfl rfl) h1
  have i_q := wf_I64 wfq
  obtain ⟨r, rfl, i_r⟩ := open_rul (t := 25) (by kernel_rfl) (by kernel_rfl) (hval 2 25 _ rfl rfl) h2
  obtain ⟨v, hv, hc⟩ := k_lawA_CellTurns.ok [Cel.sv c, .int .i64 q, Rul.sv r] [] (fun v => den v = .bool true) (⟨i_q, rfl⟩)
  refine (hc W W (Holds.start W)).mono fun e W' ⟨he, hb⟩ => ⟨_, by rw [he, hv], law_step (tb := 4) laidOut (by kernel_rfl) rfl Try.underlying4 rfl (fun ds hl => ?_) hW' hb⟩
  match ds, hl with
  | [_, _, _], _ => exact ⟨rfl, rfl, rfl⟩
theorem cellTurns_holds : Rows.CellTurnsSaid :=
  OpenClaim.holds_of_wide 5 Try.f5 rfl rfl rfl rfl rfl rfl rfl ⟨rfl, rfl, rfl, rfl, rfl⟩ rfl rfl rfl rfl rfl (by kernel_rfl) Try.func5 (by kernel_rfl)
    (of_decide_eq_true (by kernel_rfl)) (by unfold Func.isWrapper; rw [if_neg (of_decide_eq_false (by kernel_rfl))]; exact ⟨rfl, rfl⟩)
    (fun os started H enc _ => cellTurns_lifted os started H enc)
#print axioms cellTurns_holds
end Go.Proofs.Ytcagdjbinkadpaa
