/-
  PhaseExchanges: Exchange and Unexchange of the program are those of the reference; each keeps the masses and the momentum, and is undone.
-/
import Derived.Test.YtcagdjbinkadpaaKPhaseExchanges
import Derived.Test.YtcagdjbinkadpaaSyR
import Derived.Test.YtcagdjbinkadpaaRows
set_option linter.unusedSimpArgs false
set_option linter.unusedVariables false
namespace Go.Proofs.Ytcagdjbinkadpaa
open Go.Sy Go.RowKit Go.ChangeShapes Go.WideShapes Go.ChangeAt

theorem own : ownKnob Try.prog.godebug = none := by kernel_rfl
theorem laidOut : laidOutB Try.prog = true := by kernel_rfl
set_option maxRecDepth 100000 in
theorem phaseExchanges_lifted (os : Os) (started : os.Started) (H : Type) (enc : TypeId × Value → H) :
    ReturnsInHanded {} Try.checked os 12 .any (Rows.phaseExchangesSpec.pre6 enc Try.prog Try.f12 Rows.phaseExchangesRow.domain false) (Rows.phaseExchangesSpec.post enc Try.prog Try.f12 false true false false) := by
  refine returnsInHanded_of_change (C := Try.checked) own started (by kernel_rfl) Try.func12
    (ChangeSpec.witness6 (enc := enc) (C := Try.checked) false ⟨#[], #[.agg #[.int .i64 0, .int .i64 0, .int .i64 0, .int .i64 0, .int .i64 0, .int .i64 0, .int .i64 0, .int .i64 0], .agg #[.int .i64 0, .int .i64 0], .int .i64 0], []⟩ 8 (by kernel_rfl) (by kernel_rfl) (by kernel_rfl) (by kernel_rfl)) ?_
  intro W base args ds gs before hval0 hW hcnd _
  have hval : ∀ (j : Nat) t v, Try.f12.params[j]? = some t → args[j]? = some v → Value.okWide Try.prog W .any base t v := hval0
  have hW' := hW
  obtain ⟨p, q, hA0, hV, rfl, hfz, hnd⟩ := hW
  have hA : DataW.TrodAll enc Try.prog W 0 (fun _ => true) true Try.f12.params.toList args.toList ds p := hA0
  rw [Try.params12] at hA hval
  obtain ⟨v0, vs0, d0, ds0, p0, q0, hargs, rfl, rfl, h0, r0⟩ := trodAll_cons hA
  obtain ⟨v1, vs1, d1, ds1, p1, q1, rfl, rfl, rfl, h1, r1⟩ := trodAll_cons r0
  obtain ⟨v2, vs2, d2, ds2, p2, q2, rfl, rfl, rfl, h2, r2⟩ := trodAll_cons r1
  obtain ⟨rfl, rfl, rfl⟩ := trodAll_nil r2
  obtain rfl : args = #[v0, v1, v2] := by apply Array.ext'; exact hargs
  obtain ⟨x, rfl, i_x⟩ := open_cc (t := 56) (by kernel_rfl) (by kernel_rfl) (hval 0 56 _ rfl rfl) h0
  obtain ⟨r, rfl, i_r⟩ := open_rul (t := 25) (by kernel_rfl) (by kernel_rfl) (hval 1 25 _ rfl rfl) h1
  obtain ⟨k, rfl, rfl, rfl, wfk⟩ := open_int Try.underlying3 (hval 2 3 _ rfl rfl) h2
  have i_k := wf_I64 wfk
  obtain ⟨v, hv, hc⟩ := k_lawD_PhaseExchanges.ok [.agg [.int .i64 x.a.e, .int .i64 x.a.n, .int .i64 x.a.w, .int .i64 x.a.s, .int .i64 x.b.e, .int .i64 x.b.n, .int .i64 x.b.w, .int .i64 x.b.s], Rul.sv r, .int .i64 k] [] (fun v => den v = .bool true) (⟨i_k, rfl⟩)
  refine (hc W (fun _ hb => by cases hb)).mono fun e W' ⟨he, hb⟩ => ⟨_, by rw [he, hv], law_step (tb := 4) laidOut (by kernel_rfl) rfl Try.underlying4 rfl (fun ds hl => ?_) hW' hb⟩
  match ds, hl with
  | [_, _, _], _ => exact ⟨rfl, rfl, rfl⟩
theorem phaseExchanges_holds : Rows.PhaseExchangesSaid :=
  OpenClaim.holds_of_wide 12 Try.f12 rfl rfl rfl rfl rfl rfl rfl ⟨rfl, rfl, rfl, rfl, rfl⟩ rfl rfl rfl rfl rfl (by kernel_rfl) Try.func12 (by kernel_rfl)
    (of_decide_eq_true (by kernel_rfl)) (by unfold Func.isWrapper; rw [if_neg (of_decide_eq_false (by kernel_rfl))]; exact ⟨rfl, rfl⟩)
    (fun os started H enc _ => phaseExchanges_lifted os started H enc)
#print axioms phaseExchanges_holds
end Go.Proofs.Ytcagdjbinkadpaa
