/-
  GaugeSpans: ValidSpan, Valid, Tells, Blurred, Has and Joined of the program are those of the reference; a blurred gauge has what the sharp one tells.
-/
import Derived.Test.YtjkdbnccgaheeaaKGaugeSpans
import Derived.Test.YtjkdbnccgaheeaaSyO
import Derived.Test.YtjkdbnccgaheeaaRows
set_option linter.unusedSimpArgs false
set_option linter.unusedVariables false
namespace Go.Proofs.Ytjkdbnccgaheeaa
open Go.Sy Go.RowKit Go.ChangeShapes Go.WideShapes Go.ChangeAt

theorem own : ownKnob Try.prog.godebug = none := by kernel_rfl
theorem laidOut : laidOutB Try.prog = true := by kernel_rfl
set_option maxRecDepth 100000 in
theorem gaugeSpans_lifted (os : Os) (started : os.Started) (H : Type) (enc : TypeId × Value → H) :
    ReturnsInHanded {} Try.checked os 3 .any (Rows.gaugeSpansSpec.pre6 enc Try.prog Try.f3 Rows.gaugeSpansRow.domain false) (Rows.gaugeSpansSpec.post enc Try.prog Try.f3 false true false false) := by
  refine returnsInHanded_of_change (C := Try.checked) own started (by kernel_rfl) Try.func3
    (ChangeSpec.witness6 (enc := enc) (C := Try.checked) false ⟨#[], #[.agg #[.int .i64 0, .int .i64 0, .int .i64 0, .int .i64 0, .int .i64 0, .int .i64 0, .int .i64 0, .int .i64 0, .int .i64 0, .int .i64 0], .agg #[.int .i64 0, .int .i64 0, .int .i64 0, .int .i64 0, .int .i64 0, .int .i64 0, .int .i64 0, .int .i64 0, .int .i64 0, .int .i64 0], .int .i64 0, .int .i64 0], []⟩ 8 (by kernel_rfl) (by kernel_rfl) (by kernel_rfl) (by kernel_rfl)) ?_
  intro W base args ds gs before hval0 hW hcnd _
  have hval : ∀ (j : Nat) t v, Try.f3.params[j]? = some t → args[j]? = some v → Value.okWide Try.prog W .any base t v := hval0
  have hW' := hW
  obtain ⟨p, q, hA0, hV, rfl, hfz, hnd⟩ := hW
  have hA : DataW.TrodAll enc Try.prog W 0 (fun _ => true) true Try.f3.params.toList args.toList ds p := hA0
  rw [Try.params3] at hA hval
  obtain ⟨v0, vs0, d0, ds0, p0, q0, hargs, rfl, rfl, h0, r0⟩ := trodAll_cons hA
  obtain ⟨v1, vs1, d1, ds1, p1, q1, rfl, rfl, rfl, h1, r1⟩ := trodAll_cons r0
  obtain ⟨v2, vs2, d2, ds2, p2, q2, rfl, rfl, rfl, h2, r2⟩ := trodAll_cons r1
  obtain ⟨v3, vs3, d3, ds3, p3, q3, rfl, rfl, rfl, h3, r3⟩ := trodAll_cons r2
  obtain ⟨rfl, rfl, rfl⟩ := trodAll_nil r3
  obtain rfl : args = #[v0, v1, v2, v3] := by apply Array.ext'; exact hargs
  obtain ⟨u, rfl, i_u⟩ := open_gau (t := 25) (by kernel_rfl) (by kernel_rfl) (hval 0 25 _ rfl rfl) h0
  obtain ⟨v, rfl, i_v⟩ := open_gau (t := 25) (by kernel_rfl) (by kernel_rfl) (hval 1 25 _ rfl rfl) h1
  obtain ⟨q, rfl, rfl, rfl, wfq⟩ := open_int Try.underlying3 (hval 2 3 _ rfl rfl) h2
  have i_q := wf_I64 wfq
  obtain ⟨n, rfl, rfl, rfl, wfn⟩ := open_int Try.underlying3 (hval 3 3 _ rfl rfl) h3
  have i_n := wf_I64 wfn
  obtain ⟨v, hv, hc⟩ := k_lawG_GaugeSpans.get ⟨_, Try.func3, (by kernel_rfl), rfl⟩ [.agg [.int .i64 u.f, .int .i64 u.t, .int .i64 u.bl, .int .i64 u.bh, .int .i64 u.il, .int .i64 u.ih, .int .i64 u.ol, .int .i64 u.oh, .int .i64 u.al, .int .i64 u.ah], .agg [.int .i64 v.f, .int .i64 v.t, .int .i64 v.bl, .int .i64 v.bh, .int .i64 v.il, .int .i64 v.ih, .int .i64 v.ol, .int .i64 v.oh, .int .i64 v.al, .int .i64 v.ah], .int .i64 q, .int .i64 n] [] (fun v => den v = .bool true) (⟨⟨i_q, i_n⟩, rfl⟩)
  refine (hc W (fun _ hb => by cases hb)).mono fun e W' ⟨he, hb⟩ => ⟨_, by rw [he, hv], law_step (tb := 4) laidOut (by kernel_rfl) rfl Try.underlying4 rfl (fun ds hl => ?_) hW' hb⟩
  match ds, hl with
  | [_, _, _, _], _ => exact ⟨rfl, rfl, rfl⟩
theorem gaugeSpans_holds : Rows.GaugeSpansSaid :=
  OpenClaim.holds_of_wide 3 Try.f3 rfl rfl rfl rfl rfl rfl rfl ⟨rfl, rfl, rfl, rfl, rfl⟩ rfl rfl rfl rfl rfl (by kernel_rfl) Try.func3 (by kernel_rfl)
    (of_decide_eq_true (by kernel_rfl)) (by unfold Func.isWrapper; rw [if_neg (of_decide_eq_false (by kernel_rfl))]; exact ⟨rfl, rfl⟩)
    (fun os started H enc _ => gaugeSpans_lifted os started H enc)
#print axioms gaugeSpans_holds
end Go.Proofs.Ytjkdbnccgaheeaa
