/-
  TopReversed: A run by turning pairs is undone by reversing, streaming step by step and colliding, and reversing again.
-/
import Derived.Test.YtbcajalaopjmdaaKTopReversed
import Derived.Test.YtbcajalaopjmdaaSyO
import Derived.Test.YtbcajalaopjmdaaRows
set_option linter.unusedSimpArgs false
set_option linter.unusedVariables false
namespace Go.Proofs.Ytbcajalaopjmdaa
open Go.Sy Go.RowKit Go.ChangeShapes Go.WideShapes Go.ChangeAt

theorem own : ownKnob Try.prog.godebug = none := by kernel_rfl
theorem laidOut : laidOutB Try.prog = true := by kernel_rfl
set_option maxRecDepth 100000 in
theorem topReversed_lifted (os : Os) (started : os.Started) (H : Type) (enc : TypeId × Value → H) :
    ReturnsInHanded {} Try.checked os 13 .any (Rows.topReversedSpec.pre6 enc Try.prog Try.f13 Rows.topReversedRow.domain false) (Rows.topReversedSpec.post enc Try.prog Try.f13 false true false false) := by
  refine returnsInHanded_of_change (C := Try.checked) own started (by kernel_rfl) Try.func13
    (ChangeSpec.witness6 (enc := enc) (C := Try.checked) false ⟨#[], #[.agg #[.int .i64 0, .int .i64 0, .slice none 0 0], .agg #[.int .i64 0, .int .i64 0], .int .i64 0], []⟩ 8 (by kernel_rfl) (by kernel_rfl) (by kernel_rfl) (by kernel_rfl)) ?_
  intro W base args ds gs before hval0 hW hcnd _
  have hval : ∀ (j : Nat) t v, Try.f13.params[j]? = some t → args[j]? = some v → Value.okWide Try.prog W .any base t v := hval0
  have hW' := hW
  obtain ⟨p, q, hA0, hV, rfl, hfz, hnd⟩ := hW
  have hA : DataW.TrodAll enc Try.prog W 0 (fun _ => true) true Try.f13.params.toList args.toList ds p := hA0
  rw [Try.params13] at hA hval
  obtain ⟨v0, vs0, d0, ds0, p0, q0, hargs, rfl, rfl, h0, r0⟩ := trodAll_cons hA
  obtain ⟨v1, vs1, d1, ds1, p1, q1, rfl, rfl, rfl, h1, r1⟩ := trodAll_cons r0
  obtain ⟨v2, vs2, d2, ds2, p2, q2, rfl, rfl, rfl, h2, r2⟩ := trodAll_cons r1
  obtain ⟨rfl, rfl, rfl⟩ := trodAll_nil r2
  obtain rfl : args = #[v0, v1, v2] := by apply Array.ext'; exact hargs
  obtain ⟨g, ag, capg, rfl, i_g, posg, b_g⟩ := open_grd (t := 24) (by kernel_rfl) (by kernel_rfl) (hval 0 24 _ rfl rfl) h0
  obtain ⟨r, rfl, i_r⟩ := open_rul (t := 45) (by kernel_rfl) (by kernel_rfl) (hval 1 45 _ rfl rfl) h1
  obtain ⟨n, rfl, rfl, rfl, wfn⟩ := open_int Try.underlying3 (hval 2 3 _ rfl rfl) h2
  have i_n := wf_I64 wfn
  obtain ⟨v, hv, hc⟩ := k_top_TopReversed.ok [.agg [.int .i64 g.w, .int .i64 g.h, .sl 0 ag 0 4 g.cs.length capg], Rul.sv r, .int .i64 n] [⟨ag, false, .ro, .cx g.cs⟩] (fun v => den v = .bool true) (⟨⟨rfl, rfl, rfl, posg⟩, ⟨⟨Nat.le_trans i_g.2.2.1 i_g.2.2.2, i_n⟩, rfl⟩⟩)
  refine (hc W (fun _ hb => by rw [List.mem_singleton] at hb; subst hb; exact b_g)).mono fun e W' ⟨he, hb⟩ => ⟨_, by rw [he, hv], law_step (tb := 4) laidOut (by kernel_rfl) rfl Try.underlying4 rfl (fun ds hl => ?_) hW' hb⟩
  match ds, hl with
  | [_, _, _], _ => exact ⟨rfl, rfl, rfl⟩
theorem topReversed_holds : Rows.TopReversedSaid :=
  OpenClaim.holds_of_wide 13 Try.f13 rfl rfl rfl rfl rfl rfl rfl ⟨rfl, rfl, rfl, rfl, rfl⟩ rfl rfl rfl rfl rfl (by kernel_rfl) Try.func13 (by kernel_rfl)
    (of_decide_eq_true (by kernel_rfl)) (by unfold Func.isWrapper; rw [if_neg (of_decide_eq_false (by kernel_rfl))]; exact ⟨rfl, rfl⟩)
    (fun os started H enc _ => topReversed_lifted os started H enc)
#print axioms topReversed_holds
end Go.Proofs.Ytbcajalaopjmdaa
