/-
  FieldLoops: Circulation and Vortex of the program are those of the reference; where all cells are alike there is no circulation.
-/
import Derived.Test.YtbjgdlmiofgdnaaKFieldLoops
import Derived.Test.YtbjgdlmiofgdnaaSyO
import Derived.Test.YtbjgdlmiofgdnaaRows
set_option linter.unusedSimpArgs false
set_option linter.unusedVariables false
namespace Go.Proofs.Ytbjgdlmiofgdnaa
open Go.Sy Go.RowKit Go.ChangeShapes Go.WideShapes Go.ChangeAt

theorem own : ownKnob Try.prog.godebug = none := by kernel_rfl
theorem laidOut : laidOutB Try.prog = true := by kernel_rfl
set_option maxRecDepth 100000 in
theorem fieldLoops_lifted (os : Os) (started : os.Started) (H : Type) (enc : TypeId × Value → H) :
    ReturnsInHanded {} Try.checked os 5 .any (Rows.fieldLoopsSpec.pre6 enc Try.prog Try.f5 Rows.fieldLoopsRow.domain false) (Rows.fieldLoopsSpec.post enc Try.prog Try.f5 false true false false) := by
  refine returnsInHanded_of_change (C := Try.checked) own started (by kernel_rfl) Try.func5
    (ChangeSpec.witness6 (enc := enc) (C := Try.checked) false ⟨#[], #[.agg #[.int .i64 0, .int .i64 0, .slice none 0 0], .agg #[.int .i64 0, .int .i64 0], .agg #[.int .i64 0, .int .i64 0], .int .i64 0], []⟩ 8 (by kernel_rfl) (by kernel_rfl) (by kernel_rfl) (by kernel_rfl)) ?_
  intro W base args ds gs before hval0 hW hcnd _
  have hval : ∀ (j : Nat) t v, Try.f5.params[j]? = some t → args[j]? = some v → Value.okWide Try.prog W .any base t v := hval0
  have hW' := hW
  obtain ⟨p, q, hA0, hV, rfl, hfz, hnd⟩ := hW
  have hA : DataW.TrodAll enc Try.prog W 0 (fun _ => true) true Try.f5.params.toList args.toList ds p := hA0
  rw [Try.params5] at hA hval
  obtain ⟨v0, vs0, d0, ds0, p0, q0, hargs, rfl, rfl, h0, r0⟩ := trodAll_cons hA
  obtain ⟨v1, vs1, d1, ds1, p1, q1, rfl, rfl, rfl, h1, r1⟩ := trodAll_cons r0
  obtain ⟨v2, vs2, d2, ds2, p2, q2, rfl, rfl, rfl, h2, r2⟩ := trodAll_cons r1
  obtain ⟨v3, vs3, d3, ds3, p3, q3, rfl, rfl, rfl, h3, r3⟩ := trodAll_cons r2
  obtain ⟨rfl, rfl, rfl⟩ := trodAll_nil r3
  obtain rfl : args = #[v0, v1, v2, v3] := by apply Array.ext'; exact hargs
  obtain ⟨g, ag, capg, rfl, i_g, posg, b_g⟩ := open_grd (t := 24) (by kernel_rfl) (by kernel_rfl) (hval 0 24 _ rfl rfl) h0
  obtain ⟨a, rfl, i_a⟩ := open_pnt (t := 26) (by kernel_rfl) (by kernel_rfl) (hval 1 26 _ rfl rfl) h1
  obtain ⟨d, rfl, i_d⟩ := open_pnt (t := 26) (by kernel_rfl) (by kernel_rfl) (hval 2 26 _ rfl rfl) h2
  obtain ⟨side, rfl, rfl, rfl, wfside⟩ := open_int Try.underlying3 (hval 3 3 _ rfl rfl) h3
  have i_side := wf_I64 wfside
  obtain ⟨v, hv, hc⟩ := k_lawH_FieldLoops.get ⟨_, Try.func5, (by kernel_rfl), rfl⟩ [.agg [.int .i64 g.w, .int .i64 g.h, .sl 0 ag 0 4 g.cs.length capg], .agg [.int .i64 a.x, .int .i64 a.y], .agg [.int .i64 d.x, .int .i64 d.y], .int .i64 side] [⟨ag, false, .ro, .cx g.cs⟩] (fun v => den v = .bool true) (⟨⟨rfl, rfl, rfl, posg⟩, ⟨⟨Nat.le_trans i_g.2.2.1 i_g.2.2.2, i_side⟩, rfl⟩⟩)
  refine (hc W (fun _ hb => by rw [List.mem_singleton] at hb; subst hb; exact b_g)).mono fun e W' ⟨he, hb⟩ => ⟨_, by rw [he, hv], law_step (tb := 4) laidOut (by kernel_rfl) rfl Try.underlying4 rfl (fun ds hl => ?_) hW' hb⟩
  match ds, hl with
  | [_, _, _, _], _ => exact ⟨rfl, rfl, rfl⟩
theorem fieldLoops_holds : Rows.FieldLoopsSaid :=
  OpenClaim.holds_of_wide 5 Try.f5 rfl rfl rfl rfl rfl rfl rfl ⟨rfl, rfl, rfl, rfl, rfl⟩ rfl rfl rfl rfl rfl (by kernel_rfl) Try.func5 (by kernel_rfl)
    (of_decide_eq_true (by kernel_rfl)) (by unfold Func.isWrapper; rw [if_neg (of_decide_eq_false (by kernel_rfl))]; exact ⟨rfl, rfl⟩)
    (fun os started H enc _ => fieldLoops_lifted os started H enc)
#print axioms fieldLoops_holds
end Go.Proofs.Ytbjgdlmiofgdnaa
