/-
  GridAdds: Added and Differ of the program are those of the reference; two grids differ nowhere exactly if they are the same.
-/
import Derived.Test.YtbcajalaopjmdaaKGridAdds
import Derived.Test.YtbcajalaopjmdaaSyO
import Derived.Test.YtbcajalaopjmdaaRows
set_option linter.unusedSimpArgs false
set_option linter.unusedVariables false
namespace Go.Proofs.Ytbcajalaopjmdaa
open Go.Sy Go.RowKit Go.ChangeShapes Go.WideShapes Go.ChangeAt

theorem own : ownKnob Try.prog.godebug = none := by kernel_rfl
theorem laidOut : laidOutB Try.prog = true := by kernel_rfl
set_option maxRecDepth 100000 in
theorem gridAdds_lifted (os : Os) (started : os.Started) (H : Type) (enc : TypeId × Value → H) :
    ReturnsInHanded {} Try.checked os 5 .any (Rows.gridAddsSpec.pre6 enc Try.prog Try.f5 Rows.gridAddsRow.domain false) (Rows.gridAddsSpec.post enc Try.prog Try.f5 false true false false) := by
  refine returnsInHanded_of_change (C := Try.checked) own started (by kernel_rfl) Try.func5
    (ChangeSpec.witness6 (enc := enc) (C := Try.checked) false ⟨#[], #[.agg #[.int .i64 0, .int .i64 0, .slice none 0 0], .agg #[.int .i64 0, .int .i64 0, .slice none 0 0]], []⟩ 8 (by kernel_rfl) (by kernel_rfl) (by kernel_rfl) (by kernel_rfl)) ?_
  intro W base args ds gs before hval0 hW hcnd _
  have hval : ∀ (j : Nat) t v, Try.f5.params[j]? = some t → args[j]? = some v → Value.okWide Try.prog W .any base t v := hval0
  have hW' := hW
  obtain ⟨p, q, hA0, hV, rfl, hfz, hnd⟩ := hW
  have hA : DataW.TrodAll enc Try.prog W 0 (fun _ => true) true Try.f5.params.toList args.toList ds p := hA0
  rw [Try.params5] at hA hval
  obtain ⟨v0, vs0, d0, ds0, p0, q0, hargs, rfl, rfl, h0, r0⟩ := trodAll_cons hA
  obtain ⟨v1, vs1, d1, ds1, p1, q1, rfl, rfl, rfl, h1, r1⟩ := trodAll_cons r0
  obtain ⟨rfl, rfl, rfl⟩ := trodAll_nil r1
  obtain rfl : args = #[v0, v1] := by apply Array.ext'; exact hargs
  obtain ⟨a, aa, capa, rfl, i_a, posa, b_a⟩ := open_grd (t := 24) (by kernel_rfl) (by kernel_rfl) (hval 0 24 _ rfl rfl) h0
  obtain ⟨b, ab, capb, rfl, i_b, posb, b_b⟩ := open_grd (t := 24) (by kernel_rfl) (by kernel_rfl) (hval 1 24 _ rfl rfl) h1
  obtain ⟨v, hv, hc⟩ := k_lawB_GridAdds.ok [.agg [.int .i64 a.w, .int .i64 a.h, .sl 0 aa 0 4 a.cs.length capa], .agg [.int .i64 b.w, .int .i64 b.h, .sl 1 ab 0 4 b.cs.length capb]] [⟨aa, false, .ro, .cx a.cs⟩, ⟨ab, false, .ro, .cx b.cs⟩] (fun v => den v = .bool true) (⟨⟨rfl, rfl, rfl, posa⟩, ⟨⟨rfl, rfl, rfl, posb⟩, ⟨⟨Nat.le_trans i_a.2.2.1 i_a.2.2.2, Nat.le_trans i_b.2.2.1 i_b.2.2.2⟩, rfl⟩⟩⟩)
  refine (hc W (fun _ hb => by simp only [List.mem_cons, List.not_mem_nil, or_false] at hb; rcases hb with rfl | rfl <;> first | exact b_a | exact b_b)).mono fun e W' ⟨he, hb⟩ => ⟨_, by rw [he, hv], law_step (tb := 4) laidOut (by kernel_rfl) rfl Try.underlying4 rfl (fun ds hl => ?_) hW' hb⟩
  match ds, hl with
  | [_, _], _ => exact ⟨rfl, rfl, rfl⟩
theorem gridAdds_holds : Rows.GridAddsSaid :=
  OpenClaim.holds_of_wide 5 Try.f5 rfl rfl rfl rfl rfl rfl rfl ⟨rfl, rfl, rfl, rfl, rfl⟩ rfl rfl rfl rfl rfl (by kernel_rfl) Try.func5 (by kernel_rfl)
    (of_decide_eq_true (by kernel_rfl)) (by unfold Func.isWrapper; rw [if_neg (of_decide_eq_false (by kernel_rfl))]; exact ⟨rfl, rfl⟩)
    (fun os started H enc _ => gridAdds_lifted os started H enc)
#print axioms gridAdds_holds
end Go.Proofs.Ytbcajalaopjmdaa
