/-
  TopCells: A step is what its cells do one by one, streamed.
-/
import Derived.Test.YtbcajalaopjmdaaKTopCells
import Derived.Test.YtbcajalaopjmdaaSyO
import Derived.Test.YtbcajalaopjmdaaRows
set_option linter.unusedSimpArgs false
set_option linter.unusedVariables false
namespace Go.Proofs.Ytbcajalaopjmdaa
open Go.Sy Go.RowKit Go.ChangeShapes Go.WideShapes Go.ChangeAt

theorem own : ownKnob Try.prog.godebug = none := by kernel_rfl
theorem laidOut : laidOutB Try.prog = true := by kernel_rfl
set_option maxRecDepth 100000 in
theorem topCells_lifted (os : Os) (started : os.Started) (H : Type) (enc : TypeId × Value → H) :
    ReturnsInHanded {} Try.checked os 14 .any (Rows.topCellsSpec.pre6 enc Try.prog Try.f14 Rows.topCellsRow.domain false) (Rows.topCellsSpec.post enc Try.prog Try.f14 false true false false) := by
  refine returnsInHanded_of_change (C := Try.checked) own started (by kernel_rfl) Try.func14
    (ChangeSpec.witness6 (enc := enc) (C := Try.checked) false ⟨#[], #[.agg #[.int .i64 0, .int .i64 0, .slice none 0 0], .slice none 0 0, .int .i64 0], []⟩ 8 (by kernel_rfl) (by kernel_rfl) (by kernel_rfl) (by kernel_rfl)) ?_
  intro W base args ds gs before hval0 hW hcnd _
  have hval : ∀ (j : Nat) t v, Try.f14.params[j]? = some t → args[j]? = some v → Value.okWide Try.prog W .any base t v := hval0
  have hW' := hW
  obtain ⟨p, q, hA0, hV, rfl, hfz, hnd⟩ := hW
  have hA : DataW.TrodAll enc Try.prog W 0 (fun _ => true) true Try.f14.params.toList args.toList ds p := hA0
  rw [Try.params14] at hA hval
  obtain ⟨v0, vs0, d0, ds0, p0, q0, hargs, rfl, rfl, h0, r0⟩ := trodAll_cons hA
  obtain ⟨v1, vs1, d1, ds1, p1, q1, rfl, rfl, rfl, h1, r1⟩ := trodAll_cons r0
  obtain ⟨v2, vs2, d2, ds2, p2, q2, rfl, rfl, rfl, h2, r2⟩ := trodAll_cons r1
  obtain ⟨rfl, rfl, rfl⟩ := trodAll_nil r2
  obtain rfl : args = #[v0, v1, v2] := by apply Array.ext'; exact hargs
  obtain ⟨g, ag, capg, rfl, i_g, posg, b_g⟩ := open_grd (t := 24) (by kernel_rfl) (by kernel_rfl) (hval 0 24 _ rfl rfl) h0
  obtain ⟨l, al, capl, rfl, le_l, mx_l, posl, b_l⟩ := open_lr Try.underlying49 (by kernel_rfl) (by kernel_rfl) (hval 1 49 _ rfl rfl) h1
  obtain ⟨t, rfl, rfl, rfl, wft⟩ := open_int Try.underlying3 (hval 2 3 _ rfl rfl) h2
  have i_t := wf_I64 wft
  obtain ⟨v, hv, hc⟩ := k_top_TopCells.ok [.agg [.int .i64 g.w, .int .i64 g.h, .sl 0 ag 0 4 g.cs.length capg], .sl 1 al 0 2 l.length capl, .int .i64 t] [⟨ag, false, .ro, .cx g.cs⟩, ⟨al, false, .ro, .rx l⟩] (fun v => den v = .bool true) (⟨⟨rfl, rfl, rfl, posg⟩, ⟨⟨rfl, rfl, rfl, posl⟩, ⟨⟨Nat.le_trans i_g.2.2.1 i_g.2.2.2, Nat.le_trans le_l mx_l, i_t⟩, rfl⟩⟩⟩)
  refine (hc W (fun _ hb => by simp only [List.mem_cons, List.not_mem_nil, or_false] at hb; rcases hb with rfl | rfl <;> first | exact b_g | exact b_l)).mono fun e W' ⟨he, hb⟩ => ⟨_, by rw [he, hv], law_step (tb := 4) laidOut (by kernel_rfl) rfl Try.underlying4 rfl (fun ds hl => ?_) hW' hb⟩
  match ds, hl with
  | [_, _, _], _ => exact ⟨rfl, rfl, rfl⟩
theorem topCells_holds : Rows.TopCellsSaid :=
  OpenClaim.holds_of_wide 14 Try.f14 rfl rfl rfl rfl rfl rfl rfl ⟨rfl, rfl, rfl, rfl, rfl⟩ rfl rfl rfl rfl rfl (by kernel_rfl) Try.func14 (by kernel_rfl)
    (of_decide_eq_true (by kernel_rfl)) (by unfold Func.isWrapper; rw [if_neg (of_decide_eq_false (by kernel_rfl))]; exact ⟨rfl, rfl⟩)
    (fun os started H enc _ => topCells_lifted os started H enc)
#print axioms topCells_holds
end Go.Proofs.Ytbcajalaopjmdaa
