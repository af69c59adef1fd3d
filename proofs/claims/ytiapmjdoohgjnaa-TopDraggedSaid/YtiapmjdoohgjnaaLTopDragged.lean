/-
  TopDragged: The momentum of a grid after a run in walls is that before and the drag of all bodies.
-/
import Derived.Test.YtiapmjdoohgjnaaKTopDragged
import Derived.Test.YtiapmjdoohgjnaaSyO
import Derived.Test.YtiapmjdoohgjnaaRows
set_option linter.unusedSimpArgs false
set_option linter.unusedVariables false
namespace Go.Proofs.Ytiapmjdoohgjnaa
open Go.Sy Go.RowKit Go.ChangeShapes Go.WideShapes Go.ChangeAt

theorem own : ownKnob Try.prog.godebug = none := by kernel_rfl
theorem laidOut : laidOutB Try.prog = true := by kernel_rfl
set_option maxRecDepth 100000 in
theorem topDragged_lifted (os : Os) (started : os.Started) (H : Type) (enc : TypeId × Value → H) :
    ReturnsInHanded {} Try.checked os 3 .any (Rows.topDraggedSpec.pre6 enc Try.prog Try.f3 Rows.topDraggedRow.domain false) (Rows.topDraggedSpec.post enc Try.prog Try.f3 false true false false) := by
  refine returnsInHanded_of_change (C := Try.checked) own started (by kernel_rfl) Try.func3
    (ChangeSpec.witness6 (enc := enc) (C := Try.checked) false ⟨#[], #[.agg #[.int .i64 0, .int .i64 0, .slice none 0 0, .slice none 0 0, .slice none 0 0], .slice none 0 0, .agg #[.int .i64 0, .int .i64 0]], []⟩ 8 (by kernel_rfl) (by kernel_rfl) (by kernel_rfl) (by kernel_rfl)) ?_
  intro W base args ds gs before hval0 hW hcnd _
  have hval : ∀ (j : Nat) t v, Try.f3.params[j]? = some t → args[j]? = some v → Value.okWide Try.prog W .any base t v := hval0
  have hW' := hW
  obtain ⟨p, q, hA0, hV, rfl, hfz, hnd⟩ := hW
  have hA : DataW.TrodAll enc Try.prog W 0 (fun _ => true) true Try.f3.params.toList args.toList ds p := hA0
  rw [Try.params3] at hA hval
  obtain ⟨v0, vs0, d0, ds0, p0, q0, hargs, rfl, rfl, h0, r0⟩ := trodAll_cons hA
  obtain ⟨v1, vs1, d1, ds1, p1, q1, rfl, rfl, rfl, h1, r1⟩ := trodAll_cons r0
  obtain ⟨v2, vs2, d2, ds2, p2, q2, rfl, rfl, rfl, h2, r2⟩ := trodAll_cons r1
  obtain ⟨rfl, rfl, rfl⟩ := trodAll_nil r2
  obtain rfl : args = #[v0, v1, v2] := by apply Array.ext'; exact hargs
  obtain ⟨x, ax, capx, bx, dapx, cx, earx, rfl, i_x, posx, qosx, rosx, b_x, bb_x, bc_x⟩ := open_wld (t := 29) (by kernel_rfl) (by kernel_rfl) (hval 0 29 _ rfl rfl) h0
  obtain ⟨l, al, capl, rfl, le_l, mx_l, posl, b_l⟩ := open_lr Try.underlying30 (by kernel_rfl) (by kernel_rfl) (hval 1 30 _ rfl rfl) h1
  obtain ⟨n, rfl, i_n⟩ := open_pnt (t := 31) (by kernel_rfl) (by kernel_rfl) (hval 2 31 _ rfl rfl) h2
  obtain ⟨v, hv, hc⟩ := k_top_TopDragged.get ⟨_, Try.func3, (by kernel_rfl), rfl⟩ [.agg [.int .i64 x.g.w, .int .i64 x.g.h, .sl 0 ax 0 4 x.g.cs.length capx, .sl 1 bx 0 1 x.u.k.length dapx, .sl 2 cx 0 1 x.u.b.length earx], .sl 3 al 0 2 l.length capl, .agg [.int .i64 n.x, .int .i64 n.y]] [⟨ax, false, .ro, .cx x.g.cs⟩, ⟨bx, false, .ro, .ix x.u.k⟩, ⟨cx, false, .ro, .ix x.u.b⟩, ⟨al, false, .ro, .rx l⟩] (fun v => den v = .bool true) (⟨⟨rfl, rfl, rfl, posx⟩, ⟨⟨rfl, rfl, rfl, qosx⟩, ⟨⟨rfl, rfl, rfl, rosx⟩, ⟨⟨rfl, rfl, rfl, posl⟩, ⟨⟨i_x.2, Nat.le_trans le_l mx_l, i_n⟩, rfl⟩⟩⟩⟩⟩)
  refine (hc W (fun _ hb => by simp only [List.mem_cons, List.not_mem_nil, or_false] at hb; rcases hb with rfl | rfl | rfl | rfl <;> first | exact b_x | exact bb_x | exact bc_x | exact b_l)).mono fun e W' ⟨he, hb⟩ => ⟨_, by rw [he, hv], law_step (tb := 4) laidOut (by kernel_rfl) rfl Try.underlying4 rfl (fun ds hl => ?_) hW' hb⟩
  match ds, hl with
  | [_, _, _], _ => exact ⟨rfl, rfl, rfl⟩
theorem topDragged_holds : Rows.TopDraggedSaid :=
  OpenClaim.holds_of_wide 3 Try.f3 rfl rfl rfl rfl rfl rfl rfl ⟨rfl, rfl, rfl, rfl, rfl⟩ rfl rfl rfl rfl rfl (by kernel_rfl) Try.func3 (by kernel_rfl)
    (of_decide_eq_true (by kernel_rfl)) (by unfold Func.isWrapper; rw [if_neg (of_decide_eq_false (by kernel_rfl))]; exact ⟨rfl, rfl⟩)
    (fun os started H enc _ => topDragged_lifted os started H enc)
#print axioms topDragged_holds
end Go.Proofs.Ytiapmjdoohgjnaa
