/-
  TopDrag: The gauges told of a box over the parts of a run, blurred or not, do not contradict each other nor that of the whole run.
-/
import Derived.Test.YtkpffldbdbjcbaaGreatKTopDrag
import Derived.Test.YtkpffldbdbjcbaaGreatSyO
import Derived.Test.YtkpffldbdbjcbaaGreatRows
set_option linter.unusedSimpArgs false
set_option linter.unusedVariables false
namespace Go.Proofs.YtkpffldbdbjcbaaGreat
open Go.Sy Go.RowKit Go.ChangeShapes Go.WideShapes Go.ChangeAt

theorem own : ownKnob Tryz.prog.godebug = none := by kernel_rfl
theorem laidOut : laidOutB Tryz.prog = true := by kernel_rfl
set_option maxRecDepth 100000 in
theorem topDrag_lifted (os : Os) (started : os.Started) (H : Type) (enc : TypeId × Value → H) :
    ReturnsInHanded {} Tryz.checked os 3 .any (Rows.topDragSpec.pre6 enc Tryz.prog Tryz.f3 Rows.topDragRow.domain false) (Rows.topDragSpec.post enc Tryz.prog Tryz.f3 false true false false) := by
  refine returnsInHanded_of_change (C := Tryz.checked) own started (by kernel_rfl) Tryz.func3
    (ChangeSpec.witness6 (enc := enc) (C := Tryz.checked) false ⟨#[], #[.agg #[.int .i64 0, .int .i64 0, .slice none 0 0], .agg #[.slice none 0 0, .slice none 0 0], .slice none 0 0, .agg #[.int .i64 0, .int .i64 0], .agg #[.int .i64 0, .int .i64 0], .int .i64 0, .slice none 0 0, .int .i64 0], []⟩ 8 (by kernel_rfl) (by kernel_rfl) (by kernel_rfl) (by kernel_rfl)) ?_
  intro W base args ds gs before hval0 hW hcnd _
  have hval : ∀ (j : Nat) t v, Tryz.f3.params[j]? = some t → args[j]? = some v → Value.okWide Tryz.prog W .any base t v := hval0
  have hW' := hW
  obtain ⟨p, q, hA0, hV, rfl, hfz, hnd⟩ := hW
  have hA : DataW.TrodAll enc Tryz.prog W 0 (fun _ => true) true Tryz.f3.params.toList args.toList ds p := hA0
  rw [Tryz.params3] at hA hval
  obtain ⟨v0, vs0, d0, ds0, p0, q0, hargs, rfl, rfl, h0, r0⟩ := trodAll_cons hA
  obtain ⟨v1, vs1, d1, ds1, p1, q1, rfl, rfl, rfl, h1, r1⟩ := trodAll_cons r0
  obtain ⟨v2, vs2, d2, ds2, p2, q2, rfl, rfl, rfl, h2, r2⟩ := trodAll_cons r1
  obtain ⟨v3, vs3, d3, ds3, p3, q3, rfl, rfl, rfl, h3, r3⟩ := trodAll_cons r2
  obtain ⟨v4, vs4, d4, ds4, p4, q4, rfl, rfl, rfl, h4, r4⟩ := trodAll_cons r3
  obtain ⟨v5, vs5, d5, ds5, p5, q5, rfl, rfl, rfl, h5, r5⟩ := trodAll_cons r4
  obtain ⟨v6, vs6, d6, ds6, p6, q6, rfl, rfl, rfl, h6, r6⟩ := trodAll_cons r5
  obtain ⟨v7, vs7, d7, ds7, p7, q7, rfl, rfl, rfl, h7, r7⟩ := trodAll_cons r6
  obtain ⟨rfl, rfl, rfl⟩ := trodAll_nil r7
  obtain rfl : args = #[v0, v1, v2, v3, v4, v5, v6, v7] := by apply Array.ext'; exact hargs
  obtain ⟨g, ag, capg, rfl, i_g, posg, b_g⟩ := open_grd (t := 24) (by kernel_rfl) (by kernel_rfl) (hval 0 24 _ rfl rfl) h0
  obtain ⟨w, aw, capw, bw, dapw, rfl, i_w, posw, qosw, b_w, bb_w⟩ := open_wal (t := 27) (by kernel_rfl) (by kernel_rfl) (hval 1 27 _ rfl rfl) h1
  obtain ⟨l, al, capl, rfl, le_l, mx_l, posl, b_l⟩ := open_lr Tryz.underlying28 (by kernel_rfl) (by kernel_rfl) (hval 2 28 _ rfl rfl) h2
  obtain ⟨a, rfl, i_a⟩ := open_pnt (t := 30) (by kernel_rfl) (by kernel_rfl) (hval 3 30 _ rfl rfl) h3
  obtain ⟨d, rfl, i_d⟩ := open_pnt (t := 30) (by kernel_rfl) (by kernel_rfl) (hval 4 30 _ rfl rfl) h4
  obtain ⟨axis, rfl, rfl, rfl, wfaxis⟩ := open_int Tryz.underlying3 (hval 5 3 _ rfl rfl) h5
  have i_axis := wf_I64 wfaxis
  obtain ⟨P, aP, capP, rfl, i_P, le_P, mx_P, posP, b_P⟩ := open_li Tryz.underlying25 (by kernel_rfl) (by kernel_rfl) (hval 6 25 _ rfl rfl) h6
  obtain ⟨q, rfl, rfl, rfl, wfq⟩ := open_int Tryz.underlying3 (hval 7 3 _ rfl rfl) h7
  have i_q := wf_I64 wfq
  obtain ⟨v, hv, hc⟩ := k_top_TopDrag.get ⟨_, Tryz.func3, (by kernel_rfl), rfl⟩ [.agg [.int .i64 g.w, .int .i64 g.h, .sl 0 ag 0 4 g.cs.length capg], .agg [.sl 1 aw 0 1 w.k.length capw, .sl 2 bw 0 1 w.b.length dapw], .sl 3 al 0 2 l.length capl, .agg [.int .i64 a.x, .int .i64 a.y], .agg [.int .i64 d.x, .int .i64 d.y], .int .i64 axis, .sl 4 aP 0 1 P.length capP, .int .i64 q] [⟨ag, false, .ro, .cx g.cs⟩, ⟨aw, false, .ro, .ix w.k⟩, ⟨bw, false, .ro, .ix w.b⟩, ⟨al, false, .ro, .rx l⟩, ⟨aP, false, .ro, .ix P⟩] (fun v => den v = .bool true) (⟨⟨rfl, rfl, rfl, posg⟩, ⟨⟨rfl, rfl, rfl, posw⟩, ⟨⟨rfl, rfl, rfl, qosw⟩, ⟨⟨rfl, rfl, rfl, posl⟩, ⟨⟨rfl, rfl, rfl, posP⟩, ⟨⟨⟨Nat.le_trans i_g.2.2.1 i_g.2.2.2, i_w, Nat.le_trans le_l mx_l⟩, i_axis, Nat.le_trans le_P mx_P, i_q⟩, rfl⟩⟩⟩⟩⟩⟩)
  refine (hc W (fun _ hb => by simp only [List.mem_cons, List.not_mem_nil, or_false] at hb; rcases hb with rfl | rfl | rfl | rfl | rfl <;> first | exact b_g | exact b_w | exact bb_w | exact b_l | exact b_P)).mono fun e W' ⟨he, hb⟩ => ⟨_, by rw [he, hv], law_step (tb := 4) laidOut (by kernel_rfl) rfl Tryz.underlying4 rfl (fun ds hl => ?_) hW' hb⟩
  match ds, hl with
  | [_, _, _, _, _, _, _, _], _ => exact ⟨rfl, rfl, rfl⟩
theorem topDrag_holds : Rows.TopDragSaid :=
  OpenClaim.holds_of_wide 3 Tryz.f3 rfl rfl rfl rfl rfl rfl rfl ⟨rfl, rfl, rfl, rfl, rfl⟩ rfl rfl rfl rfl rfl (by kernel_rfl) Tryz.func3 (by kernel_rfl)
    (of_decide_eq_true (by kernel_rfl)) (by unfold Func.isWrapper; rw [if_neg (of_decide_eq_false (by kernel_rfl))]; exact ⟨rfl, rfl⟩)
    (fun os started H enc _ => topDrag_lifted os started H enc)
#print axioms topDrag_holds
end Go.Proofs.YtkpffldbdbjcbaaGreat
