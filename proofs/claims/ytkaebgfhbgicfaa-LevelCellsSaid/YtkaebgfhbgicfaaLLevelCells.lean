/-
  LevelCells: Inside, Fine and Coarse of the program are those of the reference; each fine cell of a coarse one has it as its coarse cell.
-/
import Derived.Test.YtkaebgfhbgicfaaKLevelCells
import Derived.Test.YtkaebgfhbgicfaaSyO
import Derived.Test.YtkaebgfhbgicfaaRows
set_option linter.unusedSimpArgs false
set_option linter.unusedVariables false
namespace Go.Proofs.Ytkaebgfhbgicfaa
open Go.Sy Go.RowKit Go.ChangeShapes Go.WideShapes Go.ChangeAt

theorem own : ownKnob Try.prog.godebug = none := by kernel_rfl
theorem laidOut : laidOutB Try.prog = true := by kernel_rfl
set_option maxRecDepth 100000 in
theorem levelCells_lifted (os : Os) (started : os.Started) (H : Type) (enc : TypeId × Value → H) :
    ReturnsInHanded {} Try.checked os 3 .any (Rows.levelCellsSpec.pre6 enc Try.prog Try.f3 Rows.levelCellsRow.domain false) (Rows.levelCellsSpec.post enc Try.prog Try.f3 false true false false) := by
  refine returnsInHanded_of_change (C := Try.checked) own started (by kernel_rfl) Try.func3
    (ChangeSpec.witness6 (enc := enc) (C := Try.checked) false ⟨#[], #[.agg #[.int .i64 0, .int .i64 0, .slice none 0 0, .int .i64 0, .int .i64 0, .int .i64 0, .int .i64 0, .int .i64 0, .int .i64 0, .slice none 0 0], .agg #[.int .i64 0, .int .i64 0]], []⟩ 8 (by kernel_rfl) (by kernel_rfl) (by kernel_rfl) (by kernel_rfl)) ?_
  intro W base args ds gs before hval0 hW hcnd _
  have hval : ∀ (j : Nat) t v, Try.f3.params[j]? = some t → args[j]? = some v → Value.okWide Try.prog W .any base t v := hval0
  have hW' := hW
  obtain ⟨p, q, hA0, hV, rfl, hfz, hnd⟩ := hW
  have hA : DataW.TrodAll enc Try.prog W 0 (fun _ => true) true Try.f3.params.toList args.toList ds p := hA0
  rw [Try.params3] at hA hval
  obtain ⟨v0, vs0, d0, ds0, p0, q0, hargs, rfl, rfl, h0, r0⟩ := trodAll_cons hA
  obtain ⟨v1, vs1, d1, ds1, p1, q1, rfl, rfl, rfl, h1, r1⟩ := trodAll_cons r0
  obtain ⟨rfl, rfl, rfl⟩ := trodAll_nil r1
  obtain rfl : args = #[v0, v1] := by apply Array.ext'; exact hargs
  obtain ⟨p, ap, capp, bp, dapp, rfl, i_p, posp, qosp, b_p, bb_p⟩ := open_ptc (t := 26) (by kernel_rfl) (by kernel_rfl) (hval 0 26 _ rfl rfl) h0
  obtain ⟨c, rfl, i_c⟩ := open_pnt (t := 28) (by kernel_rfl) (by kernel_rfl) (hval 1 28 _ rfl rfl) h1
  obtain ⟨v, hv, hc⟩ := k_lawF_LevelCells.get ⟨_, Try.func3, (by kernel_rfl), rfl⟩ [.agg [.int .i64 p.c.w, .int .i64 p.c.h, .sl 0 ap 0 4 p.c.cs.length capp, .int .i64 p.x0, .int .i64 p.y0, .int .i64 p.x1, .int .i64 p.y1, .int .i64 p.f.w, .int .i64 p.f.h, .sl 1 bp 0 4 p.f.cs.length dapp], .agg [.int .i64 c.x, .int .i64 c.y]] [⟨ap, false, .ro, .cx p.c.cs⟩, ⟨bp, false, .ro, .cx p.f.cs⟩] (fun v => den v = .bool true) (⟨⟨rfl, rfl, rfl, posp⟩, ⟨⟨rfl, rfl, rfl, qosp⟩, ⟨⟨i_p.1.2.2, i_p.2.2.2.2⟩, rfl⟩⟩⟩)
  refine (hc W (fun _ hb => by simp only [List.mem_cons, List.not_mem_nil, or_false] at hb; rcases hb with rfl | rfl <;> first | exact b_p | exact bb_p)).mono fun e W' ⟨he, hb⟩ => ⟨_, by rw [he, hv], law_step (tb := 4) laidOut (by kernel_rfl) rfl Try.underlying4 rfl (fun ds hl => ?_) hW' hb⟩
  match ds, hl with
  | [_, _], _ => exact ⟨rfl, rfl, rfl⟩
theorem levelCells_holds : Rows.LevelCellsSaid :=
  OpenClaim.holds_of_wide 3 Try.f3 rfl rfl rfl rfl rfl rfl rfl ⟨rfl, rfl, rfl, rfl, rfl⟩ rfl rfl rfl rfl rfl (by kernel_rfl) Try.func3 (by kernel_rfl)
    (of_decide_eq_true (by kernel_rfl)) (by unfold Func.isWrapper; rw [if_neg (of_decide_eq_false (by kernel_rfl))]; exact ⟨rfl, rfl⟩)
    (fun os started H enc _ => levelCells_lifted os started H enc)
#print axioms levelCells_holds
end Go.Proofs.Ytkaebgfhbgicfaa
