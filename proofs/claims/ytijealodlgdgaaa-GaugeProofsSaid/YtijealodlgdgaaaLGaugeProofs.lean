/-
  GaugeProofs: Proof, Proves and Wrong of the program are those of the reference; Bounds is ErrState exactly if there is a proof.
-/
import Derived.Test.YtijealodlgdgaaaKGaugeProofs
import Derived.Test.YtijealodlgdgaaaSyO
import Derived.Test.YtijealodlgdgaaaRows
set_option linter.unusedSimpArgs false
set_option linter.unusedVariables false
namespace Go.Proofs.Ytijealodlgdgaaa
open Go.Sy Go.RowKit Go.ChangeShapes Go.WideShapes Go.ChangeAt

theorem own : ownKnob Try.prog.godebug = none := by kernel_rfl
theorem laidOut : laidOutB Try.prog = true := by kernel_rfl
set_option maxRecDepth 100000 in
theorem gaugeProofs_lifted (os : Os) (started : os.Started) (H : Type) (enc : TypeId × Value → H) :
    ReturnsInHanded {} Try.checked os 3 .any (Rows.gaugeProofsSpec.pre6 enc Try.prog Try.f3 Rows.gaugeProofsRow.domain false) (Rows.gaugeProofsSpec.post enc Try.prog Try.f3 false true false false) := by
  refine returnsInHanded_of_change (C := Try.checked) own started (by kernel_rfl) Try.func3
    (ChangeSpec.witness6 (enc := enc) (C := Try.checked) false ⟨#[], #[.slice none 0 0, .int .i64 0, .int .i64 0, .slice none 0 0, .slice none 0 0], []⟩ 8 (by kernel_rfl) (by kernel_rfl) (by kernel_rfl) (by kernel_rfl)) ?_
  intro W base args ds gs before hval0 hW hcnd _
  have hval : ∀ (j : Nat) t v, Try.f3.params[j]? = some t → args[j]? = some v → Value.okWide Try.prog W .any base t v := hval0
  have hW' := hW
  obtain ⟨p, q, hA0, hV, rfl, hfz, hnd⟩ := hW
  have hA : DataW.TrodAll enc Try.prog W 0 (fun _ => true) true Try.f3.params.toList args.toList ds p := hA0
  rw [Try.params3] at hA hval
  obtain ⟨v0, vs0, d0, ds0, p0, q0, hargs, rfl, rfl, h0, r0⟩ := trodAll_cons hA
  obtain ⟨v1, vs1, d1, ds1, p1, q1, rfl, rfl, rfl, h1, r1⟩ := trodAll_cons r0
  obtain ⟨v2, vs2, d2, ds2, p2, q2, rfl, rfl, rfl, h2, r2⟩ := trodAll_cons r1
  obtain ⟨v3, vs3, d3, ds3, p3, q3, rfl, rfl, rfl, h3, r3⟩ := trodAll_cons r2
  obtain ⟨v4, vs4, d4, ds4, p4, q4, rfl, rfl, rfl, h4, r4⟩ := trodAll_cons r3
  obtain ⟨rfl, rfl, rfl⟩ := trodAll_nil r4
  obtain rfl : args = #[v0, v1, v2, v3, v4] := by apply Array.ext'; exact hargs
  obtain ⟨l, al, capl, rfl, le_l, mx_l, posl, b_l⟩ := open_lg Try.underlying22 (by kernel_rfl) (by kernel_rfl) (hval 0 22 _ rfl rfl) h0
  obtain ⟨a, rfl, rfl, rfl, wfa⟩ := open_int Try.underlying3 (hval 1 3 _ rfl rfl) h1
  have i_a := wf_I64 wfa
  obtain ⟨c, rfl, rfl, rfl, wfc⟩ := open_int Try.underlying3 (hval 2 3 _ rfl rfl) h2
  have i_c := wf_I64 wfc
  obtain ⟨X, aX, capX, rfl, i_X, le_X, mx_X, posX, b_X⟩ := open_li Try.underlying23 (by kernel_rfl) (by kernel_rfl) (hval 3 23 _ rfl rfl) h3
  obtain ⟨Y, aY, capY, rfl, i_Y, le_Y, mx_Y, posY, b_Y⟩ := open_li Try.underlying23 (by kernel_rfl) (by kernel_rfl) (hval 4 23 _ rfl rfl) h4
  obtain ⟨v, hv, hc⟩ := k_lawG_GaugeProofs.get ⟨_, Try.func3, (by kernel_rfl), rfl⟩ [.sl 0 al 0 10 l.length capl, .int .i64 a, .int .i64 c, .sl 1 aX 0 1 X.length capX, .sl 2 aY 0 1 Y.length capY] [⟨al, false, .ro, .gx l⟩, ⟨aX, false, .ro, .ix X⟩, ⟨aY, false, .ro, .ix Y⟩] (fun v => den v = .bool true) (⟨⟨rfl, rfl, rfl, posl⟩, ⟨⟨rfl, rfl, rfl, posX⟩, ⟨⟨rfl, rfl, rfl, posY⟩, ⟨⟨Nat.le_trans le_l mx_l, Nat.le_trans le_X mx_X, Nat.le_trans le_Y mx_Y, i_a, i_c⟩, rfl⟩⟩⟩⟩)
  refine (hc W (fun _ hb => by simp only [List.mem_cons, List.not_mem_nil, or_false] at hb; rcases hb with rfl | rfl | rfl <;> first | exact b_l | exact b_X | exact b_Y)).mono fun e W' ⟨he, hb⟩ => ⟨_, by rw [he, hv], law_step (tb := 4) laidOut (by kernel_rfl) rfl Try.underlying4 rfl (fun ds hl => ?_) hW' hb⟩
  match ds, hl with
  | [_, _, _, _, _], _ => exact ⟨rfl, rfl, rfl⟩
theorem gaugeProofs_holds : Rows.GaugeProofsSaid :=
  OpenClaim.holds_of_wide 3 Try.f3 rfl rfl rfl rfl rfl rfl rfl ⟨rfl, rfl, rfl, rfl, rfl⟩ rfl rfl rfl rfl rfl (by kernel_rfl) Try.func3 (by kernel_rfl)
    (of_decide_eq_true (by kernel_rfl)) (by unfold Func.isWrapper; rw [if_neg (of_decide_eq_false (by kernel_rfl))]; exact ⟨rfl, rfl⟩)
    (fun os started H enc _ => gaugeProofs_lifted os started H enc)
#print axioms gaugeProofs_holds
end Go.Proofs.Ytijealodlgdgaaa
