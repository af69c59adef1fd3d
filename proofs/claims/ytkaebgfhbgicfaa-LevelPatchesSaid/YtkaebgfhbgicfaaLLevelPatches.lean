/-
  LevelPatches: Valid, Opened, Shut, Mass and Momentum of the program are those of the reference; an opened patch that is shut is the grid.
-/
import Derived.Test.YtkaebgfhbgicfaaXLevelPatchesE
import Derived.Test.YtkaebgfhbgicfaaSyO
import Derived.Test.YtkaebgfhbgicfaaRows

set_option linter.unusedSimpArgs false
set_option linter.unusedVariables false
set_option maxRecDepth 100000
namespace Go.Proofs.Ytkaebgfhbgicfaa
open Go.Sy Go.RowKit
def c_lawF_LevelPatches : Ctr := fun args hp K => match args with
  | [x0, x1, x2, x3] => g1 x0 hp fun g => pt1 x1 fun a => pt1 x2 fun b => pp1 x3 hp fun p => (g.cs.length ≤ 9223372036854775807 ∧ p.c.cs.length ≤ 9223372036854775807 ∧ p.f.cs.length ≤ 9223372036854775807) ∧ K (.bool .tt)
  | _ => False
noncomputable def X_lawF_LevelPatches : Env Try.prog := ⟨Try.f4.ntmps, TT, G47, E21, Try.f4.results.toList, [(7, .x [0, 1, 2, 3, 4, 5, 6, 7, 8, 9, 10, 11, 12, 13, 14, 15] [] (.done))], TT_ok, okG47, okE21, mixed⟩
set_option maxHeartbeats 16000000 in
theorem k_lawF_LevelPatches : COk Try.prog 4 c_lawF_LevelPatches :=
  ctr_of_wk X_lawF_LevelPatches Try.func4 rfl (by kernel_rfl) rfl rfl fun args hp K hK => by
    unfold c_lawF_LevelPatches at hK
    split at hK
    · obtain ⟨g, ag, capg, hK1, e0, posg, vwg⟩ := iff_g1 hK; clear hK; have hK := hK1; clear hK1
      obtain ⟨a, hK1, e1⟩ := iff_pt1 hK; clear hK; have hK := hK1; clear hK1
      obtain ⟨b, hK1, e2⟩ := iff_pt1 hK; clear hK; have hK := hK1; clear hK1
      obtain ⟨p, ap, capp, bp, dapp, hK1, e3, posp, qosp, vwp, vxp⟩ := iff_pp1 hK; clear hK; have hK := hK1; clear hK1
      obtain ⟨hpre, hK⟩ := hK
      refine ⟨[.agg [.int .i64 g.w, .int .i64 g.h, .sl 0 ag 0 4 g.cs.length capg], .agg [.int .i64 a.x, .int .i64 a.y], .agg [.int .i64 b.x, .int .i64 b.y], .agg [.int .i64 p.c.w, .int .i64 p.c.h, .sl 1 ap 0 4 p.c.cs.length capp, .int .i64 p.x0, .int .i64 p.y0, .int .i64 p.x1, .int .i64 p.y1, .int .i64 p.f.w, .int .i64 p.f.h, .sl 2 bp 0 4 p.f.cs.length dapp]], [⟨ag, false, .ro, .cx g.cs⟩, ⟨ap, false, .ro, .cx p.c.cs⟩, ⟨bp, false, .ro, .cx p.f.cs⟩], _, denL_cons (e0) (denL_cons (e1.symm) (denL_cons (e2.symm) (denL_cons (e3) (rfl)))), ⟨trivial, ⟨trivial, ⟨trivial, trivial⟩⟩⟩, fun w hw b hb => (by simp only [List.mem_cons, List.not_mem_nil, or_false] at hb; rcases hb with rfl | rfl | rfl <;> first | exact vwg w hw | exact vwp w hw | exact vxp w hw), hK, Nat.le_of_ble_eq_true rfl, ?_⟩
      clear hK
      have l3 := op_len g a b; have l4 := sh_len p; have l5 := sh_len (opG g a b); rcases levP_ways g a b p with ⟨hb0, hb1, hb2, hl, he, hpv, hpe, hps⟩ | ⟨hb0, hb1, hb2, hl, he, hpv, hpe, hps⟩ | ⟨hb0, hb1, hb2, hl, he, hpv, hpe, hps⟩ | ⟨hb0, hb1, hb2, hl, he, hpv, hpe, hps⟩ | ⟨hb0, hb1, hb2, hl, he, hpv, hpe, hps⟩
      all_goals (repeat' (first | ((with_reducible refine wk_ops ?_); (first | (refine Wk.op ?_; intro K' hK') | (refine Wk.step rfl ?_))) | ((with_reducible refine wk_rs ?_); (first | (refine Wk.rsTake ?_; intro K' hK') | (refine Wk.rsOne ?_ (fun K' hR' => ?_)) | (refine Wk.rsTwo ?_ ?_ (fun K' hR' => ?_) (fun K' hR' => ?_)) | (refine Wk.rsDone ?_))) | ((with_reducible refine wk_rg ?_); (first | (refine Wk.rgOne ?_; intro K' hK') | (refine Wk.rgPure ?_; intro K' hP') | (refine Wk.rgX ?_; intro K' hP') | (refine Wk.rgDone ?_) | (refine Wk.rgTwo ?_ ?_ <;> intro K' hK') | (refine Wk.rgH ?_ ?_))) | ((with_reducible refine wk_xq ?_); (first | (refine Wk.xqOp ?_; intro K' hP') | (refine Wk.xqNew ?_; intro K' hK') | (refine Wk.xqEnd ?_))) | ((with_reducible refine wk_c ?_); (first | (refine Wk.cond ?_; intro KT KF hKT hKF) | (refine Wk.ret ?_) | (refine Wk.draw ?_ ?_ ?_; rotate_left 2; (intro K' hP')) | (refine Wk.step rfl ?_))) | ((fail_if_success (with_reducible refine g_ile ?_)); (fail_if_success (with_reducible refine g_ilt ?_)); (fail_if_success (with_reducible refine g_nle ?_)); (fail_if_success (with_reducible refine g_nlt ?_)); (fail_if_success (with_reducible refine g_ieq ?_)); (fail_if_success (with_reducible refine g_neq ?_)); (first | (with_reducible refine And.intro ?_ ?_) | (with_reducible refine I64_two ?_ ?_) | ((with_reducible intro hq); (try simp only [BF.H, Cel.eta, Rul.eta, Grd.eta, if_true, if_false, Int.toNat_natCast, Nat.add_zero] at hq); (try simp only [Grd.eta, Pnt.eta, Pat.eta, hb0, hb1, hb2, he, hpv, hpe, hps, decide_true, decide_eq_true_eq, decide_eq_false_iff_not, not_true_eq_false, not_false_eq_true] at hq); (try (exfalso; (try clear hKT hKF); (try clear hK'); (try clear hP'); (try clear hR'); first | omega | (simp [BF.b] at hq; done)))) | (refine hK' _ _ ?_; clear hK' K') | (refine hR' _ _ ?_ ?_ <;> clear hR' K') | (refine hP' _ ?_; clear hP' K') | (refine hKT _ ?_; clear hKT hKF KT KF) | (refine hKF _ ?_; clear hKT hKF KT KF) | (refine Wk.op ?_; intro K' hK') | (refine Wk.xqOp ?_; intro K' hP') | (refine Wk.rgOne ?_; intro K' hK') | (refine Wk.rgPure ?_; intro K' hP') | (refine Wk.rgX ?_; intro K' hP') | (refine Wk.xqNew ?_; intro K' hK') | (refine Wk.xqEnd ?_) | (refine Wk.rgDone ?_) | (refine Wk.rgTwo ?_ ?_ <;> intro K' hK') | (refine Wk.rgH ?_ ?_) | (refine Wk.rsTake ?_; intro K' hK') | (refine Wk.rsOne ?_ (fun K' hR' => ?_)) | (refine Wk.rsTwo ?_ ?_ (fun K' hR' => ?_) (fun K' hR' => ?_)) | (refine Wk.rsThree ?_ ?_ ?_ (fun K' hR' => ?_) (fun K' hR' => ?_) (fun K' hR' => ?_)) | (refine Wk.rsDone ?_) | (refine Wk.cond ?_; intro KT KF hKT hKF) | (refine Wk.ret ?_) | (refine Wk.draw ?_ ?_ ?_; rotate_left 2; (intro K' hP')) | (refine Wk.step rfl ?_) | (refine Wk.done ?_) | (refine Fin.plain trivial ?_) | ((with_reducible refine top_goal ?_); kernel_rfl) | ((with_reducible refine takes_goal ?_); kernel_rfl) | ((with_reducible refine drop_goal ?_); kernel_rfl) | ((with_reducible refine held_goal ?_); (repeat refine And.intro rfl ?_); exact trivial) | ((with_reducible refine allB_goal ?_); kernel_rfl) | ((with_reducible refine mine_goal ?_); exact mine_of rfl) | ((with_reducible refine withV_goal ?_); refine withV_mk rfl ?_) | ((with_reducible refine hsel_goal ?_); (first | (exact hsel.nil) | (refine hsel.take (HB.like.refl _) (.inr fun _ h => h) ?_) | (refine hsel.take (like_l ?_) (.inl rfl) ?_) | (refine hsel.take (like_l ?_) (.inr fun _ h => h) ?_) | (refine hsel.take (like_cts ?_) (.inl rfl) ?_) | (refine hsel.take (like_cts ?_) (.inr fun _ h => h) ?_) | (refine hsel.skip (spare_own rfl rfl) ?_) | (refine hsel.skip spare_ro ?_))) | (refine denL_cons ?_ ?_) | (refine sl_like ?_) | ((with_reducible refine withMC_goal ?_); refine withMC_mk rfl ?_) | (refine And.intro ?_ ?_) | (intro hq; (try simp only [BF.H, Cel.eta, Rul.eta, Grd.eta, if_true, if_false, Int.toNat_natCast, Nat.add_zero] at hq); (try simp only [Grd.eta, Pnt.eta, Pat.eta, hb0, hb1, hb2, he, hpv, hpe, hps, decide_true, decide_eq_true_eq, decide_eq_false_iff_not, not_true_eq_false, not_false_eq_true] at hq); (try (exfalso; (try clear hKT hKF); (try clear hK'); (try clear hP'); (try clear hR'); first | omega | (simp [BF.b] at hq; done))))))))
      all_goals (try simp only [Cel.eta, Rul.eta, Grd.eta, Pnt.eta, if_true, if_false, Int.toNat_natCast, Int.toNat_zero, Nat.add_zero, Nat.zero_add])
      all_goals (first | (with_reducible rfl) | (with_reducible exact trivial) | (with_reducible exact splitN_zero) | ((with_reducible refine fsub_goal ?_); exact trivial) | (with_reducible assumption) | ((with_reducible refine ble_goal ?_); rfl) | (with_reducible exact Nat.beq_refl _) | ((with_reducible refine band_goal ?_ ?_); (first | exact Nat.beq_refl _ | rfl | kernel_rfl)) | ((with_reducible refine ble2_goal ?_); (first | rfl | kernel_rfl)) | ((with_reducible refine beq_goal ?_); rfl) | omega | skip)
      all_goals (first | assumption | (with_reducible rfl) | omega | (simp only [Cts.len, List.length_nil]; done) | (simp only [Cts.len, List.length_nil, Int.toNat_natCast, Nat.add_zero, Nat.zero_add]; omega) | exact isSome_of (by assumption) | (simp only [Cts.len, Int.toNat_natCast, Nat.add_zero, Nat.zero_add] at *; first | assumption | omega) | exact int_eq (by omega) | exact cst_eq (by omega) | exact lit_eq (by omega) | exact posg (by omega) | exact opt_getD (posg (by omega)) _ | exact posp (by omega) | exact opt_getD (posp (by omega)) _ | exact qosp (by omega) | exact opt_getD (qosp (by omega)) _ | rfl | (simp only [Pat.eta, hpv]; rfl) | exact mine_of rfl | (simp only [Pat.eta] at *; omega) | (simp only [Pat.eta, hb0, hb1, hb2, he, hpv, hpe, hps] at *; first | omega | assumption) | (intro h9; (first | assumption | (exact (by assumption) h9))) | (exact (‹0 < List.length _ → Option.isSome _ = true›) (by omega)) | (exfalso; simp only [Grd.eta, Pat.eta, hb0, hb1, hb2, he, hpv, hpe, hps, decide_true] at *; first | omega | contradiction | (simp at *; done)) | (exfalso; simp [Grd.eta, Pat.eta, hb0, hb1, hb2, he, hpv, hpe, hps] at *; done) | fail)
    · exact hK.elim
def G48 : List (Nat × Ctr) := (4, c_lawF_LevelPatches) :: G47
theorem okG48 : GsOk Try.prog G48 := GsOk.cons k_lawF_LevelPatches okG47
end Go.Proofs.Ytkaebgfhbgicfaa
set_option linter.unusedSimpArgs false
set_option linter.unusedVariables false
namespace Go.Proofs.Ytkaebgfhbgicfaa
open Go.Sy Go.RowKit Go.ChangeShapes Go.WideShapes Go.ChangeAt
theorem own : ownKnob Try.prog.godebug = none := by kernel_rfl
theorem laidOut : laidOutB Try.prog = true := by kernel_rfl
set_option maxRecDepth 100000 in
theorem levelPatches_lifted (os : Os) (started : os.Started) (H : Type) (enc : TypeId × Value → H) :
    ReturnsInHanded {} Try.checked os 4 .any (Rows.levelPatchesSpec.pre6 enc Try.prog Try.f4 Rows.levelPatchesRow.domain false) (Rows.levelPatchesSpec.post enc Try.prog Try.f4 false true false false) := by
  refine returnsInHanded_of_change (C := Try.checked) own started (by kernel_rfl) Try.func4
    (ChangeSpec.witness6 (enc := enc) (C := Try.checked) false ⟨#[], #[.agg #[.int .i64 0, .int .i64 0, .slice none 0 0], .agg #[.int .i64 0, .int .i64 0], .agg #[.int .i64 0, .int .i64 0], .agg #[.int .i64 0, .int .i64 0, .slice none 0 0, .int .i64 0, .int .i64 0, .int .i64 0, .int .i64 0, .int .i64 0, .int .i64 0, .slice none 0 0]], []⟩ 8 (by kernel_rfl) (by kernel_rfl) (by kernel_rfl) (by kernel_rfl)) ?_
  intro W base args ds gs before hval0 hW hcnd _
  have hval : ∀ (j : Nat) t v, Try.f4.params[j]? = some t → args[j]? = some v → Value.okWide Try.prog W .any base t v := hval0
  have hW' := hW
  obtain ⟨p, q, hA0, hV, rfl, hfz, hnd⟩ := hW
  have hA : DataW.TrodAll enc Try.prog W 0 (fun _ => true) true Try.f4.params.toList args.toList ds p := hA0
  rw [Try.params4] at hA hval
  obtain ⟨v0, vs0, d0, ds0, p0, q0, hargs, rfl, rfl, h0, r0⟩ := trodAll_cons hA
  obtain ⟨v1, vs1, d1, ds1, p1, q1, rfl, rfl, rfl, h1, r1⟩ := trodAll_cons r0
  obtain ⟨v2, vs2, d2, ds2, p2, q2, rfl, rfl, rfl, h2, r2⟩ := trodAll_cons r1
  obtain ⟨v3, vs3, d3, ds3, p3, q3, rfl, rfl, rfl, h3, r3⟩ := trodAll_cons r2
  obtain ⟨rfl, rfl, rfl⟩ := trodAll_nil r3
  obtain rfl : args = #[v0, v1, v2, v3] := by apply Array.ext'; exact hargs
  obtain ⟨g, ag, capg, rfl, i_g, posg, b_g⟩ := open_grd (t := 24) (by kernel_rfl) (by kernel_rfl) (hval 0 24 _ rfl rfl) h0
  obtain ⟨a, rfl, i_a⟩ := open_pnt (t := 28) (by kernel_rfl) (by kernel_rfl) (hval 1 28 _ rfl rfl) h1
  obtain ⟨b, rfl, i_b⟩ := open_pnt (t := 28) (by kernel_rfl) (by kernel_rfl) (hval 2 28 _ rfl rfl) h2
  obtain ⟨p, ap, capp, bp, dapp, rfl, i_p, posp, qosp, b_p, bb_p⟩ := open_ptc (t := 26) (by kernel_rfl) (by kernel_rfl) (hval 3 26 _ rfl rfl) h3
  obtain ⟨v, hv, hc⟩ := k_lawF_LevelPatches.get ⟨_, Try.func4, (by kernel_rfl), rfl⟩ [.agg [.int .i64 g.w, .int .i64 g.h, .sl 0 ag 0 4 g.cs.length capg], .agg [.int .i64 a.x, .int .i64 a.y], .agg [.int .i64 b.x, .int .i64 b.y], .agg [.int .i64 p.c.w, .int .i64 p.c.h, .sl 1 ap 0 4 p.c.cs.length capp, .int .i64 p.x0, .int .i64 p.y0, .int .i64 p.x1, .int .i64 p.y1, .int .i64 p.f.w, .int .i64 p.f.h, .sl 2 bp 0 4 p.f.cs.length dapp]] [⟨ag, false, .ro, .cx g.cs⟩, ⟨ap, false, .ro, .cx p.c.cs⟩, ⟨bp, false, .ro, .cx p.f.cs⟩] (fun v => den v = .bool true) (⟨⟨rfl, rfl, rfl, posg⟩, ⟨⟨rfl, rfl, rfl, posp⟩, ⟨⟨rfl, rfl, rfl, qosp⟩, ⟨⟨Nat.le_trans i_g.2.2.1 i_g.2.2.2, i_p.1.2.2, i_p.2.2.2.2⟩, rfl⟩⟩⟩⟩)
  refine (hc W (fun _ hb => by simp only [List.mem_cons, List.not_mem_nil, or_false] at hb; rcases hb with rfl | rfl | rfl <;> first | exact b_g | exact b_p | exact bb_p)).mono fun e W' ⟨he, hb⟩ => ⟨_, by rw [he, hv], law_step (tb := 4) laidOut (by kernel_rfl) rfl Try.underlying4 rfl (fun ds hl => ?_) hW' hb⟩
  match ds, hl with
  | [_, _, _, _], _ => exact ⟨rfl, rfl, rfl⟩
theorem levelPatches_holds : Rows.LevelPatchesSaid :=
  OpenClaim.holds_of_wide 4 Try.f4 rfl rfl rfl rfl rfl rfl rfl ⟨rfl, rfl, rfl, rfl, rfl⟩ rfl rfl rfl rfl rfl (by kernel_rfl) Try.func4 (by kernel_rfl)
    (of_decide_eq_true (by kernel_rfl)) (by unfold Func.isWrapper; rw [if_neg (of_decide_eq_false (by kernel_rfl))]; exact ⟨rfl, rfl⟩)
    (fun os started H enc _ => levelPatches_lifted os started H enc)
#print axioms levelPatches_holds
end Go.Proofs.Ytkaebgfhbgicfaa
