/-
  PhaseAlone: Without exchanges, or without the other one, each phase moves as a grid of layer 2.
-/
import Derived.Test.YtghflfilemhaoaaXPhaseAloneB
import Derived.Test.YtghflfilemhaoaaSyO
import Derived.Test.YtghflfilemhaoaaRows

set_option linter.unusedSimpArgs false
set_option linter.unusedVariables false
set_option maxRecDepth 100000
namespace Go.Proofs.Ytghflfilemhaoaa
open Go.Sy Go.RowKit
def c_lawD_PhaseAlone : Ctr := fun args hp K => match args with
  | [x0, x1, x2] => m1 x0 hp fun x => lr x1 hp fun l => lr x2 hp fun m => ((x.a.length ≤ 9223372036854775807 ∧ x.b.length ≤ 9223372036854775807) ∧ l.length ≤ 9223372036854775807 ∧ m.length ≤ 9223372036854775807) ∧ K (.bool .tt)
  | _ => False
noncomputable def X_lawD_PhaseAlone : Env Try.prog := ⟨Try.f7.ntmps, TT, G43, E43, Try.f7.results.toList, [], TT_ok, okG43, okE43, mixed⟩
set_option maxHeartbeats 16000000 in
theorem k_lawD_PhaseAlone : COk Try.prog 7 c_lawD_PhaseAlone :=
  ctr_of_wk X_lawD_PhaseAlone Try.func7 rfl (by kernel_rfl) rfl rfl fun args hp K hK => by
    unfold c_lawD_PhaseAlone at hK
    split at hK
    · obtain ⟨x, ax, capx, bx, dapx, hK1, e0, posx, qosx, vwx, vxx⟩ := iff_m1 hK; clear hK; have hK := hK1; clear hK1
      obtain ⟨l, al, capl, hK1, sl⟩ := iff_lr hK; clear hK; have hK := hK1; clear hK1
      have posl : 0 < l.length → al.isSome = true := sl.pos
      obtain ⟨m, am, capm, hK1, sm⟩ := iff_lr hK; clear hK; have hK := hK1; clear hK1
      have posm : 0 < m.length → am.isSome = true := sm.pos
      obtain ⟨hpre, hK⟩ := hK
      refine ⟨[.agg [.int .i64 x.w, .int .i64 x.h, .sl 0 ax 0 4 x.a.length capx, .sl 1 bx 0 4 x.b.length dapx], .sl 2 al 0 2 l.length capl, .sl 3 am 0 2 m.length capm], [⟨ax, false, .ro, .cx x.a⟩, ⟨bx, false, .ro, .cx x.b⟩, ⟨al, false, .ro, .rx l⟩, ⟨am, false, .ro, .rx m⟩], _, denL_cons (e0) (denL_cons (sl.eq) (denL_cons (sm.eq) (rfl))), ⟨trivial, ⟨trivial, ⟨trivial, ⟨trivial, trivial⟩⟩⟩⟩, fun w hw b hb => (by simp only [List.mem_cons, List.not_mem_nil, or_false] at hb; rcases hb with rfl | rfl | rfl | rfl <;> first | exact vwx w hw | exact vxx w hw | exact sl.ok w hw | exact sm.ok w hw), hK, Nat.le_of_ble_eq_true rfl, ?_⟩
      clear hK
      have l1 := mrun_len x l [⟨0, 0⟩] 5 1; have l2 := mrun_len ⟨x.w, x.h, x.a, zzL x.a.length⟩ l m 5 1; have l3 := run_len ⟨x.w, x.h, x.a⟩ l 5 1; have l4 := run_len ⟨x.w, x.h, x.b⟩ l 5 1; have zl : (zzL x.a.length).length = x.a.length := List.length_replicate; rcases alone_ways x l m with ⟨hx, e1⟩ | ⟨hx, A, fa, fb, ms, mz⟩ | ⟨ca, cb, hx, A, fa, fb, ms, mz, ⟨y1, y2, y3⟩, gq, ra, rb⟩ | ⟨ca, cb, hx, A, fa, fb, ms, mz, ⟨y1, y2, y3⟩, gq, ra, rb, ⟨w1, w2, w3⟩, wq⟩ <;> (first | (have e1 := A.e1; have pa := A.pa; have pb := A.pb; have oe := A.oe; have om := A.om; have sd := A.sd; have hn := sd.2.2.2.2.2.1) | (have pa := True.intro; have pb := True.intro; have oe := True.intro; have om := True.intro; have hn := True.intro; have fa := True.intro; have fb := True.intro; have ms := True.intro; have mz := True.intro)) <;> (first | (have go9 := y1; clear go9) | (have y1 := True.intro; have y2 := True.intro; have y3 := True.intro; have gq := True.intro; have ra := True.intro; have rb := True.intro)) <;> (first | (have wo9 := w1; clear wo9) | (have w1 := True.intro; have w2 := True.intro; have w3 := True.intro; have wq := True.intro))
      all_goals (repeat' (first | ((with_reducible refine wk_ops ?_); (first | (refine Wk.op ?_; intro K' hK') | (refine Wk.step rfl ?_))) | ((with_reducible refine wk_c ?_); (first | (refine Wk.cond ?_; intro KT KF hKT hKF) | (refine Wk.ret ?_) | (refine Wk.step rfl ?_))) | ((fail_if_success (with_reducible refine g_ile ?_)); (fail_if_success (with_reducible refine g_ilt ?_)); (fail_if_success (with_reducible refine g_nle ?_)); (fail_if_success (with_reducible refine g_nlt ?_)); (fail_if_success (with_reducible refine g_ieq ?_)); (fail_if_success (with_reducible refine g_neq ?_)); (first | (with_reducible refine And.intro ?_ ?_) | (with_reducible refine I64_two ?_ ?_) | ((with_reducible intro hq); (try simp only [BF.H, Cel.eta, Rul.eta, Grd.eta, if_true, if_false, Int.toNat_natCast, Nat.add_zero] at hq); (try simp only [Mix.eta, Grd.eta, hx, e1, pa, pb, oe, om, hn, fa, fb, ms, mz, y1, y2, y3, gq, ra, rb, w1, w2, w3, wq, if_true, decide_true] at hq); (try (exfalso; (try clear hKT hKF); (try clear hK'); (try clear hP'); (try clear hR'); first | omega | (simp [BF.b] at hq; done)))) | (refine hK' _ _ ?_; clear hK' K') | (refine hKT _ ?_; clear hKT hKF KT KF) | (refine hKF _ ?_; clear hKT hKF KT KF) | (refine Wk.op ?_; intro K' hK') | (refine Wk.cond ?_; intro KT KF hKT hKF) | (refine Wk.ret ?_) | (refine Wk.step rfl ?_) | (refine Wk.done ?_) | (refine Fin.plain trivial ?_) | ((with_reducible refine top_goal ?_); kernel_rfl) | ((with_reducible refine takes_goal ?_); kernel_rfl) | ((with_reducible refine drop_goal ?_); kernel_rfl) | ((with_reducible refine held_goal ?_); (repeat refine And.intro rfl ?_); exact trivial) | ((with_reducible refine allB_goal ?_); kernel_rfl) | ((with_reducible refine mine_goal ?_); exact mine_of rfl) | ((with_reducible refine withV_goal ?_); refine withV_mk rfl ?_) | ((with_reducible refine hsel_goal ?_); (first | (exact hsel.nil) | (refine hsel.take (HB.like.refl _) (.inr fun _ h => h) ?_) | (refine hsel.take (like_l ?_) (.inl rfl) ?_) | (refine hsel.take (like_l ?_) (.inr fun _ h => h) ?_) | (refine hsel.take (like_cts ?_) (.inl rfl) ?_) | (refine hsel.take (like_cts ?_) (.inr fun _ h => h) ?_) | (refine hsel.skip (spare_own rfl rfl) ?_) | (refine hsel.skip spare_ro ?_))) | (refine denL_cons ?_ ?_) | (refine sl_like ?_) | ((with_reducible refine withMC_goal ?_); refine withMC_mk rfl ?_) | (refine And.intro ?_ ?_) | (intro hq; (try simp only [BF.H, Cel.eta, Rul.eta, Grd.eta, if_true, if_false, Int.toNat_natCast, Nat.add_zero] at hq); (try simp only [Mix.eta, Grd.eta, hx, e1, pa, pb, oe, om, hn, fa, fb, ms, mz, y1, y2, y3, gq, ra, rb, w1, w2, w3, wq, if_true, decide_true] at hq); (try (exfalso; (try clear hKT hKF); (try clear hK'); (try clear hP'); (try clear hR'); first | omega | (simp [BF.b] at hq; done))))))))
      all_goals (try simp only [Cel.eta, Rul.eta, Grd.eta, Pnt.eta, if_true, if_false, Int.toNat_natCast, Int.toNat_zero, Nat.add_zero, Nat.zero_add])
      all_goals (first | (with_reducible rfl) | (with_reducible exact trivial) | (with_reducible exact splitN_zero) | ((with_reducible refine fsub_goal ?_); exact trivial) | (with_reducible assumption) | ((with_reducible refine ble_goal ?_); rfl) | (with_reducible exact Nat.beq_refl _) | ((with_reducible refine band_goal ?_ ?_); (first | exact Nat.beq_refl _ | rfl | kernel_rfl)) | ((with_reducible refine ble2_goal ?_); (first | rfl | kernel_rfl)) | ((with_reducible refine beq_goal ?_); rfl) | omega | skip)
      all_goals (first | assumption | (with_reducible rfl) | omega | (simp only [Cts.len, List.length_nil]; done) | (simp only [Cts.len, List.length_nil, Int.toNat_natCast, Nat.add_zero, Nat.zero_add]; omega) | exact isSome_of (by assumption) | (simp only [Cts.len, Int.toNat_natCast, Nat.add_zero, Nat.zero_add] at *; first | assumption | omega) | exact int_eq (by omega) | exact cst_eq (by omega) | exact lit_eq (by omega) | exact posx (by omega) | exact opt_getD (posx (by omega)) _ | exact posl (by omega) | exact opt_getD (posl (by omega)) _ | exact posm (by omega) | exact opt_getD (posm (by omega)) _ | exact qosx (by omega) | exact opt_getD (qosx (by omega)) _ | rfl | exact mine_of rfl | (simp only [Mix.eta, Grd.eta] at *; omega) | (simp only [Mix.eta, Grd.eta, hx, e1, pa, pb, oe, om, hn, fa, fb, ms, mz, y1, y2, y3, gq, ra, rb, w1, w2, w3, wq, if_true, decide_true, zl] at *; first | omega | assumption) | (unfold I64; omega) | (intro h99; (first | assumption | (exact (by assumption) h99))) | (exact (‹0 < List.length _ → Option.isSome _ = true›) (by omega)) | (exfalso; simp only [Mix.eta, Grd.eta, hx, e1, pa, pb, oe, om, hn, fa, fb, ms, mz, y1, y2, y3, gq, ra, rb, w1, w2, w3, wq, if_true, decide_true] at *; first | omega | contradiction | (simp at *; done)) | (exfalso; simp [Mix.eta, Grd.eta, hx, e1, pa, pb, oe, om, hn, fa, fb, ms, mz, y1, y2, y3, gq, ra, rb, w1, w2, w3, wq, if_true, decide_true] at *; done) | fail)
    · exact hK.elim
def G44 : List (Nat × Ctr) := (7, c_lawD_PhaseAlone) :: G43
theorem okG44 : GsOk Try.prog G44 := GsOk.cons k_lawD_PhaseAlone okG43
end Go.Proofs.Ytghflfilemhaoaa
set_option linter.unusedSimpArgs false
set_option linter.unusedVariables false
namespace Go.Proofs.Ytghflfilemhaoaa
open Go.Sy Go.RowKit Go.ChangeShapes Go.WideShapes Go.ChangeAt
theorem own : ownKnob Try.prog.godebug = none := by kernel_rfl
theorem laidOut : laidOutB Try.prog = true := by kernel_rfl
set_option maxRecDepth 100000 in
theorem phaseAlone_lifted (os : Os) (started : os.Started) (H : Type) (enc : TypeId × Value → H) :
    ReturnsInHanded {} Try.checked os 7 .any (Rows.phaseAloneSpec.pre6 enc Try.prog Try.f7 Rows.phaseAloneRow.domain false) (Rows.phaseAloneSpec.post enc Try.prog Try.f7 false true false false) := by
  refine returnsInHanded_of_change (C := Try.checked) own started (by kernel_rfl) Try.func7
    (ChangeSpec.witness6 (enc := enc) (C := Try.checked) false ⟨#[], #[.agg #[.int .i64 0, .int .i64 0, .slice none 0 0, .slice none 0 0], .slice none 0 0, .slice none 0 0], []⟩ 8 (by kernel_rfl) (by kernel_rfl) (by kernel_rfl) (by kernel_rfl)) ?_
  intro W base args ds gs before hval0 hW hcnd _
  have hval : ∀ (j : Nat) t v, Try.f7.params[j]? = some t → args[j]? = some v → Value.okWide Try.prog W .any base t v := hval0
  have hW' := hW
  obtain ⟨p, q, hA0, hV, rfl, hfz, hnd⟩ := hW
  have hA : DataW.TrodAll enc Try.prog W 0 (fun _ => true) true Try.f7.params.toList args.toList ds p := hA0
  rw [Try.params7] at hA hval
  obtain ⟨v0, vs0, d0, ds0, p0, q0, hargs, rfl, rfl, h0, r0⟩ := trodAll_cons hA
  obtain ⟨v1, vs1, d1, ds1, p1, q1, rfl, rfl, rfl, h1, r1⟩ := trodAll_cons r0
  obtain ⟨v2, vs2, d2, ds2, p2, q2, rfl, rfl, rfl, h2, r2⟩ := trodAll_cons r1
  obtain ⟨rfl, rfl, rfl⟩ := trodAll_nil r2
  obtain rfl : args = #[v0, v1, v2] := by apply Array.ext'; exact hargs
  obtain ⟨x, ax, capx, bx, dapx, rfl, i_x, posx, qosx, b_x, bb_x⟩ := open_mix (t := 24) (by kernel_rfl) (by kernel_rfl) (hval 0 24 _ rfl rfl) h0
  obtain ⟨l, al, capl, rfl, le_l, mx_l, posl, b_l⟩ := open_lr Try.underlying50 (by kernel_rfl) (by kernel_rfl) (hval 1 50 _ rfl rfl) h1
  obtain ⟨m, am, capm, rfl, le_m, mx_m, posm, b_m⟩ := open_lr Try.underlying50 (by kernel_rfl) (by kernel_rfl) (hval 2 50 _ rfl rfl) h2
  obtain ⟨v, hv, hc⟩ := k_lawD_PhaseAlone.get ⟨_, Try.func7, (by kernel_rfl), rfl⟩ [.agg [.int .i64 x.w, .int .i64 x.h, .sl 0 ax 0 4 x.a.length capx, .sl 1 bx 0 4 x.b.length dapx], .sl 2 al 0 2 l.length capl, .sl 3 am 0 2 m.length capm] [⟨ax, false, .ro, .cx x.a⟩, ⟨bx, false, .ro, .cx x.b⟩, ⟨al, false, .ro, .rx l⟩, ⟨am, false, .ro, .rx m⟩] (fun v => den v = .bool true) (⟨⟨rfl, rfl, rfl, posx⟩, ⟨⟨rfl, rfl, rfl, qosx⟩, ⟨⟨rfl, rfl, rfl, posl⟩, ⟨⟨rfl, rfl, rfl, posm⟩, ⟨⟨⟨i_x.2.2.1, i_x.2.2.2⟩, Nat.le_trans le_l mx_l, Nat.le_trans le_m mx_m⟩, rfl⟩⟩⟩⟩⟩)
  refine (hc W (fun _ hb => by simp only [List.mem_cons, List.not_mem_nil, or_false] at hb; rcases hb with rfl | rfl | rfl | rfl <;> first | exact b_x | exact bb_x | exact b_l | exact b_m)).mono fun e W' ⟨he, hb⟩ => ⟨_, by rw [he, hv], law_step (tb := 4) laidOut (by kernel_rfl) rfl Try.underlying4 rfl (fun ds hl => ?_) hW' hb⟩
  match ds, hl with
  | [_, _, _], _ => exact ⟨rfl, rfl, rfl⟩
theorem phaseAlone_holds : Rows.PhaseAloneSaid :=
  OpenClaim.holds_of_wide 7 Try.f7 rfl rfl rfl rfl rfl rfl rfl ⟨rfl, rfl, rfl, rfl, rfl⟩ rfl rfl rfl rfl rfl (by kernel_rfl) Try.func7 (by kernel_rfl)
    (of_decide_eq_true (by kernel_rfl)) (by unfold Func.isWrapper; rw [if_neg (of_decide_eq_false (by kernel_rfl))]; exact ⟨rfl, rfl⟩)
    (fun os started H enc _ => phaseAlone_lifted os started H enc)
#print axioms phaseAlone_holds
end Go.Proofs.Ytghflfilemhaoaa
