/- Contracts: what the functions hand back. -/
import Derived.Test.YtghflfilemhaoaaKPF
set_option linter.unusedSimpArgs false
set_option linter.unusedVariables false
set_option maxRecDepth 100000
namespace Go.Proofs.Ytghflfilemhaoaa
open Go.Sy Go.RowKit

def c_lawD_PhaseParts : Ctr := fun args hp K => match args with
  | [x0, x1, x2] => m1 x0 hp fun x => g1 x1 hp fun a => g1 x2 hp fun b => ((x.a.length ≤ 9223372036854775807 ∧ x.b.length ≤ 9223372036854775807) ∧ a.cs.length ≤ 9223372036854775807 ∧ b.cs.length ≤ 9223372036854775807) ∧ K (.bool .tt)
  | _ => False
noncomputable def X_lawD_PhaseParts : Env Try.prog := ⟨Try.f4.ntmps, TT, G40, E17, Try.f4.results.toList, [(5, .h [0, 1, 2, 3, 4, 5, 7, 8, 9, 10, 12, 14, 15] (.pure 0 (.pure 1 (.pure 2 (.pure 3 (.pure 4 (.pure 5 (.s1 6 [4, 5] (.pure 7 (.pure 8 (.pure 9 (.pure 10 (.pure 12 (.s1 11 [10] (.s1 13 [12] (.pure 14 (.pure 15 (.done))))))))))))))))))], TT_ok, okG40, okE17, mixed⟩
set_option maxHeartbeats 8000000 in
theorem k_lawD_PhaseParts : COk Try.prog 4 c_lawD_PhaseParts :=
  ctr_of_wk X_lawD_PhaseParts Try.func4 rfl (by kernel_rfl) rfl rfl fun args hp K hK => by
    unfold c_lawD_PhaseParts at hK
    split at hK
    · obtain ⟨x, ax, capx, bx, dapx, hK1, e0, posx, qosx, vwx, vxx⟩ := iff_m1 hK; clear hK; have hK := hK1; clear hK1
      obtain ⟨a, aa, capa, hK1, e1, posa, vwa⟩ := iff_g1 hK; clear hK; have hK := hK1; clear hK1
      obtain ⟨b, ab, capb, hK1, e2, posb, vwb⟩ := iff_g1 hK; clear hK; have hK := hK1; clear hK1
      obtain ⟨hpre, hK⟩ := hK
      refine ⟨[.agg [.int .i64 x.w, .int .i64 x.h, .sl 0 ax 0 4 x.a.length capx, .sl 1 bx 0 4 x.b.length dapx], .agg [.int .i64 a.w, .int .i64 a.h, .sl 2 aa 0 4 a.cs.length capa], .agg [.int .i64 b.w, .int .i64 b.h, .sl 3 ab 0 4 b.cs.length capb]], [⟨ax, false, .ro, .cx x.a⟩, ⟨bx, false, .ro, .cx x.b⟩, ⟨aa, false, .ro, .cx a.cs⟩, ⟨ab, false, .ro, .cx b.cs⟩], _, denL_cons (e0) (denL_cons (e1) (denL_cons (e2) (rfl))), ⟨trivial, ⟨trivial, ⟨trivial, ⟨trivial, trivial⟩⟩⟩⟩, fun w hw b hb => (by simp only [List.mem_cons, List.not_mem_nil, or_false] at hb; rcases hb with rfl | rfl | rfl | rfl <;> first | exact vwx w hw | exact vxx w hw | exact vwa w hw | exact vwb w hw), hK, Nat.le_of_ble_eq_true rfl, ?_⟩
      clear hK
      rcases part_ways x with ⟨hv, he, hA, hB, hC⟩ | ⟨hv, he, hA, hB, hC, ha, hb, f1, f2, hl, hE, hM⟩
      all_goals (repeat' (first | (refine Wk.op ?_; intro K' hK') | (refine Wk.xqOp ?_; intro K' hK') | (refine Wk.rgOne ?_; intro K' hK') | (refine Wk.rgPure ?_; intro K' hK') | (refine Wk.rgX ?_; intro K' hK') | (refine Wk.xqNew ?_; intro K' hK') | (refine Wk.xqEnd ?_) | (refine Wk.rgDone ?_) | (refine Wk.rgTwo ?_ ?_ <;> intro K' hK') | (refine Wk.rgH ?_ ?_) | (refine Wk.rsTake ?_; intro K' hK') | (refine Wk.rsOne ?_ (fun K' hK' => ?_)) | (refine Wk.rsTwo ?_ ?_ (fun K' hK' => ?_) (fun K' hK' => ?_)) | (refine Wk.rsDone ?_) | (refine hK' _ _ ?_ ?_ <;> clear hK' K') | (refine hK' _ _ ?_; clear hK' K') | (refine hK' _ ?_; clear hK' K') | (refine hKT _ ?_; clear hKT hKF KT KF) | (refine hKF _ ?_; clear hKT hKF KT KF) | (refine Wk.cond ?_; intro KT KF hKT hKF) | (refine Wk.ret ?_) | (refine Wk.draw ?_ ?_ ?_; rotate_left 2; (intro K' hK')) | (refine Wk.step rfl ?_) | (refine Wk.done ?_) | (refine Fin.plain trivial ?_) | ((with_reducible refine top_goal ?_); kernel_rfl) | ((with_reducible refine takes_goal ?_); kernel_rfl) | ((with_reducible refine drop_goal ?_); kernel_rfl) | ((with_reducible refine held_goal ?_); (repeat refine And.intro rfl ?_); exact trivial) | ((with_reducible refine allB_goal ?_); kernel_rfl) | ((with_reducible refine mine_goal ?_); exact mine_of rfl) | ((with_reducible refine withV_goal ?_); refine withV_mk rfl ?_) | ((with_reducible refine hsel_goal ?_); (first | (exact hsel.nil) | (refine hsel.take (HB.like.refl _) (.inr fun _ h => h) ?_) | (refine hsel.take (like_cts ?_) (.inl rfl) ?_) | (refine hsel.skip (spare_own rfl rfl) ?_) | (refine hsel.skip spare_ro ?_))) | (refine And.intro ?_ ?_) | (intro hq; (try simp only [BF.H, Cel.eta, Rul.eta, Grd.eta, if_true, if_false, Int.toNat_natCast, Nat.add_zero] at hq); (try simp only [hv, he, Mix.eta] at hq); (try simp only [f1, f2, hE, hM] at hq); (try (exfalso; first | omega | (simp [BF.b] at hq; done))))))
      all_goals (try simp only [Cel.eta, Rul.eta, Grd.eta, if_true, if_false, Int.toNat_natCast, Int.toNat_zero, Nat.add_zero, Nat.zero_add])
      all_goals (first | (with_reducible rfl) | (with_reducible exact trivial) | (with_reducible exact splitN_zero) | ((with_reducible refine fsub_goal ?_); exact trivial) | (with_reducible assumption) | ((with_reducible refine ble_goal ?_); rfl) | ((with_reducible refine ble2_goal ?_); (first | rfl | kernel_rfl)) | ((with_reducible refine beq_goal ?_); rfl) | omega | skip)
      all_goals (first | assumption | (with_reducible rfl) | omega | (simp only [Cts.len, List.length_nil]; done) | (simp only [Cts.len, List.length_nil, Int.toNat_natCast, Nat.add_zero, Nat.zero_add]; omega) | exact isSome_of (by assumption) | (simp only [Cts.len, Int.toNat_natCast, Nat.add_zero, Nat.zero_add] at *; first | assumption | omega) | exact int_eq (by omega) | exact cst_eq (by omega) | exact lit_eq (by omega) | exact posx (by omega) | exact opt_getD (posx (by omega)) _ | exact posa (by omega) | exact opt_getD (posa (by omega)) _ | exact posb (by omega) | exact opt_getD (posb (by omega)) _ | exact qosx (by omega) | exact opt_getD (qosx (by omega)) _ | rfl | exact mine_of rfl | exact Nat.le_of_ble_eq_true rfl | (intro h9; (first | assumption | (exact (by assumption) h9))) | (exact (‹0 < List.length _ → Option.isSome _ = true›) (by omega)) | (have ho := of_len a b; omega) | (have hp := pt_len x; omega) | (have hp := pt_len ⟨x.w, x.h, x.a, x.b⟩; simp only at hp; omega) | (rw [f2]; simp only [addC_length]; omega) | (exfalso; simp [hM, hE, hv, he] at *; done) | (rw [hM]; omega))
    · exact hK.elim
def G41 : List (Nat × Ctr) := (4, c_lawD_PhaseParts) :: G40
theorem okG41 : GsOk Try.prog G41 := GsOk.cons k_lawD_PhaseParts okG40
end Go.Proofs.Ytghflfilemhaoaa
