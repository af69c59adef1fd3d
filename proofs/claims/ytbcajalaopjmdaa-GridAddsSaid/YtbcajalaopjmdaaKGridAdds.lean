/- Contracts: what the functions hand back. -/
import Derived.Test.YtbcajalaopjmdaaKGQ
import Derived.Test.YtbcajalaopjmdaaSpPuts
set_option linter.unusedSimpArgs false
set_option linter.unusedVariables false
set_option maxRecDepth 100000
namespace Go.Proofs.Ytbcajalaopjmdaa
open Go.Sy Go.RowKit

def c_lawB_awake : Ctr := fun args _ K => match args with
  | [] => K (.bool .tt)
  | _ => False
noncomputable def X_lawB_awake : Env Try.prog := ⟨Try.f17.ntmps, TT, G65, E65, Try.f17.results.toList, [], TT_ok, okG65, okE65, mixed⟩
theorem k_lawB_awake : COk Try.prog 17 c_lawB_awake :=
  ctr_of_wk X_lawB_awake Try.func17 rfl (by kernel_rfl) rfl rfl fun args hp K hK => by
    unfold c_lawB_awake at hK
    split at hK
    · refine ⟨[], [], _, rfl, trivial, fun _ _ b hb => (by cases hb), hK, Nat.le_of_ble_eq_true rfl, ?_⟩
      clear hK
      have hA := awakePer
      repeat' (first | (refine Wk.op ?_; intro K' hK') | (refine Wk.xqOp ?_; intro K' hK') | (refine Wk.rgOne ?_; intro K' hK') | (refine Wk.rgPure ?_; intro K' hK') | (refine Wk.rgX ?_; intro K' hK') | (refine Wk.xqNew ?_; intro K' hK') | (refine Wk.xqEnd ?_) | (refine Wk.rgDone ?_) | (refine Wk.rgTwo ?_ ?_ <;> intro K' hK') | (refine Wk.rgH ?_ ?_) | (refine Wk.rsTake ?_; intro K' hK') | (refine Wk.rsOne ?_ (fun K' hK' => ?_)) | (refine Wk.rsTwo ?_ ?_ (fun K' hK' => ?_) (fun K' hK' => ?_)) | (refine Wk.rsDone ?_) | (refine hK' _ _ ?_ ?_ <;> clear hK' K') | (refine hK' _ _ ?_; clear hK' K') | (refine hK' _ ?_; clear hK' K') | (refine hKT _ ?_; clear hKT hKF KT KF) | (refine hKF _ ?_; clear hKT hKF KT KF) | (refine Wk.cond ?_; intro KT KF hKT hKF) | (refine Wk.ret ?_) | (refine Wk.draw ?_ ?_ ?_; rotate_left 2; (intro K' hK')) | (refine Wk.step rfl ?_) | (refine Wk.done ?_) | (refine Fin.plain trivial ?_) | ((with_reducible refine top_goal ?_); kernel_rfl) | ((with_reducible refine takes_goal ?_); kernel_rfl) | ((with_reducible refine drop_goal ?_); kernel_rfl) | ((with_reducible refine held_goal ?_); (repeat refine And.intro rfl ?_); exact trivial) | ((with_reducible refine allB_goal ?_); kernel_rfl) | ((with_reducible refine mine_goal ?_); exact mine_of rfl) | ((with_reducible refine withV_goal ?_); refine withV_mk rfl ?_) | ((with_reducible refine hsel_goal ?_); (first | (exact hsel.nil) | (refine hsel.take (HB.like.refl _) (.inr fun _ h => h) ?_) | (refine hsel.take (like_l ?_) (.inl rfl) ?_) | (refine hsel.take (like_cts ?_) (.inl rfl) ?_) | (refine hsel.skip (spare_own rfl rfl) ?_) | (refine hsel.skip spare_ro ?_))) | (refine denL_cons ?_ ?_) | (refine sl_like ?_) | (refine And.intro ?_ ?_) | (intro hq; (try simp only [BF.H, Cel.eta, Rul.eta, Grd.eta, if_true, if_false, Int.toNat_natCast, Nat.add_zero] at hq); (try simp only [hA] at hq); (try (exfalso; first | omega | (simp [BF.b] at hq; done)))))
      all_goals (try simp only [Cel.eta, Rul.eta, Grd.eta, if_true, if_false, Int.toNat_natCast, Int.toNat_zero, Nat.add_zero, Nat.zero_add])
      all_goals (first | (with_reducible rfl) | (with_reducible exact trivial) | (with_reducible exact splitN_zero) | ((with_reducible refine fsub_goal ?_); exact trivial) | (with_reducible assumption) | ((with_reducible refine ble_goal ?_); rfl) | ((with_reducible refine ble2_goal ?_); (first | rfl | kernel_rfl)) | ((with_reducible refine beq_goal ?_); rfl) | omega | skip)
      all_goals (first | assumption | (with_reducible rfl) | omega | (simp only [Cts.len, List.length_nil]; done) | (simp only [Cts.len, List.length_nil, Int.toNat_natCast, Nat.add_zero, Nat.zero_add]; omega) | exact isSome_of (by assumption) | (simp only [Cts.len, Int.toNat_natCast, Nat.add_zero, Nat.zero_add] at *; first | assumption | omega) | exact int_eq (by omega) | exact cst_eq (by omega) | exact lit_eq (by omega) | rfl)
    · exact hK.elim
def G66 : List (Nat × Ctr) := (17, c_lawB_awake) :: G65
theorem okG66 : GsOk Try.prog G66 := GsOk.cons k_lawB_awake okG65
noncomputable def X_lawB_Small : Env Try.prog := ⟨Try.f16.ntmps, TT, G66, E65, Try.f16.results.toList, [], TT_ok, okG66, okE65, mixed⟩
noncomputable def code_lawB_Small : Code := match Try.f16.body with | some c => c | none => .skip
theorem k_lawB_Small : EOk Try.prog 16 (inl X_lawB_Small code_lawB_Small) := inl_ok X_lawB_Small Try.func16 rfl (by kernel_rfl) rfl rfl
noncomputable def E66 : List (Nat × ECtr) := (16, inl X_lawB_Small code_lawB_Small) :: E65
theorem okE66 : EsOk Try.prog E66 := EsOk.cons k_lawB_Small okE65
def c_lawB_GridAdds : Ctr := fun args hp K => match args with
  | [x0, x1] => g1 x0 hp fun a => g1 x1 hp fun b => (a.cs.length ≤ 9223372036854775807 ∧ b.cs.length ≤ 9223372036854775807) ∧ K (.bool .tt)
  | _ => False
noncomputable def X_lawB_GridAdds : Env Try.prog := ⟨Try.f5.ntmps, TT, G66, E66, Try.f5.results.toList, [], TT_ok, okG66, okE66, mixed⟩
set_option maxHeartbeats 8000000 in
theorem k_lawB_GridAdds : COk Try.prog 5 c_lawB_GridAdds :=
  ctr_of_wk X_lawB_GridAdds Try.func5 rfl (by kernel_rfl) rfl rfl fun args hp K hK => by
    unfold c_lawB_GridAdds at hK
    split at hK
    · obtain ⟨a, aa, capa, hK1, e0, posa, vwa⟩ := iff_g1 hK; clear hK; have hK := hK1; clear hK1
      obtain ⟨b, ab, capb, hK1, e1, posb, vwb⟩ := iff_g1 hK; clear hK; have hK := hK1; clear hK1
      obtain ⟨hpre, hK⟩ := hK
      refine ⟨[.agg [.int .i64 a.w, .int .i64 a.h, .sl 0 aa 0 4 a.cs.length capa], .agg [.int .i64 b.w, .int .i64 b.h, .sl 1 ab 0 4 b.cs.length capb]], [⟨aa, false, .ro, .cx a.cs⟩, ⟨ab, false, .ro, .cx b.cs⟩], _, denL_cons (e0) (denL_cons (e1) (rfl)), ⟨trivial, ⟨trivial, trivial⟩⟩, fun w hw b hb => (by simp only [List.mem_cons, List.not_mem_nil, or_false] at hb; rcases hb with rfl | rfl <;> first | exact vwa w hw | exact vwb w hw), hK, Nat.le_of_ble_eq_true rfl, ?_⟩
      clear hK
      have hln := add_len a b; have hln2 := dif_len a b; rcases dif_cases a b with he | ⟨he, hlz⟩
      all_goals (repeat' (first | (refine Wk.op ?_; intro K' hK') | (refine Wk.xqOp ?_; intro K' hK') | (refine Wk.rgOne ?_; intro K' hK') | (refine Wk.rgPure ?_; intro K' hK') | (refine Wk.rgX ?_; intro K' hK') | (refine Wk.xqNew ?_; intro K' hK') | (refine Wk.xqEnd ?_) | (refine Wk.rgDone ?_) | (refine Wk.rgTwo ?_ ?_ <;> intro K' hK') | (refine Wk.rgH ?_ ?_) | (refine Wk.rsTake ?_; intro K' hK') | (refine Wk.rsOne ?_ (fun K' hK' => ?_)) | (refine Wk.rsTwo ?_ ?_ (fun K' hK' => ?_) (fun K' hK' => ?_)) | (refine Wk.rsDone ?_) | (refine hK' _ _ ?_ ?_ <;> clear hK' K') | (refine hK' _ _ ?_; clear hK' K') | (refine hK' _ ?_; clear hK' K') | (refine hKT _ ?_; clear hKT hKF KT KF) | (refine hKF _ ?_; clear hKT hKF KT KF) | (refine Wk.cond ?_; intro KT KF hKT hKF) | (refine Wk.ret ?_) | (refine Wk.draw ?_ ?_ ?_; rotate_left 2; (intro K' hK')) | (refine Wk.step rfl ?_) | (refine Wk.done ?_) | (refine Fin.plain trivial ?_) | ((with_reducible refine top_goal ?_); kernel_rfl) | ((with_reducible refine takes_goal ?_); kernel_rfl) | ((with_reducible refine drop_goal ?_); kernel_rfl) | ((with_reducible refine held_goal ?_); (repeat refine And.intro rfl ?_); exact trivial) | ((with_reducible refine allB_goal ?_); kernel_rfl) | ((with_reducible refine mine_goal ?_); exact mine_of rfl) | ((with_reducible refine withV_goal ?_); refine withV_mk rfl ?_) | ((with_reducible refine hsel_goal ?_); (first | (exact hsel.nil) | (refine hsel.take (HB.like.refl _) (.inr fun _ h => h) ?_) | (refine hsel.take (like_l ?_) (.inl rfl) ?_) | (refine hsel.take (like_cts ?_) (.inl rfl) ?_) | (refine hsel.skip (spare_own rfl rfl) ?_) | (refine hsel.skip spare_ro ?_))) | (refine denL_cons ?_ ?_) | (refine sl_like ?_) | (refine And.intro ?_ ?_) | (intro hq; (try simp only [BF.H, Cel.eta, Rul.eta, Grd.eta, if_true, if_false, Int.toNat_natCast, Nat.add_zero] at hq); (try simp only [he] at hq); (try (exfalso; first | omega | (simp [BF.b] at hq; done))))))
      all_goals (try simp only [Cel.eta, Rul.eta, Grd.eta, if_true, if_false, Int.toNat_natCast, Int.toNat_zero, Nat.add_zero, Nat.zero_add])
      all_goals (first | (with_reducible rfl) | (with_reducible exact trivial) | (with_reducible exact splitN_zero) | ((with_reducible refine fsub_goal ?_); exact trivial) | (with_reducible assumption) | ((with_reducible refine ble_goal ?_); rfl) | ((with_reducible refine ble2_goal ?_); (first | rfl | kernel_rfl)) | ((with_reducible refine beq_goal ?_); rfl) | omega | skip)
      all_goals (first | assumption | (with_reducible rfl) | omega | (simp only [Cts.len, List.length_nil]; done) | (simp only [Cts.len, List.length_nil, Int.toNat_natCast, Nat.add_zero, Nat.zero_add]; omega) | exact isSome_of (by assumption) | (simp only [Cts.len, Int.toNat_natCast, Nat.add_zero, Nat.zero_add] at *; first | assumption | omega) | exact int_eq (by omega) | exact cst_eq (by omega) | exact lit_eq (by omega) | exact posa (by omega) | exact opt_getD (posa (by omega)) _ | exact posb (by omega) | exact opt_getD (posb (by omega)) _ | rfl | exact mine_of rfl | exact Nat.le_of_ble_eq_true rfl | exact hpre.1 | exact hpre.2 | exact hpre.2.1 | exact hpre.2.2 | (rw [hln.1]; omega) | (rw [hln.2.1]; omega) | (rw [hln.2.2]; omega) | (exfalso; simp only [BF.b] at hq; rw [show decide (((difV a b).length : Int) = 0) = decide ((difV a b).length = 0) from decide_eq_decide.2 (by omega), hlz] at hq; simp at hq; done) | (exfalso; simp [hlz] at *; done) | (exfalso; simp at *; done) | (intro h9; (first | assumption | (exact (by assumption) h9))) | (exact (‹0 < List.length _ → Option.isSome _ = true›) (by omega)) | exact hpre.2.2.1.1 | exact hpre.2.2.1.2 | exact hpre.2.2.2.1 | exact hpre.2.2.2.2 | exact hpre.2.2 | exact hpre.2.2.1 | exact hpre.2.2.2 | (unfold I64; omega) | exact I64_mk (by omega) (by omega) | (have ha := hln; omega) | (have ha := hln; have hb := hln2; omega))
    · exact hK.elim
def G67 : List (Nat × Ctr) := (5, c_lawB_GridAdds) :: G66
theorem okG67 : GsOk Try.prog G67 := GsOk.cons k_lawB_GridAdds okG66
end Go.Proofs.Ytbcajalaopjmdaa
