/- Contracts: what the functions hand back. -/
import Derived.Test.YtiknddnlfcilkaaKTH
set_option linter.unusedSimpArgs false
set_option linter.unusedVariables false
set_option maxRecDepth 100000
namespace Go.Proofs.Ytiknddnlfcilkaa
open Go.Sy Go.RowKit

def c_lawG_sum : ECtr := fun args hp K => match args with
  | [.sl i a f 1 m cp] => (match hp[i]? with
    | some ⟨a1, o1, kd1, .ix D⟩ => (noGh hp = true ∧ a = a1 ∧ a.isSome = true ∧ seeK kd1 = true) ∧ (smlD D ∧ f + m ≤ D.length ∧ D.length ≤ 100) ∧ lenK hp 0 fun n => K (.int .i64 (prt D f m)) hp
    | _ => False)
  | _ => False
noncomputable def X_lawG_sum : Env Try.prog := ⟨Try.f8.ntmps, TT, G23, E12, Try.f8.results.toList, [], TT_ok, okG23, okE12, mixed⟩
set_option maxHeartbeats 4000000 in
theorem k_lawG_sum : EOk Try.prog 8 c_lawG_sum :=
  eok_of_wkF X_lawG_sum Try.func8 rfl (by kernel_rfl) rfl rfl fun args hp K hK => by
    unfold c_lawG_sum at hK
    split at hK
    rotate_left
    · exact hK.elim
    rename_i i a f m cp
    split at hK
    rotate_left
    · exact hK.elim
    rename_i a1 o1 kd1 D h_i
    obtain ⟨⟨hng, rfl, sa, q1⟩, ⟨hD, hfm, hdl⟩, hK⟩ := hK
    simp only [lenK_eq, appK_eq, setHK_eq, Nat.zero_add, List.append_assoc, List.cons_append, List.nil_append] at hK
    refine ⟨[.sl 0 a f 1 m cp], [], [], [⟨a, false, .ro, .ix D⟩], denL_cons (rfl) (rfl), hng, FrameOk.of trivial (by simp) ⟨⟨trivial, i, _, h_i, (by simp [false_and]), fun _ h => seen_k q1 h, fun _ h => touch_k q1 h⟩, trivial⟩, Nat.le_of_ble_eq_true rfl, ?_⟩
    clear h_i q1
    repeat' (first | ((with_reducible refine wk_ops ?_); (first | (refine Wk.op ?_; intro K' hK') | (refine Wk.step rfl ?_))) | ((with_reducible refine wk_c ?_); (first | (refine Wk.cond ?_; intro KT KF hKT hKF) | (refine Wk.ret ?_) | (refine Wk.step rfl ?_))) | ((fail_if_success (with_reducible apply g_ile)); (fail_if_success (with_reducible apply g_ilt)); (fail_if_success (with_reducible apply g_nle)); (fail_if_success (with_reducible apply g_nlt)); (fail_if_success (with_reducible apply g_ieq)); (fail_if_success (with_reducible apply g_neq)); (first | (with_reducible refine And.intro ?_ ?_) | (with_reducible refine I64_two ?_ ?_) | ((with_reducible intro hq); (try simp only [BF.H, Cel.eta, Rul.eta, Grd.eta, if_true, if_false, Int.toNat_natCast, Nat.add_zero] at hq); (try (exfalso; (try clear hKT hKF); (try clear hK'); (try clear hP'); (try clear hR'); first | omega | (simp [BF.b] at hq; done)))) | (refine hK' _ _ ?_; clear hK' K') | (refine hKT _ ?_; clear hKT hKF KT KF) | (refine hKF _ ?_; clear hKT hKF KT KF) | (refine Wk.op ?_; intro K' hK') | (refine Wk.cond ?_; intro KT KF hKT hKF) | (refine Wk.ret ?_) | (refine Wk.step rfl ?_) | (refine Wk.inv (X := X_lawG_sum) (t := .b 0 :: _) (ι := Nat) (fun k => k ≤ m) [0] (fun k => [(3, .int .i64 (prt D f k)), (4, .int .i64 (k : Int))]) (fun k => []) (fun k => m - k) ?_; intro K' hK'; ((refine hK' _ ⟨0, ?_, ?_, ?_⟩ ?_) <;> clear hK' K'); rotate_left 3; (intro k hi; have hO : k ≤ m := hi; clear hi; have hb := prt_bd hD f k (by omega))) | (refine Wk.k (X := X_lawG_sum) (t := .b 0 :: _) ⟨k + 1, ?_, ?_, ?_, ?_⟩) | (refine Wk.done ?_) | (refine Fin.plain trivial ?_) | ((with_reducible refine top_goal ?_); kernel_rfl) | ((with_reducible refine takes_goal ?_); kernel_rfl) | ((with_reducible refine drop_goal ?_); kernel_rfl) | ((with_reducible refine held_goal ?_); (repeat refine And.intro rfl ?_); exact trivial) | ((with_reducible refine allB_goal ?_); kernel_rfl) | ((with_reducible refine mine_goal ?_); exact mine_of rfl) | ((with_reducible refine withV_goal ?_); refine withV_mk rfl ?_) | ((with_reducible refine hsel_goal ?_); (first | (exact hsel.nil) | (refine hsel.take (HB.like.refl _) (.inr fun _ h => h) ?_) | (refine hsel.take (like_cts ?_) (.inl rfl) ?_) | (refine hsel.take (like_cts ?_) (.inr fun _ h => h) ?_) | (refine hsel.skip (spare_own rfl rfl) ?_) | (refine hsel.skip spare_ro ?_))) | ((with_reducible refine withMC_goal ?_); refine withMC_mk rfl ?_) | (refine And.intro ?_ ?_) | (intro hq; (try simp only [BF.H, Cel.eta, Rul.eta, Grd.eta, if_true, if_false, Int.toNat_natCast, Nat.add_zero] at hq); (try (exfalso; (try clear hKT hKF); (try clear hK'); (try clear hP'); (try clear hR'); first | omega | (simp [BF.b] at hq; done)))))))
    all_goals (try simp only [Cel.eta, Rul.eta, Grd.eta, Pnt.eta, if_true, if_false, Int.toNat_natCast, Int.toNat_zero, Nat.add_zero, Nat.zero_add])
    all_goals (try (first | (refine retG_in ?_; (first  | (refine ret_F (v' := .int .i64 (prt D f m)) [] [] [] (by decide) rfl fu_nil fn_nil ?_ (by rw [List.append_nil]; exact hK) ?_)))))
    all_goals (first | (with_reducible rfl) | (with_reducible exact trivial) | (with_reducible exact splitN_zero) | ((with_reducible refine fsub_goal ?_); exact trivial) | (with_reducible assumption) | ((with_reducible refine ble_goal ?_); rfl) | (with_reducible exact Nat.beq_refl _) | ((with_reducible refine band_goal ?_ ?_); (first | exact Nat.beq_refl _ | rfl | kernel_rfl)) | ((with_reducible refine ble2_goal ?_); (first | rfl | kernel_rfl)) | ((with_reducible refine beq_goal ?_); rfl) | omega | skip)
    all_goals (first | assumption | (with_reducible rfl) | omega | (simp only [Cts.len, List.length_nil]; done) | (simp only [Cts.len, List.length_nil, Int.toNat_natCast, Nat.add_zero, Nat.zero_add]; omega) | exact isSome_of (by assumption) | (simp only [Cts.len, Int.toNat_natCast, Nat.add_zero, Nat.zero_add] at *; first | assumption | omega) | exact int_eq (by omega) | exact cst_eq (by omega) | exact lit_eq (by omega) | rfl | exact mine_of rfl | exact sa | exact opt_getD sa _ | (rw [prt_zero]; done) | (rw [prt_zero]; rfl) | (have h9 := hD.bd (f + k) (by omega); omega) | (have h9 := hD.bd (k + f) (by omega); omega) | (rw [prt_succ (by omega), show k + f = f + k by omega]; done) | (rw [prt_succ (by omega), show k + f = f + k by omega]; rfl) | (rw [prt_succ (by omega)]; done) | (rw [prt_succ (by omega)]; rfl) | (rw [show m = k by omega]; done) | (rw [show m = k by omega]; rfl) | (refine int_eq ?_; rw [show m = k by omega]) | fail)
noncomputable def E13 : List (Nat × ECtr) := (8, c_lawG_sum) :: E12
theorem okE13 : EsOk Try.prog E13 := EsOk.cons k_lawG_sum okE12
end Go.Proofs.Ytiknddnlfcilkaa
