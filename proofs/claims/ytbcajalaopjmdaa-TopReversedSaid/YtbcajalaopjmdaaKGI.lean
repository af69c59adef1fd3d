/- Contracts: what the functions hand back. -/
import Derived.Test.YtbcajalaopjmdaaKGH
set_option linter.unusedSimpArgs false
set_option linter.unusedVariables false
set_option maxRecDepth 100000
namespace Go.Proofs.Ytbcajalaopjmdaa
open Go.Sy Go.RowKit

def c_refB_Same : Ctr := fun args hp K => match args with
  | [x0, x1] => g1 x0 hp fun a => g1 x1 hp fun b => (a.cs.length ≤ 1200 ∧ b.cs.length ≤ 1200) ∧ K (.bool (.atom (decide (a = b))))
  | _ => False
noncomputable def X_refB_Same : Env Try.prog := ⟨Try.f20.ntmps, TT, G54, E29, Try.f20.results.toList, [], TT_ok, okG54, okE29, mixed⟩
theorem k_refB_Same : COk Try.prog 20 c_refB_Same :=
  ctr_of_wk X_refB_Same Try.func20 rfl (by kernel_rfl) rfl rfl fun args hp K hK => by
    unfold c_refB_Same at hK
    split at hK
    · obtain ⟨a, aa, capa, hK1, e0, posa, vwa⟩ := iff_g1 hK; clear hK; have hK := hK1; clear hK1
      obtain ⟨b, ab, capb, hK1, e1, posb, vwb⟩ := iff_g1 hK; clear hK; have hK := hK1; clear hK1
      obtain ⟨hpre, hK⟩ := hK
      refine ⟨[.agg [.int .i64 a.w, .int .i64 a.h, .sl 0 aa 0 4 a.cs.length capa], .agg [.int .i64 b.w, .int .i64 b.h, .sl 1 ab 0 4 b.cs.length capb]], [⟨aa, false, .ro, .cx a.cs⟩, ⟨ab, false, .ro, .cx b.cs⟩], _, denL_cons (e0) (denL_cons (e1) (rfl)), ⟨trivial, ⟨trivial, trivial⟩⟩, fun w hw b hb => (by simp only [List.mem_cons, List.not_mem_nil, or_false] at hb; rcases hb with rfl | rfl <;> first | exact vwa w hw | exact vwb w hw), hK, Nat.le_of_ble_eq_true rfl, ?_⟩
      clear hK
      repeat' (first | (refine Wk.op ?_; intro K' hK') | (refine Wk.xqOp ?_; intro K' hK') | (refine Wk.rgOne ?_; intro K' hK') | (refine Wk.rgPure ?_; intro K' hK') | (refine Wk.rgX ?_; intro K' hK') | (refine Wk.xqNew ?_; intro K' hK') | (refine Wk.xqEnd ?_) | (refine Wk.rgDone ?_) | (refine Wk.rgTwo ?_ ?_ <;> intro K' hK') | (refine Wk.rgH ?_ ?_) | (refine Wk.rsTake ?_; intro K' hK') | (refine Wk.rsOne ?_ (fun K' hK' => ?_)) | (refine Wk.rsTwo ?_ ?_ (fun K' hK' => ?_) (fun K' hK' => ?_)) | (refine Wk.rsDone ?_) | (refine hK' _ _ ?_ ?_ <;> clear hK' K') | (refine hK' _ _ ?_; clear hK' K') | (refine hK' _ ?_; clear hK' K') | (refine hKT _ ?_; clear hKT hKF KT KF) | (refine hKF _ ?_; clear hKT hKF KT KF) | (refine Wk.cond ?_; intro KT KF hKT hKF) | (refine Wk.ret ?_) | (refine Wk.draw ?_ ?_ ?_; rotate_left 2; (intro K' hK')) | (refine Wk.step rfl ?_) | (refine Wk.done ?_) | (refine Fin.plain trivial ?_) | ((with_reducible refine top_goal ?_); kernel_rfl) | ((with_reducible refine takes_goal ?_); kernel_rfl) | ((with_reducible refine drop_goal ?_); kernel_rfl) | ((with_reducible refine held_goal ?_); (repeat refine And.intro rfl ?_); exact trivial) | ((with_reducible refine allB_goal ?_); kernel_rfl) | ((with_reducible refine mine_goal ?_); exact mine_of rfl) | ((with_reducible refine withV_goal ?_); refine withV_mk rfl ?_) | ((with_reducible refine hsel_goal ?_); (first | (exact hsel.nil) | (refine hsel.take (HB.like.refl _) (.inr fun _ h => h) ?_) | (refine hsel.take (like_l ?_) (.inl rfl) ?_) | (refine hsel.take (like_cts ?_) (.inl rfl) ?_) | (refine hsel.skip (spare_own rfl rfl) ?_) | (refine hsel.skip spare_ro ?_))) | (refine denL_cons ?_ ?_) | (refine sl_like ?_) | (refine And.intro ?_ ?_) | (intro hq; (try simp only [BF.H, Cel.eta, Rul.eta, Grd.eta, if_true, if_false, Int.toNat_natCast, Nat.add_zero] at hq); (try (exfalso; first | omega | (simp [BF.b] at hq; done)))))
      all_goals (try simp only [Cel.eta, Rul.eta, Grd.eta, if_true, if_false, Int.toNat_natCast, Int.toNat_zero, Nat.add_zero, Nat.zero_add])
      all_goals (first | (with_reducible rfl) | (with_reducible exact trivial) | (with_reducible exact splitN_zero) | ((with_reducible refine fsub_goal ?_); exact trivial) | (with_reducible assumption) | ((with_reducible refine ble_goal ?_); rfl) | ((with_reducible refine ble2_goal ?_); (first | rfl | kernel_rfl)) | ((with_reducible refine beq_goal ?_); rfl) | omega | skip)
      all_goals (first | assumption | (with_reducible rfl) | omega | (simp only [Cts.len, List.length_nil]; done) | (simp only [Cts.len, List.length_nil, Int.toNat_natCast, Nat.add_zero, Nat.zero_add]; omega) | exact isSome_of (by assumption) | (simp only [Cts.len, Int.toNat_natCast, Nat.add_zero, Nat.zero_add] at *; first | assumption | omega) | exact int_eq (by omega) | exact cst_eq (by omega) | exact lit_eq (by omega) | exact posa (by omega) | exact opt_getD (posa (by omega)) _ | exact posb (by omega) | exact opt_getD (posb (by omega)) _ | rfl | exact res_ff (gne_w (by omega)) | exact res_ff (gne_h (by omega)) | exact res_f' (gne_w (by omega)) | exact res_f' (gne_h (by omega)) | exact res_b (geq_c (by omega) (by omega)))
    · exact hK.elim
def G55 : List (Nat × Ctr) := (20, c_refB_Same) :: G54
theorem okG55 : GsOk Try.prog G55 := GsOk.cons k_refB_Same okG54
def c_refB_collided : ECtr := fun args hp K => match args with
  | [x0, x1] => g1 x0 hp fun g => r1 x1 fun r => (g.ok = true ∧ r.ok = true) ∧ lenK hp 0 fun n => ∀ (ad : Option Nm) (cap bc : Nat), (0 < (aft r g.cs).length → ad.isSome = true) → ((aft r g.cs).length ≤ cap ∧ cap ≤ 9223372036854775807) → appK hp ⟨ad, true, .wr 61 bc, .cx (aft r g.cs)⟩ fun hp' => K (.agg [.int .i64 g.w, .int .i64 g.h, .sl n ad 0 4 (aft r g.cs).length cap]) hp'
  | _ => False
noncomputable def X_refB_collided : Env Try.prog := ⟨Try.f133.ntmps, TT, G55, E29, Try.f133.results.toList, [(5, .x [0, 1, 2, 3, 4, 5, 6, 7, 8, 9, 10] [] (.one 11 (.done)))], TT_ok, okG55, okE29, mixed⟩
set_option maxHeartbeats 4000000 in
theorem k_refB_collided : EOk Try.prog 133 c_refB_collided :=
  eok_of_wk X_refB_collided Try.func133 rfl (by kernel_rfl) rfl rfl fun args hp K hK => by
    unfold c_refB_collided at hK
    split at hK
    · obtain ⟨g, ag, capg, hK1, e0, posg, vwg⟩ := iff_g1 hK; clear hK; have hK := hK1; clear hK1
      obtain ⟨r, hK1, e1⟩ := iff_r1 hK; clear hK; have hK := hK1; clear hK1
      obtain ⟨hpre, hK⟩ := hK
      obtain ⟨hok, hr⟩ := hpre
      have hg := Grd.ok_iff.1 hok
      have hmb := mul_bd hg.1.1 hg.1.2.1 hg.1.2.2.1 hg.1.2.2.2.1
      have hw0 : (0 : Int) < g.w := (by omega)
      have hh0 : (0 : Int) < g.h := (by omega)
      have hlen : g.cs.length = (g.w * g.h).toNat := (by omega)
      have hlp : 1 ≤ g.cs.length ∧ g.cs.length ≤ 1024 := (by omega)
      have hce : ∀ k, k < g.cs.length → (g.cs.getD k default).ok = true := fun k hk => okL_at (gok_okL hok) hk
      have m0x : mvx 0 = 1 := rfl
      have m0y : mvy 0 = 0 := rfl
      have m1x : mvx 1 = 0 := rfl
      have m1y : mvy 1 = 1 := rfl
      have m2x : mvx 2 = -1 := rfl
      have m2y : mvy 2 = 0 := rfl
      have m3x : mvx 3 = 0 := rfl
      have m3y : mvy 3 = -1 := rfl
      have hkb := fun (k : Nat) (hk : k < g.cs.length) => xy_bd hw0 hh0 (i := k) (by omega)
      simp only [lenK_eq, appK_eq] at hK
      refine ⟨[.agg [.int .i64 g.w, .int .i64 g.h, .sl 0 ag 0 4 g.cs.length capg], Rul.sv r], [⟨ag, false, .ro, .cx g.cs⟩], denL_cons (e0) (denL_cons (e1.symm) (rfl)), ⟨trivial, trivial⟩, fun w hw b hb => (by rw [List.mem_singleton] at hb; subst hb; exact vwg w hw), Nat.le_of_ble_eq_true rfl, ?_⟩
      refine Wk.nil 61 (.cx []) rfl ?_
      repeat' (first | (refine Wk.op ?_; intro K' hK') | (refine Wk.xqOp ?_; intro K' hK') | (refine Wk.rgOne ?_; intro K' hK') | (refine Wk.rgPure ?_; intro K' hK') | (refine Wk.rgX ?_; intro K' hK') | (refine Wk.xqNew ?_; intro K' hK') | (refine Wk.xqEnd ?_) | (refine Wk.rgDone ?_) | (refine Wk.rgTwo ?_ ?_ <;> intro K' hK') | (refine Wk.rgH ?_ ?_) | (refine Wk.rsTake ?_; intro K' hK') | (refine Wk.rsOne ?_ (fun K' hK' => ?_)) | (refine Wk.rsTwo ?_ ?_ (fun K' hK' => ?_) (fun K' hK' => ?_)) | (refine Wk.rsDone ?_) | (refine hK' _ _ ?_ ?_ <;> clear hK' K') | (refine hK' _ _ ?_; clear hK' K') | (refine hK' _ ?_; clear hK' K') | (refine hKT _ ?_; clear hKT hKF KT KF) | (refine hKF _ ?_; clear hKT hKF KT KF) | (refine Wk.cond ?_; intro KT KF hKT hKF) | (refine Wk.ret ?_) | (refine Wk.draw ?_ ?_ ?_; rotate_left 2; (intro K' hK')) | (refine Wk.step rfl ?_) | (refine Wk.inv (X := X_refB_collided) (t := .b 0 :: _) (ι := Nat) (fun k => k ≤ g.cs.length) [2, 3, 4] (fun k => [(5, .int .i64 (k : Int))]) (fun k => [(5, fun b => ⟨b.nm, b.own, b.kd, .cx (prog (fun j => (g.cs.getD j default).after r) k g.cs)⟩)]) (fun k => g.cs.length - k) ?_; intro K' hK'; ((refine hK' _ ⟨0, ?_, ?_, ?_⟩ ?_) <;> clear hK' K'); rotate_left 3; (intro k hi; have hI : k ≤ g.cs.length := hi; clear hi)) | (refine Wk.k (X := X_refB_collided) (t := .b 0 :: _) ⟨k + 1, ?_, ?_, ?_, ?_⟩) | (refine Wk.done ?_) | (refine Fin.plain trivial ?_) | ((with_reducible refine top_goal ?_); kernel_rfl) | ((with_reducible refine takes_goal ?_); kernel_rfl) | ((with_reducible refine drop_goal ?_); kernel_rfl) | ((with_reducible refine held_goal ?_); (repeat refine And.intro rfl ?_); exact trivial) | ((with_reducible refine allB_goal ?_); kernel_rfl) | ((with_reducible refine mine_goal ?_); exact mine_of rfl) | ((with_reducible refine withV_goal ?_); refine withV_mk rfl ?_) | ((with_reducible refine hsel_goal ?_); (first | (exact hsel.nil) | (refine hsel.take (HB.like.refl _) (.inr fun _ h => h) ?_) | (refine hsel.take (like_l ?_) (.inl rfl) ?_) | (refine hsel.take (like_cts ?_) (.inl rfl) ?_) | (refine hsel.skip (spare_own rfl rfl) ?_) | (refine hsel.skip spare_ro ?_))) | (refine denL_cons ?_ ?_) | (refine sl_like ?_) | (refine And.intro ?_ ?_) | (intro hq; (try simp only [BF.H, Cel.eta, Rul.eta, Grd.eta, if_true, if_false, Int.toNat_natCast, Nat.add_zero] at hq); (try (exfalso; first | omega | (simp [BF.b] at hq; done)))))
      all_goals (try simp only [Cel.eta, Rul.eta, Grd.eta, if_true, if_false, Int.toNat_natCast, Int.toNat_zero, Nat.add_zero, Nat.zero_add])
      all_goals (try (first | (refine ret_slG (wrap := fun s => .agg [.int .i64 g.w, .int .i64 g.h, s]) (c := .cx (aft r g.cs)) hK 5 ⟨_, _, _, _, rfl, den_g (aft_length _ _), ?_, ?_, ?_, ?_⟩)))
      all_goals (first | (with_reducible rfl) | (with_reducible exact trivial) | (with_reducible exact splitN_zero) | ((with_reducible refine fsub_goal ?_); exact trivial) | (with_reducible assumption) | ((with_reducible refine ble_goal ?_); rfl) | ((with_reducible refine ble2_goal ?_); (first | rfl | kernel_rfl)) | ((with_reducible refine beq_goal ?_); rfl) | omega | skip)
      all_goals (first | assumption | (with_reducible rfl) | omega | (simp only [Cts.len, List.length_nil]; done) | (simp only [Cts.len, List.length_nil, Int.toNat_natCast, Nat.add_zero, Nat.zero_add]; omega) | exact isSome_of (by assumption) | (simp only [Cts.len, Int.toNat_natCast, Nat.add_zero, Nat.zero_add] at *; first | assumption | omega) | exact int_eq (by omega) | exact cst_eq (by omega) | exact lit_eq (by omega) | exact posg (by omega) | exact opt_getD (posg (by omega)) _ | rfl | exact mine_of rfl | exact .inl trivial | exact .inr trivial | exact (‹0 < List.length _ → Option.isSome _ = true›) (by omega) | exact cx_eq (prog_upd (fun c => c.after r) (by omega)) | exact cx_eq (aft_prog r g.cs (by omega)) | (refine Eq.trans (congrArg Cel.ok ?_) (hce k (by omega)); rw [prog_getD _ _ _ (by omega), if_neg (Nat.lt_irrefl k)]) | exact opt_getD ((‹0 < List.length _ → Option.isSome _ = true›) (by omega)) _ | (simp only [Cts.len, qpart_length, prog_length, List.length_replicate] at *; omega) | (simp only [Cts.len, prog_length]; done) | exact cx_eq (prog_zero ..).symm | exact cx_eq (prog_upd (fun c => (c.turned 2).1) (by omega)) | exact cx_eq (prog_zero ..) | exact cx_eq (prog_set _ _ _ rfl) | (simp only [reduceCtorEq, or_true, true_or, true_and]; done) | (simp; done) | exact cx_eq (prog_set _ _ _ rfl).symm | exact cx_eq (revC_prog (gok_okL hv) (by omega)) | (simp only [Cts.len, revC_length, aft_length, flow_length, List.length_replicate] at *; omega) | (intro _; exact (‹0 < List.length _ → Option.isSome _ = true›) (by omega)) | (rename_i h1 h2; exact h1 (by simpa [Cts.len] using hq)) | (intro h3; rename_i h1 h2; exact h1 (by simpa [Cts.len] using h3)) | (refine ⟨?_, ?_⟩ <;> (try simp only [Cts.len, revC_length, aft_length, flow_length] at *) <;> omega))
    · exact hK.elim
noncomputable def E30 : List (Nat × ECtr) := (133, c_refB_collided) :: E29
theorem okE30 : EsOk Try.prog E30 := EsOk.cons k_refB_collided okE29
def c_refB_step : ECtr := fun args hp K => match args with
  | [x0, x1] => g1 x0 hp fun g => r1 x1 fun r => (g.ok = true ∧ r.ok = true) ∧ lenK hp 0 fun n => ∀ (ad : Option Nm) (cap bc : Nat), (0 < (flow g.w g.h 1 (aft r g.cs)).length → ad.isSome = true) → ((flow g.w g.h 1 (aft r g.cs)).length ≤ cap ∧ cap ≤ 9223372036854775807) → appK hp ⟨ad, true, .wr 61 bc, .cx (flow g.w g.h 1 (aft r g.cs))⟩ fun hp' => K (.agg [.int .i64 g.w, .int .i64 g.h, .sl n ad 0 4 (flow g.w g.h 1 (aft r g.cs)).length cap]) hp'
  | _ => False
noncomputable def X_refB_step : Env Try.prog := ⟨Try.f101.ntmps, TT, G55, E30, Try.f101.results.toList, [], TT_ok, okG55, okE30, mixed⟩
theorem k_refB_step : EOk Try.prog 101 c_refB_step :=
  eok_of_wk X_refB_step Try.func101 rfl (by kernel_rfl) rfl rfl fun args hp K hK => by
    unfold c_refB_step at hK
    split at hK
    · obtain ⟨g, ag, capg, hK1, e0, posg, vwg⟩ := iff_g1 hK; clear hK; have hK := hK1; clear hK1
      obtain ⟨r, hK1, e1⟩ := iff_r1 hK; clear hK; have hK := hK1; clear hK1
      obtain ⟨hpre, hK⟩ := hK
      obtain ⟨hok, hr⟩ := hpre
      have hg := Grd.ok_iff.1 hok
      have hmb := mul_bd hg.1.1 hg.1.2.1 hg.1.2.2.1 hg.1.2.2.2.1
      have hw0 : (0 : Int) < g.w := (by omega)
      have hh0 : (0 : Int) < g.h := (by omega)
      have hlen : g.cs.length = (g.w * g.h).toNat := (by omega)
      have hlp : 1 ≤ g.cs.length ∧ g.cs.length ≤ 1024 := (by omega)
      have hce : ∀ k, k < g.cs.length → (g.cs.getD k default).ok = true := fun k hk => okL_at (gok_okL hok) hk
      have m0x : mvx 0 = 1 := rfl
      have m0y : mvy 0 = 0 := rfl
      have m1x : mvx 1 = 0 := rfl
      have m1y : mvy 1 = 1 := rfl
      have m2x : mvx 2 = -1 := rfl
      have m2y : mvy 2 = 0 := rfl
      have m3x : mvx 3 = 0 := rfl
      have m3y : mvy 3 = -1 := rfl
      have hkb := fun (k : Nat) (hk : k < g.cs.length) => xy_bd hw0 hh0 (i := k) (by omega)
      simp only [lenK_eq, appK_eq] at hK
      refine ⟨[.agg [.int .i64 g.w, .int .i64 g.h, .sl 0 ag 0 4 g.cs.length capg], Rul.sv r], [⟨ag, false, .ro, .cx g.cs⟩], denL_cons (e0) (denL_cons (e1.symm) (rfl)), ⟨trivial, trivial⟩, fun w hw b hb => (by rw [List.mem_singleton] at hb; subst hb; exact vwg w hw), Nat.le_of_ble_eq_true rfl, ?_⟩
      refine Wk.nil 61 (.cx []) rfl ?_
      repeat' (first | (refine Wk.op ?_; intro K' hK') | (refine Wk.xqOp ?_; intro K' hK') | (refine Wk.rgOne ?_; intro K' hK') | (refine Wk.rgPure ?_; intro K' hK') | (refine Wk.rgX ?_; intro K' hK') | (refine Wk.xqNew ?_; intro K' hK') | (refine Wk.xqEnd ?_) | (refine Wk.rgDone ?_) | (refine Wk.rgTwo ?_ ?_ <;> intro K' hK') | (refine Wk.rgH ?_ ?_) | (refine Wk.rsTake ?_; intro K' hK') | (refine Wk.rsOne ?_ (fun K' hK' => ?_)) | (refine Wk.rsTwo ?_ ?_ (fun K' hK' => ?_) (fun K' hK' => ?_)) | (refine Wk.rsDone ?_) | (refine hK' _ _ ?_ ?_ <;> clear hK' K') | (refine hK' _ _ ?_; clear hK' K') | (refine hK' _ ?_; clear hK' K') | (refine hKT _ ?_; clear hKT hKF KT KF) | (refine hKF _ ?_; clear hKT hKF KT KF) | (refine Wk.cond ?_; intro KT KF hKT hKF) | (refine Wk.ret ?_) | (refine Wk.draw ?_ ?_ ?_; rotate_left 2; (intro K' hK')) | (refine Wk.step rfl ?_) | (refine Wk.done ?_) | (refine Fin.plain trivial ?_) | ((with_reducible refine top_goal ?_); kernel_rfl) | ((with_reducible refine takes_goal ?_); kernel_rfl) | ((with_reducible refine drop_goal ?_); kernel_rfl) | ((with_reducible refine held_goal ?_); (repeat refine And.intro rfl ?_); exact trivial) | ((with_reducible refine allB_goal ?_); kernel_rfl) | ((with_reducible refine mine_goal ?_); exact mine_of rfl) | ((with_reducible refine withV_goal ?_); refine withV_mk rfl ?_) | ((with_reducible refine hsel_goal ?_); (first | (exact hsel.nil) | (refine hsel.take (HB.like.refl _) (.inr fun _ h => h) ?_) | (refine hsel.take (like_l ?_) (.inl rfl) ?_) | (refine hsel.take (like_cts ?_) (.inl rfl) ?_) | (refine hsel.skip (spare_own rfl rfl) ?_) | (refine hsel.skip spare_ro ?_))) | (refine denL_cons ?_ ?_) | (refine sl_like ?_) | (refine And.intro ?_ ?_) | (intro hq; (try simp only [BF.H, Cel.eta, Rul.eta, Grd.eta, if_true, if_false, Int.toNat_natCast, Nat.add_zero] at hq); (try (exfalso; first | omega | (simp [BF.b] at hq; done)))))
      all_goals (try simp only [Cel.eta, Rul.eta, Grd.eta, if_true, if_false, Int.toNat_natCast, Int.toNat_zero, Nat.add_zero, Nat.zero_add])
      all_goals (try (first | (refine ret_slG (wrap := fun s => .agg [.int .i64 g.w, .int .i64 g.h, s]) (c := .cx (flow g.w g.h 1 (aft r g.cs))) hK 6 ⟨_, _, _, _, rfl, rfl, ?_, ?_, ?_, ?_⟩)))
      all_goals (first | (with_reducible rfl) | (with_reducible exact trivial) | (with_reducible exact splitN_zero) | ((with_reducible refine fsub_goal ?_); exact trivial) | (with_reducible assumption) | ((with_reducible refine ble_goal ?_); rfl) | ((with_reducible refine ble2_goal ?_); (first | rfl | kernel_rfl)) | ((with_reducible refine beq_goal ?_); rfl) | omega | skip)
      all_goals (first | assumption | (with_reducible rfl) | omega | (simp only [Cts.len, List.length_nil]; done) | (simp only [Cts.len, List.length_nil, Int.toNat_natCast, Nat.add_zero, Nat.zero_add]; omega) | exact isSome_of (by assumption) | (simp only [Cts.len, Int.toNat_natCast, Nat.add_zero, Nat.zero_add] at *; first | assumption | omega) | exact int_eq (by omega) | exact cst_eq (by omega) | exact lit_eq (by omega) | exact posg (by omega) | exact opt_getD (posg (by omega)) _ | rfl | exact mine_of rfl | exact gok_aft hr hok | (rw [aft_length]; omega) | exact (‹0 < List.length _ → Option.isSome _ = true›) (by rw [aft_length]; omega) | (simp only [Cts.len, flow_length, aft_length] at *; omega))
    · exact hK.elim
noncomputable def E31 : List (Nat × ECtr) := (101, c_refB_step) :: E30
theorem okE31 : EsOk Try.prog E31 := EsOk.cons k_refB_step okE30
def c_refB_back : ECtr := fun args hp K => match args with
  | [x0, x1] => g1 x0 hp fun g => r1 x1 fun r => (g.ok = true ∧ r.ok = true) ∧ lenK hp 0 fun n => ∀ (ad : Option Nm) (cap bc : Nat), (0 < (aft r.inv (flow g.w g.h (-1) g.cs)).length → ad.isSome = true) → ((aft r.inv (flow g.w g.h (-1) g.cs)).length ≤ cap ∧ cap ≤ 9223372036854775807) → appK hp ⟨ad, true, .wr 61 bc, .cx (aft r.inv (flow g.w g.h (-1) g.cs))⟩ fun hp' => K (.agg [.int .i64 g.w, .int .i64 g.h, .sl n ad 0 4 (aft r.inv (flow g.w g.h (-1) g.cs)).length cap]) hp'
  | _ => False
noncomputable def X_refB_back : Env Try.prog := ⟨Try.f108.ntmps, TT, G55, E31, Try.f108.results.toList, [(1, .h [0, 2] (.pure 0 (.pure 2 (.s1 1 [0] (.s1 3 [2] (.s1 4 [] (.s1 5 [] (.done))))))))], TT_ok, okG55, okE31, mixed⟩
theorem k_refB_back : EOk Try.prog 108 c_refB_back :=
  eok_of_wk X_refB_back Try.func108 rfl (by kernel_rfl) rfl rfl fun args hp K hK => by
    unfold c_refB_back at hK
    split at hK
    · obtain ⟨g, ag, capg, hK1, e0, posg, vwg⟩ := iff_g1 hK; clear hK; have hK := hK1; clear hK1
      obtain ⟨r, hK1, e1⟩ := iff_r1 hK; clear hK; have hK := hK1; clear hK1
      obtain ⟨hpre, hK⟩ := hK
      obtain ⟨hok, hr⟩ := hpre
      have hg := Grd.ok_iff.1 hok
      have hmb := mul_bd hg.1.1 hg.1.2.1 hg.1.2.2.1 hg.1.2.2.2.1
      have hw0 : (0 : Int) < g.w := (by omega)
      have hh0 : (0 : Int) < g.h := (by omega)
      have hlen : g.cs.length = (g.w * g.h).toNat := (by omega)
      have hlp : 1 ≤ g.cs.length ∧ g.cs.length ≤ 1024 := (by omega)
      have hce : ∀ k, k < g.cs.length → (g.cs.getD k default).ok = true := fun k hk => okL_at (gok_okL hok) hk
      have m0x : mvx 0 = 1 := rfl
      have m0y : mvy 0 = 0 := rfl
      have m1x : mvx 1 = 0 := rfl
      have m1y : mvy 1 = 1 := rfl
      have m2x : mvx 2 = -1 := rfl
      have m2y : mvy 2 = 0 := rfl
      have m3x : mvx 3 = 0 := rfl
      have m3y : mvy 3 = -1 := rfl
      have hkb := fun (k : Nat) (hk : k < g.cs.length) => xy_bd hw0 hh0 (i := k) (by omega)
      have hri := Rul.inv_ok hr
      simp only [lenK_eq, appK_eq] at hK
      refine ⟨[.agg [.int .i64 g.w, .int .i64 g.h, .sl 0 ag 0 4 g.cs.length capg], Rul.sv r], [⟨ag, false, .ro, .cx g.cs⟩], denL_cons (e0) (denL_cons (e1.symm) (rfl)), ⟨trivial, trivial⟩, fun w hw b hb => (by rw [List.mem_singleton] at hb; subst hb; exact vwg w hw), Nat.le_of_ble_eq_true rfl, ?_⟩
      refine Wk.nil 61 (.cx []) rfl ?_
      repeat' (first | (refine Wk.op ?_; intro K' hK') | (refine Wk.xqOp ?_; intro K' hK') | (refine Wk.rgOne ?_; intro K' hK') | (refine Wk.rgPure ?_; intro K' hK') | (refine Wk.rgX ?_; intro K' hK') | (refine Wk.xqNew ?_; intro K' hK') | (refine Wk.xqEnd ?_) | (refine Wk.rgDone ?_) | (refine Wk.rgTwo ?_ ?_ <;> intro K' hK') | (refine Wk.rgH ?_ ?_) | (refine Wk.rsTake ?_; intro K' hK') | (refine Wk.rsOne ?_ (fun K' hK' => ?_)) | (refine Wk.rsTwo ?_ ?_ (fun K' hK' => ?_) (fun K' hK' => ?_)) | (refine Wk.rsDone ?_) | (refine hK' _ _ ?_ ?_ <;> clear hK' K') | (refine hK' _ _ ?_; clear hK' K') | (refine hK' _ ?_; clear hK' K') | (refine hKT _ ?_; clear hKT hKF KT KF) | (refine hKF _ ?_; clear hKT hKF KT KF) | (refine Wk.cond ?_; intro KT KF hKT hKF) | (refine Wk.ret ?_) | (refine Wk.draw ?_ ?_ ?_; rotate_left 2; (intro K' hK')) | (refine Wk.step rfl ?_) | (refine Wk.done ?_) | (refine Fin.plain trivial ?_) | ((with_reducible refine top_goal ?_); kernel_rfl) | ((with_reducible refine takes_goal ?_); kernel_rfl) | ((with_reducible refine drop_goal ?_); kernel_rfl) | ((with_reducible refine held_goal ?_); (repeat refine And.intro rfl ?_); exact trivial) | ((with_reducible refine allB_goal ?_); kernel_rfl) | ((with_reducible refine mine_goal ?_); exact mine_of rfl) | ((with_reducible refine withV_goal ?_); refine withV_mk rfl ?_) | ((with_reducible refine hsel_goal ?_); (first | (exact hsel.nil) | (refine hsel.take (HB.like.refl _) (.inr fun _ h => h) ?_) | (refine hsel.take (like_l ?_) (.inl rfl) ?_) | (refine hsel.take (like_cts ?_) (.inl rfl) ?_) | (refine hsel.skip (spare_own rfl rfl) ?_) | (refine hsel.skip spare_ro ?_))) | (refine denL_cons ?_ ?_) | (refine sl_like ?_) | (refine And.intro ?_ ?_) | (intro hq; (try simp only [BF.H, Cel.eta, Rul.eta, Grd.eta, if_true, if_false, Int.toNat_natCast, Nat.add_zero] at hq); (try (exfalso; first | omega | (simp [BF.b] at hq; done)))))
      all_goals (try simp only [Cel.eta, Rul.eta, Grd.eta, if_true, if_false, Int.toNat_natCast, Int.toNat_zero, Nat.add_zero, Nat.zero_add])
      all_goals (try (first | (refine ret_slG (wrap := fun s => .agg [.int .i64 g.w, .int .i64 g.h, s]) (c := .cx (aft r.inv (flow g.w g.h (-1) g.cs))) hK 6 ⟨_, _, _, _, rfl, rfl, ?_, ?_, ?_, ?_⟩)))
      all_goals (first | (with_reducible rfl) | (with_reducible exact trivial) | (with_reducible exact splitN_zero) | ((with_reducible refine fsub_goal ?_); exact trivial) | (with_reducible assumption) | ((with_reducible refine ble_goal ?_); rfl) | ((with_reducible refine ble2_goal ?_); (first | rfl | kernel_rfl)) | ((with_reducible refine beq_goal ?_); rfl) | omega | skip)
      all_goals (first | assumption | (with_reducible rfl) | omega | (simp only [Cts.len, List.length_nil]; done) | (simp only [Cts.len, List.length_nil, Int.toNat_natCast, Nat.add_zero, Nat.zero_add]; omega) | exact isSome_of (by assumption) | (simp only [Cts.len, Int.toNat_natCast, Nat.add_zero, Nat.zero_add] at *; first | assumption | omega) | exact int_eq (by omega) | exact cst_eq (by omega) | exact lit_eq (by omega) | exact posg (by omega) | exact opt_getD (posg (by omega)) _ | rfl | exact mine_of rfl | exact gok_flow (-1) hok | (rw [flow_length]; omega) | exact (‹0 < List.length _ → Option.isSome _ = true›) (by rw [flow_length]; omega) | (simp only [Cts.len, flow_length, aft_length] at *; omega))
    · exact hK.elim
noncomputable def E32 : List (Nat × ECtr) := (108, c_refB_back) :: E31
theorem okE32 : EsOk Try.prog E32 := EsOk.cons k_refB_back okE31
def c_sleq : Ctr := fun args hp K => match args with
  | [x0, x1] => lc x0 hp fun a => lc x1 hp fun b => (a.length ≤ 1200 ∧ b.length ≤ 1200) ∧ K (.bool (.atom (decide (a = b))))
  | _ => False
noncomputable def X_sleq : Env Try.prog := ⟨Try.f98.ntmps, TT, G55, E32, Try.f98.results.toList, [(6, .x [0, 1, 2, 3, 4, 5, 6, 7, 8] [] (.done))], TT_ok, okG55, okE32, mixed⟩
theorem k_sleq : COk Try.prog 98 c_sleq :=
  ctr_of_wk X_sleq Try.func98 rfl (by kernel_rfl) rfl rfl fun args hp K hK => by
    unfold c_sleq at hK
    split at hK
    · obtain ⟨a, aa, capa, hK1, sa⟩ := iff_lc hK; clear hK; have hK := hK1; clear hK1
      have posa : 0 < a.length → aa.isSome = true := sa.pos
      obtain ⟨b, ab, capb, hK1, sb⟩ := iff_lc hK; clear hK; have hK := hK1; clear hK1
      have posb : 0 < b.length → ab.isSome = true := sb.pos
      obtain ⟨hpre, hK⟩ := hK
      refine ⟨[.sl 0 aa 0 4 a.length capa, .sl 1 ab 0 4 b.length capb], [⟨aa, false, .ro, .cx a⟩, ⟨ab, false, .ro, .cx b⟩], _, denL_cons (sa.eq) (denL_cons (sb.eq) (rfl)), ⟨trivial, ⟨trivial, trivial⟩⟩, fun w hw b hb => (by simp only [List.mem_cons, List.not_mem_nil, or_false] at hb; rcases hb with rfl | rfl <;> first | exact sa.ok w hw | exact sb.ok w hw), hK, Nat.le_of_ble_eq_true rfl, ?_⟩
      clear hK
      repeat' (first | (refine Wk.op ?_; intro K' hK') | (refine Wk.xqOp ?_; intro K' hK') | (refine Wk.rgOne ?_; intro K' hK') | (refine Wk.rgPure ?_; intro K' hK') | (refine Wk.rgX ?_; intro K' hK') | (refine Wk.xqNew ?_; intro K' hK') | (refine Wk.xqEnd ?_) | (refine Wk.rgDone ?_) | (refine Wk.rgTwo ?_ ?_ <;> intro K' hK') | (refine Wk.rgH ?_ ?_) | (refine Wk.rsTake ?_; intro K' hK') | (refine Wk.rsOne ?_ (fun K' hK' => ?_)) | (refine Wk.rsTwo ?_ ?_ (fun K' hK' => ?_) (fun K' hK' => ?_)) | (refine Wk.rsDone ?_) | (refine hK' _ _ ?_ ?_ <;> clear hK' K') | (refine hK' _ _ ?_; clear hK' K') | (refine hK' _ ?_; clear hK' K') | (refine hKT _ ?_; clear hKT hKF KT KF) | (refine hKF _ ?_; clear hKT hKF KT KF) | (refine Wk.cond ?_; intro KT KF hKT hKF) | (refine Wk.ret ?_) | (refine Wk.draw ?_ ?_ ?_; rotate_left 2; (intro K' hK')) | (refine Wk.step rfl ?_) | (refine Wk.inv (X := X_sleq) (t := .b 0 :: _) (ι := Nat) (fun k => k ≤ a.length ∧ a.length = b.length ∧ a.take k = b.take k) [0, 1, 12] (fun k => [(13, .int .i64 (k : Int))]) (fun k => []) (fun k => a.length - k) ?_; intro K' hK'; ((refine hK' _ ⟨0, ?_, ?_, ?_⟩ ?_) <;> clear hK' K'); rotate_left 3; (intro k hi; have hI : k ≤ a.length ∧ a.length = b.length ∧ a.take k = b.take k := hi; clear hi)) | (refine Wk.k (X := X_sleq) (t := .b 0 :: _) ⟨k + 1, ?_, ?_, ?_, ?_⟩) | (refine Wk.done ?_) | (refine Fin.plain trivial ?_) | ((with_reducible refine top_goal ?_); kernel_rfl) | ((with_reducible refine takes_goal ?_); kernel_rfl) | ((with_reducible refine drop_goal ?_); kernel_rfl) | ((with_reducible refine held_goal ?_); (repeat refine And.intro rfl ?_); exact trivial) | ((with_reducible refine allB_goal ?_); kernel_rfl) | ((with_reducible refine mine_goal ?_); exact mine_of rfl) | ((with_reducible refine withV_goal ?_); refine withV_mk rfl ?_) | ((with_reducible refine hsel_goal ?_); (first | (exact hsel.nil) | (refine hsel.take (HB.like.refl _) (.inr fun _ h => h) ?_) | (refine hsel.take (like_l ?_) (.inl rfl) ?_) | (refine hsel.take (like_cts ?_) (.inl rfl) ?_) | (refine hsel.skip (spare_own rfl rfl) ?_) | (refine hsel.skip spare_ro ?_))) | (refine denL_cons ?_ ?_) | (refine sl_like ?_) | (refine And.intro ?_ ?_) | (intro hq; (try simp only [BF.H, Cel.eta, Rul.eta, Grd.eta, if_true, if_false, Int.toNat_natCast, Nat.add_zero] at hq); (try (exfalso; first | omega | (simp [BF.b] at hq; done)))))
      all_goals (try simp only [Cel.eta, Rul.eta, Grd.eta, if_true, if_false, Int.toNat_natCast, Int.toNat_zero, Nat.add_zero, Nat.zero_add])
      all_goals (first | (with_reducible rfl) | (with_reducible exact trivial) | (with_reducible exact splitN_zero) | ((with_reducible refine fsub_goal ?_); exact trivial) | (with_reducible assumption) | ((with_reducible refine ble_goal ?_); rfl) | ((with_reducible refine ble2_goal ?_); (first | rfl | kernel_rfl)) | ((with_reducible refine beq_goal ?_); rfl) | omega | skip)
      all_goals (first | assumption | (with_reducible rfl) | omega | (simp only [Cts.len, List.length_nil]; done) | (simp only [Cts.len, List.length_nil, Int.toNat_natCast, Nat.add_zero, Nat.zero_add]; omega) | exact isSome_of (by assumption) | (simp only [Cts.len, Int.toNat_natCast, Nat.add_zero, Nat.zero_add] at *; first | assumption | omega) | exact int_eq (by omega) | exact cst_eq (by omega) | exact lit_eq (by omega) | exact posa (by omega) | exact opt_getD (posa (by omega)) _ | exact posb (by omega) | exact opt_getD (posb (by omega)) _ | rfl | exact res_ff (same_f1 (by omega)) | exact res_ff (same_f2 (k := k) (by omega) (by omega) (Cel.ne4 hq)) | exact res_tt (same_t hI.2.1 hI.2.2 (by omega)) | exact hI.2.1 | exact same_next (by omega) (by omega) hI.2.2 (Cel.ext4 hq) | (simp [Cel.eta, Rul.eta, Grd.eta, den, denL, den_ofConst, BF.b, bfOf, Cel.sv, Rul.sv] at hq ⊢; omega))
    · exact hK.elim
def G56 : List (Nat × Ctr) := (98, c_sleq) :: G55
theorem okG56 : GsOk Try.prog G56 := GsOk.cons k_sleq okG55
noncomputable def X_grid_field_collided : Env Try.prog := ⟨Try.f131.ntmps, TT, G56, E32, Try.f131.results.toList, [(4, .x [0, 1, 2, 3, 4, 5, 6, 7, 8, 9, 10, 11] [] (.one 12 (.done)))], TT_ok, okG56, okE32, mixed⟩
noncomputable def code_grid_field_collided : Code := match Try.f131.body with | some c => c | none => .skip
theorem k_grid_field_collided : EOk Try.prog 131 (inl X_grid_field_collided code_grid_field_collided) := inl_ok X_grid_field_collided Try.func131 rfl (by kernel_rfl) rfl rfl
noncomputable def E33 : List (Nat × ECtr) := (131, inl X_grid_field_collided code_grid_field_collided) :: E32
theorem okE33 : EsOk Try.prog E33 := EsOk.cons k_grid_field_collided okE32
noncomputable def X_grid_machine_forth : Env Try.prog := ⟨Try.f97.ntmps, TT, G56, E33, Try.f97.results.toList, [(0, .x [0, 1, 2, 3, 4, 5, 6, 7, 8, 9, 10, 11, 12, 13, 14, 15, 16, 17] [] (.one 18 (.one 19 (.one 20 (.one 21 (.one 22 (.done)))))))], TT_ok, okG56, okE33, mixed⟩
noncomputable def code_grid_machine_forth : Code := match Try.f97.body with | some c => c | none => .skip
theorem k_grid_machine_forth : EOk Try.prog 97 (inl X_grid_machine_forth code_grid_machine_forth) := inl_ok X_grid_machine_forth Try.func97 rfl (by kernel_rfl) rfl rfl
noncomputable def E34 : List (Nat × ECtr) := (97, inl X_grid_machine_forth code_grid_machine_forth) :: E33
theorem okE34 : EsOk Try.prog E34 := EsOk.cons k_grid_machine_forth okE33
noncomputable def X_grid_machine_back : Env Try.prog := ⟨Try.f134.ntmps, TT, G56, E34, Try.f134.results.toList, [(0, .h [0, 1, 2, 3, 4, 6, 7, 8, 9, 10, 11, 12, 13, 14, 15, 16, 17, 18, 20, 21] (.pure 0 (.pure 1 (.pure 2 (.pure 3 (.pure 4 (.pure 6 (.pure 7 (.pure 8 (.pure 9 (.pure 10 (.pure 11 (.pure 12 (.pure 13 (.pure 14 (.pure 15 (.pure 16 (.pure 17 (.pure 18 (.s1 5 [4] (.s1 19 [9, 14, 18] (.pure 20 (.pure 21 (.s1 22 [] (.done)))))))))))))))))))))))))], TT_ok, okG56, okE34, mixed⟩
noncomputable def code_grid_machine_back : Code := match Try.f134.body with | some c => c | none => .skip
theorem k_grid_machine_back : EOk Try.prog 134 (inl X_grid_machine_back code_grid_machine_back) := inl_ok X_grid_machine_back Try.func134 rfl (by kernel_rfl) rfl rfl
noncomputable def E35 : List (Nat × ECtr) := (134, inl X_grid_machine_back code_grid_machine_back) :: E34
theorem okE35 : EsOk Try.prog E35 := EsOk.cons k_grid_machine_back okE34
def c_grid_Period : Ctr := fun args hp K => match args with
  | [x0, x1, x2] => g1 x0 hp fun g => r1 x1 fun r => i1 x2 fun most => (g.cs.length ≤ 1200 ∧ I64 most) ∧ K (.tup [.int .i64 (perV g r most).1, .int .i64 (perV g r most).2])
  | _ => False
noncomputable def X_grid_Period : Env Try.prog := ⟨Try.f40.ntmps, TT, G56, E35, Try.f40.results.toList, [(5, .h [0, 2, 4, 6] (.pure 0 (.pure 2 (.s2 1 [0] (.s1 3 [2] (.pure 4 (.s1 5 [] (.pure 6 (.done))))) 3 [2] (.s1 1 [0] (.pure 4 (.s1 5 [] (.pure 6 (.done))))))))), (10, .x [0, 1, 2, 3, 4, 5, 6, 7, 8] [] (.done))], TT_ok, okG56, okE35, mixed⟩
set_option maxHeartbeats 8000000 in
theorem k_grid_Period : COk Try.prog 40 c_grid_Period :=
  ctr_of_wk X_grid_Period Try.func40 rfl (by kernel_rfl) rfl rfl fun args hp K hK => by
    unfold c_grid_Period at hK
    split at hK
    · obtain ⟨g, ag, capg, hK1, e0, posg, vwg⟩ := iff_g1 hK; clear hK; have hK := hK1; clear hK1
      obtain ⟨r, hK1, e1⟩ := iff_r1 hK; clear hK; have hK := hK1; clear hK1
      obtain ⟨most, hK1, e2⟩ := iff_i1 hK; clear hK; have hK := hK1; clear hK1
      obtain ⟨hpre, hK⟩ := hK
      have tm1 : ∀ k : Nat, (k : Int).tmod ((1 : Nat) : Int) = 0 := fun k => (Int.tmod_one (k : Int))
      refine ⟨[.agg [.int .i64 g.w, .int .i64 g.h, .sl 0 ag 0 4 g.cs.length capg], Rul.sv r, .int .i64 most], [⟨ag, false, .ro, .cx g.cs⟩], _, denL_cons (e0) (denL_cons (e1.symm) (denL_cons (e2.symm) (rfl))), ⟨trivial, trivial⟩, fun w hw b hb => (by rw [List.mem_singleton] at hb; subst hb; exact vwg w hw), hK, Nat.le_of_ble_eq_true rfl, ?_⟩
      clear hK
      rcases perV_ways g r most with ⟨hv, hr, hP⟩ | ⟨hv, hr, hP⟩ | ⟨hv, hr, hm, hP⟩ | ⟨hv, hr, hm, hP, hbb, hru⟩
      all_goals (repeat' (first | (refine Wk.op ?_; intro K' hK') | (refine Wk.xqOp ?_; intro K' hK') | (refine Wk.rgOne ?_; intro K' hK') | (refine Wk.rgPure ?_; intro K' hK') | (refine Wk.rgX ?_; intro K' hK') | (refine Wk.xqNew ?_; intro K' hK') | (refine Wk.xqEnd ?_) | (refine Wk.rgDone ?_) | (refine Wk.rgTwo ?_ ?_ <;> intro K' hK') | (refine Wk.rgH ?_ ?_) | (refine Wk.rsTake ?_; intro K' hK') | (refine Wk.rsOne ?_ (fun K' hK' => ?_)) | (refine Wk.rsTwo ?_ ?_ (fun K' hK' => ?_) (fun K' hK' => ?_)) | (refine Wk.rsDone ?_) | (refine hK' _ _ ?_ ?_ <;> clear hK' K') | (refine hK' _ _ ?_; clear hK' K') | (refine hK' _ ?_; clear hK' K') | (refine hKT _ ?_; clear hKT hKF KT KF) | (refine hKF _ ?_; clear hKT hKF KT KF) | (refine Wk.cond ?_; intro KT KF hKT hKF) | (refine Wk.ret ?_) | (refine Wk.draw ?_ ?_ ?_; rotate_left 2; (intro K' hK')) | (refine Wk.step rfl ?_) | (refine Wk.norm (X := X_grid_Period) (t := .b 1 :: _) 3 [(4, 3)] rfl ?_; intro K' hK'; refine hK' _ ?_; clear hK' K') | (refine Wk.inv (X := X_grid_Period) (t := .b 1 :: _) (ι := Nat × Option Nm × Nat × Nat) (fun ⟨k, ν, cap, bc⟩ => k ≤ most.toNat ∧ ν.isSome = true ∧ perF g.w g.h r g.cs most.toNat 0 = perF g.w g.h r g.cs (most.toNat - k) k) [3, 8, 29] (fun ⟨k, ν, cap, bc⟩ => [(30, .int .i64 (k : Int))]) (fun ⟨k, ν, cap, bc⟩ => [(3, fun b => ⟨ν, true, .wr 61 bc, .cx (runC g.w g.h (fun _ => r) g.cs k)⟩), (5, fun b => ⟨b.nm, b.own, b.kd, .l [.int .i64 g.w, .int .i64 g.h, .sl 3 ν 0 4 g.cs.length cap, (b.cts.cell 3).at 4]⟩)]) (fun ⟨k, ν, cap, bc⟩ => most.toNat - k) ?_; intro K' hK'; refine hK' _ ?_ (fun ⟨k, ν, cap, bc⟩ hi => (have hO : k ≤ most.toNat ∧ ν.isSome = true ∧ perF g.w g.h r g.cs most.toNat 0 = perF g.w g.h r g.cs (most.toNat - k) k := hi; ?_)) <;> clear hK' K'; refine exAt (0) ?_; apply ex3; refine ⟨?_, ?_, ?_⟩) | (refine Wk.kp (X := X_grid_Period) (t := .b 1 :: _) [(9, 3)] ?_; intro K' hK'; refine hK' _ (exAt (k + 1) ?_); apply ex3; refine ⟨?_, ?_, ?_, ?_⟩) | (refine Wk.inv (X := X_grid_field_collided) (t := .b 0 :: _) (ι := Nat) (fun j => j ≤ g.cs.length) [1, 3, 5, 6, 11, 12] (fun j => [(13, .int .i64 (j : Int))]) (fun j => [(3, fun b => ⟨b.nm, b.own, b.kd, .cx (prog (fun i => (((runC g.w g.h (fun _ => r) g.cs k).getD i default).collide r).1) j (runC g.w g.h (fun _ => r) g.cs k))⟩)]) (fun j => g.cs.length - j) ?_; intro K' hK'; ((refine hK' _ ⟨0, ?_, ?_, ?_⟩ ?_) <;> clear hK' K'); rotate_left 3; (intro j hi; have hI : j ≤ g.cs.length := hi; clear hi; have hjk := hru k)) | (refine Wk.k (X := X_grid_field_collided) (t := .b 0 :: _) ⟨j + 1, ?_, ?_, ?_, ?_⟩) | (refine Wk.done ?_) | (refine Fin.plain trivial ?_) | ((with_reducible refine top_goal ?_); kernel_rfl) | ((with_reducible refine takes_goal ?_); kernel_rfl) | ((with_reducible refine drop_goal ?_); kernel_rfl) | ((with_reducible refine held_goal ?_); (repeat refine And.intro rfl ?_); exact trivial) | ((with_reducible refine allB_goal ?_); kernel_rfl) | ((with_reducible refine mine_goal ?_); exact mine_of rfl) | ((with_reducible refine withV_goal ?_); refine withV_mk rfl ?_) | ((with_reducible refine hsel_goal ?_); (first | (exact hsel.nil) | (refine hsel.take (HB.like.refl _) (.inr fun _ h => h) ?_) | (refine hsel.take (like_l ?_) (.inl rfl) ?_) | (refine hsel.take (like_cts ?_) (.inl rfl) ?_) | (refine hsel.skip (spare_own rfl rfl) ?_) | (refine hsel.skip spare_ro ?_))) | (refine denL_cons ?_ ?_) | (refine sl_like ?_) | (refine And.intro ?_ ?_) | (intro hq; (try simp only [BF.H, Cel.eta, Rul.eta, Grd.eta, if_true, if_false, Int.toNat_natCast, Nat.add_zero] at hq); (try simp only [hv, hr] at hq); (try (exfalso; first | omega | (simp [BF.b] at hq; done))))))
      all_goals (try simp only [Cel.eta, Rul.eta, Grd.eta, if_true, if_false, Int.toNat_natCast, Int.toNat_zero, Nat.add_zero, Nat.zero_add])
      all_goals (first | (with_reducible rfl) | (with_reducible exact trivial) | (with_reducible exact splitN_zero) | ((with_reducible refine fsub_goal ?_); exact trivial) | (with_reducible assumption) | ((with_reducible refine ble_goal ?_); rfl) | ((with_reducible refine ble2_goal ?_); (first | rfl | kernel_rfl)) | ((with_reducible refine beq_goal ?_); rfl) | omega | skip)
      all_goals (first | assumption | (with_reducible rfl) | omega | (simp only [Cts.len, List.length_nil]; done) | (simp only [Cts.len, List.length_nil, Int.toNat_natCast, Nat.add_zero, Nat.zero_add]; omega) | exact isSome_of (by assumption) | (simp only [Cts.len, Int.toNat_natCast, Nat.add_zero, Nat.zero_add] at *; first | assumption | omega) | exact int_eq (by omega) | exact cst_eq (by omega) | exact lit_eq (by omega) | exact posg (by omega) | exact opt_getD (posg (by omega)) _ | rfl | exact mine_of rfl | exact .inl trivial | exact hO.2.1 | exact opt_getD hO.2.1 _ | (simp only [hP]; rfl) | (simp only [tm1]; omega) | (simp only [tm1]; done) | (simp only [tm1]; rfl) | (simp only [tm1]; exact Nat.one_pos) | exact opt_getD (by assumption) _ | (simp only [Cts.len, prog_length, flow_length, (hru k).2.2] at *; omega) | (simp only [Cts.len, flow_length, prog_length, (hru k).2.2]; done) | exact cx_eq (prog_zero ..) | exact cx_eq (prog_zero ..).symm | exact cx_eq (by simp only [tm1]; exact prog_upd (fun c => (c.collide r).1) (by rw [(hru k).2.2]; omega)) | (rw [aftc_prog hr (hru k).2.1 (by rw [(hru k).2.2]; omega)]; exact gok_aft hr (hru k).1) | exact cx_eq (by rw [aftc_prog hr (hru k).2.1 (by rw [(hru k).2.2]; omega)]; rfl) | exact (‹0 < List.length _ → Option.isSome _ = true›) (by omega) | exact (‹0 < List.length _ → Option.isSome _ = true›) (by simp only [flow_length, prog_length, (hru k).2.2]; omega) | (have hd := ‹decide (_ = g.cs) = false›; rw [aftc_hq hr (hru k).2.1 (by rw [(hru k).2.2]; omega)] at hd; exact hO.2.2.trans (per_miss (by omega) (dec_f hd))) | (have hd := ‹decide (_ = g.cs) = true›; rw [aftc_hq hr (hru k).2.1 (by rw [(hru k).2.2]; omega)] at hd; simp only [hP, hO.2.2, per_hit (show k < most.toNat by omega) (dec_t hd)]; rfl) | (simp only [hP, hO.2.2, per_end (show most.toNat ≤ k by omega)]; rfl))
    · exact hK.elim
def G57 : List (Nat × Ctr) := (40, c_grid_Period) :: G56
theorem okG57 : GsOk Try.prog G57 := GsOk.cons k_grid_Period okG56
end Go.Proofs.Ytbcajalaopjmdaa
