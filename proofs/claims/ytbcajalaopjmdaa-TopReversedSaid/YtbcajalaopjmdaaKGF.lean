/- Contracts: what the functions hand back. -/
import Derived.Test.YtbcajalaopjmdaaKGE
set_option linter.unusedSimpArgs false
set_option linter.unusedVariables false
set_option maxRecDepth 100000
namespace Go.Proofs.Ytbcajalaopjmdaa
open Go.Sy Go.RowKit

def c_refB_blank : ECtr := fun args hp K => match args with
  | [x0, x1] => i1 x0 fun w => i1 x1 fun h => (1 ≤ w ∧ w ≤ 64 ∧ 1 ≤ h ∧ h ≤ 64 ∧ w * h ≤ 1024) ∧ lenK hp 0 fun n => ∀ (ad : Option Nm) (cap bc : Nat), (0 < (List.replicate (w * h).toNat (⟨0, 0, 0, 0⟩ : Cel)).length → ad.isSome = true) → ((List.replicate (w * h).toNat (⟨0, 0, 0, 0⟩ : Cel)).length ≤ cap ∧ cap ≤ 9223372036854775807) → appK hp ⟨ad, true, .wr 61 bc, .cx (List.replicate (w * h).toNat (⟨0, 0, 0, 0⟩ : Cel))⟩ fun hp' => K (.agg [.int .i64 w, .int .i64 h, .sl n ad 0 4 (List.replicate (w * h).toNat (⟨0, 0, 0, 0⟩ : Cel)).length cap]) hp'
  | _ => False
noncomputable def X_refB_blank : Env Try.prog := ⟨Try.f76.ntmps, TT, G49, E7, Try.f76.results.toList, [], TT_ok, okG49, okE7, mixed⟩
theorem k_refB_blank : EOk Try.prog 76 c_refB_blank :=
  eok_of_wk X_refB_blank Try.func76 rfl (by kernel_rfl) rfl rfl fun args hp K hK => by
    unfold c_refB_blank at hK
    split at hK
    · obtain ⟨w, hK1, e0⟩ := iff_i1 hK; clear hK; have hK := hK1; clear hK1
      obtain ⟨h, hK1, e1⟩ := iff_i1 hK; clear hK; have hK := hK1; clear hK1
      obtain ⟨hpre, hK⟩ := hK
      have hmb := mul_bd hpre.1 hpre.2.1 hpre.2.2.1 hpre.2.2.2.1
      simp only [lenK_eq, appK_eq] at hK
      refine ⟨[.int .i64 w, .int .i64 h], [], denL_cons (e0.symm) (denL_cons (e1.symm) (rfl)), trivial, fun _ _ b hb => (by cases hb), Nat.le_of_ble_eq_true rfl, ?_⟩
      refine Wk.nil 61 (.cx []) rfl ?_
      repeat' (first | (refine Wk.op ?_; intro K' hK') | (refine Wk.xqOp ?_; intro K' hK') | (refine Wk.rgOne ?_; intro K' hK') | (refine Wk.rgPure ?_; intro K' hK') | (refine Wk.rgX ?_; intro K' hK') | (refine Wk.xqNew ?_; intro K' hK') | (refine Wk.xqEnd ?_) | (refine Wk.rgDone ?_) | (refine Wk.rgTwo ?_ ?_ <;> intro K' hK') | (refine Wk.rgH ?_ ?_) | (refine Wk.rsTake ?_; intro K' hK') | (refine Wk.rsOne ?_ (fun K' hK' => ?_)) | (refine Wk.rsTwo ?_ ?_ (fun K' hK' => ?_) (fun K' hK' => ?_)) | (refine Wk.rsDone ?_) | (refine hK' _ _ ?_ ?_ <;> clear hK' K') | (refine hK' _ _ ?_; clear hK' K') | (refine hK' _ ?_; clear hK' K') | (refine hKT _ ?_; clear hKT hKF KT KF) | (refine hKF _ ?_; clear hKT hKF KT KF) | (refine Wk.cond ?_; intro KT KF hKT hKF) | (refine Wk.ret ?_) | (refine Wk.draw ?_ ?_ ?_; rotate_left 2; (intro K' hK')) | (refine Wk.step rfl ?_) | (refine Wk.done ?_) | (refine Fin.plain trivial ?_) | ((with_reducible refine top_goal ?_); kernel_rfl) | ((with_reducible refine takes_goal ?_); kernel_rfl) | ((with_reducible refine drop_goal ?_); kernel_rfl) | ((with_reducible refine held_goal ?_); (repeat refine And.intro rfl ?_); exact trivial) | ((with_reducible refine allB_goal ?_); kernel_rfl) | ((with_reducible refine mine_goal ?_); exact mine_of rfl) | ((with_reducible refine withV_goal ?_); refine withV_mk rfl ?_) | ((with_reducible refine hsel_goal ?_); (first | (exact hsel.nil) | (refine hsel.take (HB.like.refl _) (.inr fun _ h => h) ?_) | (refine hsel.take (like_cts ?_) (.inl rfl) ?_) | (refine hsel.skip (spare_own rfl rfl) ?_) | (refine hsel.skip spare_ro ?_))) | (refine And.intro ?_ ?_) | (intro hq; (try simp only [BF.H, Cel.eta, Rul.eta, Grd.eta, if_true, if_false, Int.toNat_natCast, Nat.add_zero] at hq); (try (exfalso; first | omega | (simp [BF.b] at hq; done)))))
      all_goals (try simp only [Cel.eta, Rul.eta, Grd.eta, if_true, if_false, Int.toNat_natCast, Int.toNat_zero, Nat.add_zero, Nat.zero_add])
      all_goals (try (first | (refine ret_slG (wrap := fun s => .agg [.int .i64 w, .int .i64 h, s]) (c := .cx (List.replicate (w * h).toNat (⟨0, 0, 0, 0⟩ : Cel))) hK 2 ⟨_, _, _, _, rfl, den_g (List.length_replicate ..), ?_, ?_, ?_, ?_⟩)))
      all_goals (first | (with_reducible rfl) | (with_reducible exact trivial) | (with_reducible exact splitN_zero) | ((with_reducible refine fsub_goal ?_); exact trivial) | (with_reducible assumption) | ((with_reducible refine ble_goal ?_); rfl) | ((with_reducible refine ble2_goal ?_); (first | rfl | kernel_rfl)) | ((with_reducible refine beq_goal ?_); rfl) | omega | skip)
      all_goals (first | assumption | (with_reducible rfl) | omega | (simp only [Cts.len, List.length_nil]; done) | (simp only [Cts.len, List.length_nil, Int.toNat_natCast, Nat.add_zero, Nat.zero_add]; omega) | exact isSome_of (by assumption) | (simp only [Cts.len, Int.toNat_natCast, Nat.add_zero, Nat.zero_add] at *; first | assumption | omega) | exact int_eq (by omega) | exact cst_eq (by omega) | exact lit_eq (by omega) | (simp only [Cts.len, List.length_replicate, Int.toNat_zero, Nat.sub_zero]; omega) | (refine ⟨?_, ?_⟩ <;> (try simp only [Cts.len, Nat.sub_zero]) <;> omega) | (rename_i h1 h2; exact h1 (by simpa [Cts.len] using hq)) | (intro h3; rename_i h1 h2; exact h1 (by simpa [Cts.len] using h3)) | (intro h3; rename_i h1; exact h1 (by simpa [Cts.len] using h3)) | rfl | exact mine_of rfl | (refine cx_eq ?_; simp [seg_all]; done) | (have hz : 0 ≤ w * h := (by omega); simp only [Cts.len, List.length_replicate]; omega) | (simp only [Cts.len, List.length_replicate]; omega) | (intro _; rfl) | (refine ⟨?_, ?_⟩ <;> (try simp only [Cts.len, List.length_replicate]) <;> omega))
    · exact hK.elim
noncomputable def E8 : List (Nat × ECtr) := (76, c_refB_blank) :: E7
theorem okE8 : EsOk Try.prog E8 := EsOk.cons k_refB_blank okE7
def c_grid_field_streamed : ECtr := fun args hp K => match args with
  | [x0, x1] => g1 x0 hp fun g => i1 x1 fun p => (g.ok = true ∧ (p = 1 ∨ p = -1)) ∧ lenK hp 0 fun n => ∀ (ad : Option Nm) (cap bc : Nat), (0 < (flow g.w g.h p g.cs).length → ad.isSome = true) → ((flow g.w g.h p g.cs).length ≤ cap ∧ cap ≤ 9223372036854775807) → appK hp ⟨ad, true, .wr 61 bc, .cx (flow g.w g.h p g.cs)⟩ fun hp' => K (.agg [.int .i64 g.w, .int .i64 g.h, .sl n ad 0 4 (flow g.w g.h p g.cs).length cap]) hp'
  | _ => False
noncomputable def X_grid_field_streamed : Env Try.prog := ⟨Try.f70.ntmps, TT, G49, E8, Try.f70.results.toList, [(10, .x [0, 1, 2, 3, 4, 5, 6, 7, 8, 9, 10, 11, 12, 13, 14, 15, 16, 17, 18, 19] [] (.one 20 (.done)))], TT_ok, okG49, okE8, mixed⟩
set_option maxHeartbeats 8000000 in
theorem k_grid_field_streamed : EOk Try.prog 70 c_grid_field_streamed :=
  eok_of_wk X_grid_field_streamed Try.func70 rfl (by kernel_rfl) rfl rfl fun args hp K hK => by
    unfold c_grid_field_streamed at hK
    split at hK
    · obtain ⟨g, ag, capg, hK1, e0, posg, vwg⟩ := iff_g1 hK; clear hK; have hK := hK1; clear hK1
      obtain ⟨p, hK1, e1⟩ := iff_i1 hK; clear hK; have hK := hK1; clear hK1
      obtain ⟨hpre, hK⟩ := hK
      obtain ⟨hok, hp1⟩ := hpre
      have hg := Grd.ok_iff.1 hok
      have hmb := mul_bd hg.1.1 hg.1.2.1 hg.1.2.2.1 hg.1.2.2.2.1
      have hw0 : (0 : Int) < g.w := (by omega)
      have hh0 : (0 : Int) < g.h := (by omega)
      have hlen : g.cs.length = (g.w * g.h).toNat := (by omega)
      have hlp : 1 ≤ g.cs.length ∧ g.cs.length ≤ 1024 := (by omega)
      have hce : ∀ k, k < g.cs.length → (g.cs.getD k default).ok = true := fun k hk => okL_at (gok_okL hok) hk
      have m0x : mvx 0 = 1 := rfl
      have m0y : mvy 0 = 0 := rfl
      have m1x : mvx 1 = 0 := rfl
      have m1y : mvy 1 = 1 := rfl
      have m2x : mvx 2 = -1 := rfl
      have m2y : mvy 2 = 0 := rfl
      have m3x : mvx 3 = 0 := rfl
      have m3y : mvy 3 = -1 := rfl
      have hkb := fun (k : Nat) (hk : k < g.cs.length) => xy_bd hw0 hh0 (i := k) (by omega)
      simp only [lenK_eq, appK_eq] at hK
      refine ⟨[.agg [.int .i64 g.w, .int .i64 g.h, .sl 0 ag 0 4 g.cs.length capg], .int .i64 p], [⟨ag, false, .ro, .cx g.cs⟩], denL_cons (e0) (denL_cons (e1.symm) (rfl)), ⟨trivial, trivial⟩, fun w hw b hb => (by rw [List.mem_singleton] at hb; subst hb; exact vwg w hw), Nat.le_of_ble_eq_true rfl, ?_⟩
      refine Wk.nil 61 (.cx []) rfl ?_
      repeat' (first | (refine Wk.op ?_; intro K' hK') | (refine Wk.xqOp ?_; intro K' hK') | (refine Wk.rgOne ?_; intro K' hK') | (refine Wk.rgPure ?_; intro K' hK') | (refine Wk.rgX ?_; intro K' hK') | (refine Wk.xqNew ?_; intro K' hK') | (refine Wk.xqEnd ?_) | (refine Wk.rgDone ?_) | (refine Wk.rgTwo ?_ ?_ <;> intro K' hK') | (refine Wk.rgH ?_ ?_) | (refine Wk.rsTake ?_; intro K' hK') | (refine Wk.rsOne ?_ (fun K' hK' => ?_)) | (refine Wk.rsTwo ?_ ?_ (fun K' hK' => ?_) (fun K' hK' => ?_)) | (refine Wk.rsDone ?_) | (refine hK' _ _ ?_ ?_ <;> clear hK' K') | (refine hK' _ _ ?_; clear hK' K') | (refine hK' _ ?_; clear hK' K') | (refine hKT _ ?_; clear hKT hKF KT KF) | (refine hKF _ ?_; clear hKT hKF KT KF) | (refine Wk.cond ?_; intro KT KF hKT hKF) | (refine Wk.ret ?_) | (refine Wk.draw ?_ ?_ ?_; rotate_left 2; (intro K' hK')) | (refine Wk.step rfl ?_) | (refine Wk.inv (X := X_grid_field_streamed) (t := .b 0 :: _) (ι := Nat) (fun k => k ≤ g.cs.length) [1, 2, 4, 5, 23, 24] (fun k => [(25, .int .i64 (k : Int))]) (fun k => [(4, fun b => ⟨b.nm, b.own, b.kd, .cx (fpart g.w g.h p g.cs k 0)⟩)]) (fun k => g.cs.length - k) ?_; intro K' hK'; ((refine hK' _ ⟨0, ?_, ?_, ?_⟩ ?_) <;> clear hK' K'); rotate_left 3; (intro k hi; have hI : k ≤ g.cs.length := hi; clear hi)) | (refine Wk.k (X := X_grid_field_streamed) (t := .b 0 :: _) ⟨k + 1, ?_, ?_, ?_, ?_⟩) | (refine Wk.inv (X := X_grid_field_streamed) (t := .b 2 :: _) (ι := Int) (fun d => d = 0 ∨ d = 1 ∨ d = 2 ∨ d = 3 ∨ d = 4) [1, 2, 4, 5, 8, 9, 23, 24, 25, 36] (fun d => [(37, .int .i64 d)]) (fun d => [(4, fun b => ⟨b.nm, b.own, b.kd, .cx (fpart g.w g.h p g.cs k d.toNat)⟩)]) (fun d => (4 - d).toNat) ?_; intro K' hK'; ((refine hK' _ ⟨0, ?_, ?_, ?_⟩ ?_) <;> clear hK' K'); rotate_left 3; (intro d hi; have hI : d = 0 ∨ d = 1 ∨ d = 2 ∨ d = 3 ∨ d = 4 := hi; clear hi; rcases hI with rfl | rfl | rfl | rfl | rfl)) | (refine Wk.k (X := X_grid_field_streamed) (t := .b 2 :: _) ⟨1, ?_, (show (4 - (1 : Int)).toNat < (4 - (0 : Int)).toNat by decide), ?_, ?_⟩) | (refine Wk.k (X := X_grid_field_streamed) (t := .b 2 :: _) ⟨2, ?_, (show (4 - (2 : Int)).toNat < (4 - (1 : Int)).toNat by decide), ?_, ?_⟩) | (refine Wk.k (X := X_grid_field_streamed) (t := .b 2 :: _) ⟨3, ?_, (show (4 - (3 : Int)).toNat < (4 - (2 : Int)).toNat by decide), ?_, ?_⟩) | (refine Wk.k (X := X_grid_field_streamed) (t := .b 2 :: _) ⟨4, ?_, (show (4 - (4 : Int)).toNat < (4 - (3 : Int)).toNat by decide), ?_, ?_⟩) | (refine Wk.done ?_) | (refine Fin.plain trivial ?_) | ((with_reducible refine top_goal ?_); kernel_rfl) | ((with_reducible refine takes_goal ?_); kernel_rfl) | ((with_reducible refine drop_goal ?_); kernel_rfl) | ((with_reducible refine held_goal ?_); (repeat refine And.intro rfl ?_); exact trivial) | ((with_reducible refine allB_goal ?_); kernel_rfl) | ((with_reducible refine mine_goal ?_); exact mine_of rfl) | ((with_reducible refine withV_goal ?_); refine withV_mk rfl ?_) | ((with_reducible refine hsel_goal ?_); (first | (exact hsel.nil) | (refine hsel.take (HB.like.refl _) (.inr fun _ h => h) ?_) | (refine hsel.take (like_cts ?_) (.inl rfl) ?_) | (refine hsel.skip (spare_own rfl rfl) ?_) | (refine hsel.skip spare_ro ?_))) | (refine And.intro ?_ ?_) | (intro hq; (try simp only [BF.H, Cel.eta, Rul.eta, Grd.eta, if_true, if_false, Int.toNat_natCast, Nat.add_zero] at hq); (try (exfalso; first | omega | (simp [BF.b] at hq; done)))))
      all_goals (try simp only [Cel.eta, Rul.eta, Grd.eta, if_true, if_false, Int.toNat_natCast, Int.toNat_zero, Nat.add_zero, Nat.zero_add])
      all_goals (try (first | (refine ret_slG (wrap := fun s => .agg [.int .i64 g.w, .int .i64 g.h, s]) (c := .cx (flow g.w g.h p g.cs)) hK 4 ⟨_, _, _, _, rfl, den_g (by show (flow g.w g.h p g.cs).length = _; rw [flow_length, hlen]; exact List.length_replicate.symm), ?_, ?_, ?_, ?_⟩)))
      all_goals (first | (with_reducible rfl) | (with_reducible exact trivial) | (with_reducible exact splitN_zero) | ((with_reducible refine fsub_goal ?_); exact trivial) | (with_reducible assumption) | ((with_reducible refine ble_goal ?_); rfl) | ((with_reducible refine ble2_goal ?_); (first | rfl | kernel_rfl)) | ((with_reducible refine beq_goal ?_); rfl) | omega | skip)
      all_goals (first | assumption | (with_reducible rfl) | omega | (simp only [Cts.len, List.length_nil]; done) | (simp only [Cts.len, List.length_nil, Int.toNat_natCast, Nat.add_zero, Nat.zero_add]; omega) | exact isSome_of (by assumption) | (simp only [Cts.len, Int.toNat_natCast, Nat.add_zero, Nat.zero_add] at *; first | assumption | omega) | exact int_eq (by omega) | exact cst_eq (by omega) | exact lit_eq (by omega) | exact posg (by omega) | exact opt_getD (posg (by omega)) _ | exact .inl trivial | rfl | exact mine_of rfl | exact Nat.le_of_ble_eq_true rfl | (simp only [m0x, m0y, m1x, m1y, m2x, m2y, m3x, m3y]; have hx := hkb k (by omega); omega) | exact (‹0 < (List.replicate (g.w * g.h).toNat (⟨0, 0, 0, 0⟩ : Cel)).length → Option.isSome _ = true›) (by rw [List.length_replicate]; omega) | exact opt_getD ((‹0 < (List.replicate (g.w * g.h).toNat (⟨0, 0, 0, 0⟩ : Cel)).length → Option.isSome _ = true›) (by rw [List.length_replicate]; omega)) _ | (simp only [List.length_replicate]; omega) | (show _ < (fpart g.w g.h p g.cs _ _).length; rw [fpart_length]; exact at_lt hw0 hh0 hg.2.1) | exact add_lo (fpart_bd (gok_okL hok) _ _ _ _ _ _).1 (cell_bd (gok_okL hok) _).1 | exact add_lo (fpart_bd (gok_okL hok) _ _ _ _ _ _).2.1 (cell_bd (gok_okL hok) _).2.1 | exact add_lo (fpart_bd (gok_okL hok) _ _ _ _ _ _).2.2.1 (cell_bd (gok_okL hok) _).2.2.1 | exact add_lo (fpart_bd (gok_okL hok) _ _ _ _ _ _).2.2.2 (cell_bd (gok_okL hok) _).2.2.2 | exact add_hi (fpart_bd (gok_okL hok) _ _ _ _ _ _).1 (cell_bd (gok_okL hok) _).1 | exact add_hi (fpart_bd (gok_okL hok) _ _ _ _ _ _).2.1 (cell_bd (gok_okL hok) _).2.1 | exact add_hi (fpart_bd (gok_okL hok) _ _ _ _ _ _).2.2.1 (cell_bd (gok_okL hok) _).2.2.1 | exact add_hi (fpart_bd (gok_okL hok) _ _ _ _ _ _).2.2.2 (cell_bd (gok_okL hok) _).2.2.2 | exact cx_eq (fpart_next ..).symm | exact cx_eq ((fpart_zero ..).trans (by rw [hlen])) | exact cx_eq (push_e hw0 hh0 hg.2.1 p (by omega)) | exact cx_eq (push_n hw0 hh0 hg.2.1 p (by omega)) | exact cx_eq (push_w hw0 hh0 hg.2.1 p (by omega)) | exact cx_eq (push_s hw0 hh0 hg.2.1 p (by omega)) | exact cx_eq (fpart_full hw0 hh0 hg.2.1 p (by omega)) | (intro _; exact (‹0 < (List.replicate (g.w * g.h).toNat (⟨0, 0, 0, 0⟩ : Cel)).length → Option.isSome _ = true›) (by rw [List.length_replicate]; omega)) | (refine ⟨?_, ?_⟩ <;> (try simp only [Cts.len, List.length_replicate, flow_length] at *) <;> omega) | (simp; done))
    · exact hK.elim
noncomputable def E9 : List (Nat × ECtr) := (70, c_grid_field_streamed) :: E8
theorem okE9 : EsOk Try.prog E9 := EsOk.cons k_grid_field_streamed okE8
def c_refB_Opposite : Ctr := fun args _ K => match args with
  | [x0] => i1 x0 fun k => (0 ≤ k ∧ k ≤ 3) ∧ K (.int .i64 ((k + 2) % 4))
  | _ => False
noncomputable def X_refB_Opposite : Env Try.prog := ⟨Try.f77.ntmps, TT, G49, E9, Try.f77.results.toList, [], TT_ok, okG49, okE9, mixed⟩
theorem k_refB_Opposite : COk Try.prog 77 c_refB_Opposite :=
  ctr_of_wk X_refB_Opposite Try.func77 rfl (by kernel_rfl) rfl rfl fun args hp K hK => by
    unfold c_refB_Opposite at hK
    split at hK
    · obtain ⟨k, hK1, e0⟩ := iff_i1 hK; clear hK; have hK := hK1; clear hK1
      obtain ⟨hpre, hK⟩ := hK
      have ht : (k + 2).tmod 4 = (k + 2) % 4 := Int.tmod_eq_emod_of_nonneg (by omega)
      refine ⟨[.int .i64 k], [], _, denL_cons (e0.symm) (rfl), trivial, fun _ _ b hb => (by cases hb), hK, Nat.le_of_ble_eq_true rfl, ?_⟩
      clear hK
      repeat' (first | (refine Wk.op ?_; intro K' hK') | (refine Wk.xqOp ?_; intro K' hK') | (refine Wk.rgOne ?_; intro K' hK') | (refine Wk.rgPure ?_; intro K' hK') | (refine Wk.rgX ?_; intro K' hK') | (refine Wk.xqNew ?_; intro K' hK') | (refine Wk.xqEnd ?_) | (refine Wk.rgDone ?_) | (refine Wk.rgTwo ?_ ?_ <;> intro K' hK') | (refine Wk.rgH ?_ ?_) | (refine Wk.rsTake ?_; intro K' hK') | (refine Wk.rsOne ?_ (fun K' hK' => ?_)) | (refine Wk.rsTwo ?_ ?_ (fun K' hK' => ?_) (fun K' hK' => ?_)) | (refine Wk.rsDone ?_) | (refine hK' _ _ ?_ ?_ <;> clear hK' K') | (refine hK' _ _ ?_; clear hK' K') | (refine hK' _ ?_; clear hK' K') | (refine hKT _ ?_; clear hKT hKF KT KF) | (refine hKF _ ?_; clear hKT hKF KT KF) | (refine Wk.cond ?_; intro KT KF hKT hKF) | (refine Wk.ret ?_) | (refine Wk.draw ?_ ?_ ?_; rotate_left 2; (intro K' hK')) | (refine Wk.step rfl ?_) | (refine Wk.done ?_) | (refine Fin.plain trivial ?_) | ((with_reducible refine top_goal ?_); kernel_rfl) | ((with_reducible refine takes_goal ?_); kernel_rfl) | ((with_reducible refine drop_goal ?_); kernel_rfl) | ((with_reducible refine held_goal ?_); (repeat refine And.intro rfl ?_); exact trivial) | ((with_reducible refine allB_goal ?_); kernel_rfl) | ((with_reducible refine mine_goal ?_); exact mine_of rfl) | ((with_reducible refine withV_goal ?_); refine withV_mk rfl ?_) | ((with_reducible refine hsel_goal ?_); (first | (exact hsel.nil) | (refine hsel.take (HB.like.refl _) (.inr fun _ h => h) ?_) | (refine hsel.take (like_cts ?_) (.inl rfl) ?_) | (refine hsel.skip (spare_own rfl rfl) ?_) | (refine hsel.skip spare_ro ?_))) | (refine And.intro ?_ ?_) | (intro hq; (try simp only [BF.H, Cel.eta, Rul.eta, Grd.eta, if_true, if_false, Int.toNat_natCast, Nat.add_zero] at hq); (try (exfalso; first | omega | (simp [BF.b] at hq; done)))))
      all_goals (try simp only [Cel.eta, Rul.eta, Grd.eta, if_true, if_false, Int.toNat_natCast, Int.toNat_zero, Nat.add_zero, Nat.zero_add])
      all_goals (first | (with_reducible rfl) | (with_reducible exact trivial) | (with_reducible exact splitN_zero) | ((with_reducible refine fsub_goal ?_); exact trivial) | (with_reducible assumption) | ((with_reducible refine ble_goal ?_); rfl) | ((with_reducible refine ble2_goal ?_); (first | rfl | kernel_rfl)) | ((with_reducible refine beq_goal ?_); rfl) | omega | skip)
      all_goals (first | (simp only [ht]; done) | (simp only [ht]; omega) | (simp only [ht]; rfl) | omega)
    · exact hK.elim
def G50 : List (Nat × Ctr) := (77, c_refB_Opposite) :: G49
theorem okG50 : GsOk Try.prog G50 := GsOk.cons k_refB_Opposite okG49
def c_refB_From : Ctr := fun args _ K => match args with
  | [x0, x1, x2, x3] => i1 x0 fun w => i1 x1 fun h => i1 x2 fun i => i1 x3 fun d => (1 ≤ w ∧ w ≤ 64 ∧ 1 ≤ h ∧ h ≤ 64 ∧ 0 ≤ i ∧ i < w * h ∧ 0 ≤ d ∧ d ≤ 3) ∧ K (.int .i64 (shI w h (-(mvx d)) (-(mvy d)) i))
  | _ => False
noncomputable def X_refB_From : Env Try.prog := ⟨Try.f153.ntmps, TT, G50, E9, Try.f153.results.toList, [(1, .x [0, 1, 2, 3, 4, 5, 6, 7] [] (.done)), (10, .x [0, 1, 2, 3, 4, 5, 6, 7, 8, 9] [] (.done))], TT_ok, okG50, okE9, mixed⟩
set_option maxHeartbeats 2000000 in
theorem k_refB_From : COk Try.prog 153 c_refB_From :=
  ctr_of_wk X_refB_From Try.func153 rfl (by kernel_rfl) rfl rfl fun args hp K hK => by
    unfold c_refB_From at hK
    split at hK
    · obtain ⟨w, hK1, e0⟩ := iff_i1 hK; clear hK; have hK := hK1; clear hK1
      obtain ⟨h, hK1, e1⟩ := iff_i1 hK; clear hK; have hK := hK1; clear hK1
      obtain ⟨i, hK1, e2⟩ := iff_i1 hK; clear hK; have hK := hK1; clear hK1
      obtain ⟨d, hK1, e3⟩ := iff_i1 hK; clear hK; have hK := hK1; clear hK1
      obtain ⟨hpre, hK⟩ := hK
      have hw0 : 0 < w := (by omega)
      have hh0 : 0 < h := (by omega)
      have ht : i.tmod w = i % w := Int.tmod_eq_emod_of_nonneg (by omega)
      have hd : i.tdiv w = i / w := Int.tdiv_eq_ediv_of_nonneg (by omega)
      have hx1 := Int.emod_nonneg i (show w ≠ 0 by omega)
      have hx2 := Int.emod_lt_of_pos i hw0
      have hy1 : 0 ≤ i / w := Int.ediv_nonneg (by omega) (by omega)
      have hy2 : i / w < h := Int.ediv_lt_of_lt_mul hw0 (by rw [Int.mul_comm]; omega)
      have fe1 : (i % w + w - 1).tmod w = (i % w + -1) % w := by rw [Int.tmod_eq_emod_of_nonneg (by omega), show i % w + w - 1 = (i % w + -1) + w by omega, Int.add_emod_right]
      have fe2 : (i % w + 1).tmod w = (i % w + 1) % w := Int.tmod_eq_emod_of_nonneg (by omega)
      have fe3 : (i % w).tmod w = (i % w + 0) % w := by rw [Int.add_zero]; exact Int.tmod_eq_emod_of_nonneg (by omega)
      have fe4 : (i / w + h - 1).tmod h = (i / w + -1) % h := by rw [Int.tmod_eq_emod_of_nonneg (by omega), show i / w + h - 1 = (i / w + -1) + h by omega, Int.add_emod_right]
      have fe5 : (i / w + 1).tmod h = (i / w + 1) % h := Int.tmod_eq_emod_of_nonneg (by omega)
      have fe6 : (i / w).tmod h = (i / w + 0) % h := by rw [Int.add_zero]; exact Int.tmod_eq_emod_of_nonneg (by omega)
      have b1 := at_bd (i % w + -1) (i / w + 0) hw0 hh0
      have b2 := at_bd (i % w + 1) (i / w + 0) hw0 hh0
      have b3 := at_bd (i % w + 0) (i / w + -1) hw0 hh0
      have b4 := at_bd (i % w + 0) (i / w + 1) hw0 hh0
      have hmb := mul_bd (a := w) (b := h) (by omega) (by omega) (by omega) (by omega)
      rw [Int.mul_comm w (_ % h)] at b1 b2 b3 b4
      refine ⟨[.int .i64 w, .int .i64 h, .int .i64 i, .int .i64 d], [], _, denL_cons (e0.symm) (denL_cons (e1.symm) (denL_cons (e2.symm) (denL_cons (e3.symm) (rfl)))), trivial, fun _ _ b hb => (by cases hb), hK, Nat.le_of_ble_eq_true rfl, ?_⟩
      clear hK
      rcases (show d = 0 ∨ d = 1 ∨ d = 2 ∨ d = 3 by omega) with rfl | rfl | rfl | rfl
      all_goals (repeat' (first | (refine Wk.op ?_; intro K' hK') | (refine Wk.xqOp ?_; intro K' hK') | (refine Wk.rgOne ?_; intro K' hK') | (refine Wk.rgPure ?_; intro K' hK') | (refine Wk.rgX ?_; intro K' hK') | (refine Wk.xqNew ?_; intro K' hK') | (refine Wk.xqEnd ?_) | (refine Wk.rgDone ?_) | (refine Wk.rgTwo ?_ ?_ <;> intro K' hK') | (refine Wk.rgH ?_ ?_) | (refine Wk.rsTake ?_; intro K' hK') | (refine Wk.rsOne ?_ (fun K' hK' => ?_)) | (refine Wk.rsTwo ?_ ?_ (fun K' hK' => ?_) (fun K' hK' => ?_)) | (refine Wk.rsDone ?_) | (refine hK' _ _ ?_ ?_ <;> clear hK' K') | (refine hK' _ _ ?_; clear hK' K') | (refine hK' _ ?_; clear hK' K') | (refine hKT _ ?_; clear hKT hKF KT KF) | (refine hKF _ ?_; clear hKT hKF KT KF) | (refine Wk.cond ?_; intro KT KF hKT hKF) | (refine Wk.ret ?_) | (refine Wk.draw ?_ ?_ ?_; rotate_left 2; (intro K' hK')) | (refine Wk.step rfl ?_) | (refine Wk.done ?_) | (refine Fin.plain trivial ?_) | ((with_reducible refine top_goal ?_); kernel_rfl) | ((with_reducible refine takes_goal ?_); kernel_rfl) | ((with_reducible refine drop_goal ?_); kernel_rfl) | ((with_reducible refine held_goal ?_); (repeat refine And.intro rfl ?_); exact trivial) | ((with_reducible refine allB_goal ?_); kernel_rfl) | ((with_reducible refine mine_goal ?_); exact mine_of rfl) | ((with_reducible refine withV_goal ?_); refine withV_mk rfl ?_) | ((with_reducible refine hsel_goal ?_); (first | (exact hsel.nil) | (refine hsel.take (HB.like.refl _) (.inr fun _ h => h) ?_) | (refine hsel.take (like_cts ?_) (.inl rfl) ?_) | (refine hsel.skip (spare_own rfl rfl) ?_) | (refine hsel.skip spare_ro ?_))) | (refine And.intro ?_ ?_) | (intro hq; (try simp only [BF.H, Cel.eta, Rul.eta, Grd.eta, if_true, if_false, Int.toNat_natCast, Nat.add_zero] at hq); (try (exfalso; first | omega | (simp [BF.b] at hq; done))))))
      all_goals (try simp only [Cel.eta, Rul.eta, Grd.eta, if_true, if_false, Int.toNat_natCast, Int.toNat_zero, Nat.add_zero, Nat.zero_add])
      all_goals (first | (with_reducible rfl) | (with_reducible exact trivial) | (with_reducible exact splitN_zero) | ((with_reducible refine fsub_goal ?_); exact trivial) | (with_reducible assumption) | ((with_reducible refine ble_goal ?_); rfl) | ((with_reducible refine ble2_goal ?_); (first | rfl | kernel_rfl)) | ((with_reducible refine beq_goal ?_); rfl) | omega | skip)
      all_goals (first | (simp only [ht, hd, fe1, fe2, fe3, fe4, fe5, fe6]; omega) | (simp only [ht, hd]; omega) | (refine int_eq ?_; simp only [ht, hd, fe1, fe2, fe3, fe4, fe5, fe6]; rw [Int.mul_comm]; rfl))
    · exact hK.elim
def G51 : List (Nat × Ctr) := (153, c_refB_From) :: G50
theorem okG51 : GsOk Try.prog G51 := GsOk.cons k_refB_From okG50
def c_refB_pulled : ECtr := fun args hp K => match args with
  | [x0, x1] => g1 x0 hp fun g => b1 x1 fun back => (g.ok = true) ∧ lenK hp 0 fun n => ∀ (ad : Option Nm) (cap bc : Nat), (0 < (flow g.w g.h (pOf back) g.cs).length → ad.isSome = true) → ((flow g.w g.h (pOf back) g.cs).length ≤ cap ∧ cap ≤ 9223372036854775807) → appK hp ⟨ad, true, .wr 61 bc, .cx (flow g.w g.h (pOf back) g.cs)⟩ fun hp' => K (.agg [.int .i64 g.w, .int .i64 g.h, .sl n ad 0 4 (flow g.w g.h (pOf back) g.cs).length cap]) hp'
  | _ => False
noncomputable def X_refB_pulled : Env Try.prog := ⟨Try.f130.ntmps, TT, G51, E9, Try.f130.results.toList, [(11, .x [0, 1, 2, 3, 4, 5, 6, 7, 8, 9, 10, 11, 12, 13, 14, 15, 16, 17, 18] [] (.one 19 (.done)))], TT_ok, okG51, okE9, mixed⟩
set_option maxHeartbeats 8000000 in
theorem k_refB_pulled : EOk Try.prog 130 c_refB_pulled :=
  eok_of_wk X_refB_pulled Try.func130 rfl (by kernel_rfl) rfl rfl fun args hp K hK => by
    unfold c_refB_pulled at hK
    split at hK
    · obtain ⟨g, ag, capg, hK1, e0, posg, vwg⟩ := iff_g1 hK; clear hK; have hK := hK1; clear hK1
      obtain ⟨back, hK1, e1⟩ := iff_b1 hK; clear hK; have hK := hK1; clear hK1
      obtain ⟨hpre, hK⟩ := hK
      have hok := hpre
      have hg := Grd.ok_iff.1 hok
      have hmb := mul_bd hg.1.1 hg.1.2.1 hg.1.2.2.1 hg.1.2.2.2.1
      have hw0 : (0 : Int) < g.w := (by omega)
      have hh0 : (0 : Int) < g.h := (by omega)
      have hlen : g.cs.length = (g.w * g.h).toNat := (by omega)
      have hlp : 1 ≤ g.cs.length ∧ g.cs.length ≤ 1024 := (by omega)
      have hce : ∀ k, k < g.cs.length → (g.cs.getD k default).ok = true := fun k hk => okL_at (gok_okL hok) hk
      have m0x : mvx 0 = 1 := rfl
      have m0y : mvy 0 = 0 := rfl
      have m1x : mvx 1 = 0 := rfl
      have m1y : mvy 1 = 1 := rfl
      have m2x : mvx 2 = -1 := rfl
      have m2y : mvy 2 = 0 := rfl
      have m3x : mvx 3 = 0 := rfl
      have m3y : mvy 3 = -1 := rfl
      have hkb := fun (k : Nat) (hk : k < g.cs.length) => xy_bd hw0 hh0 (i := k) (by omega)
      simp only [lenK_eq, appK_eq] at hK
      refine ⟨[.agg [.int .i64 g.w, .int .i64 g.h, .sl 0 ag 0 4 g.cs.length capg], .bool (.atom back)], [⟨ag, false, .ro, .cx g.cs⟩], denL_cons (e0) (denL_cons (e1.symm) (rfl)), ⟨trivial, trivial⟩, fun w hw b hb => (by rw [List.mem_singleton] at hb; subst hb; exact vwg w hw), Nat.le_of_ble_eq_true rfl, ?_⟩
      refine Wk.nil 61 (.cx []) rfl ?_
      rcases Bool.eq_false_or_eq_true back with hbk | hbk
      all_goals (repeat' (first | (refine Wk.op ?_; intro K' hK') | (refine Wk.xqOp ?_; intro K' hK') | (refine Wk.rgOne ?_; intro K' hK') | (refine Wk.rgPure ?_; intro K' hK') | (refine Wk.rgX ?_; intro K' hK') | (refine Wk.xqNew ?_; intro K' hK') | (refine Wk.xqEnd ?_) | (refine Wk.rgDone ?_) | (refine Wk.rgTwo ?_ ?_ <;> intro K' hK') | (refine Wk.rgH ?_ ?_) | (refine Wk.rsTake ?_; intro K' hK') | (refine Wk.rsOne ?_ (fun K' hK' => ?_)) | (refine Wk.rsTwo ?_ ?_ (fun K' hK' => ?_) (fun K' hK' => ?_)) | (refine Wk.rsDone ?_) | (refine hK' _ _ ?_ ?_ <;> clear hK' K') | (refine hK' _ _ ?_; clear hK' K') | (refine hK' _ ?_; clear hK' K') | (refine hKT _ ?_; clear hKT hKF KT KF) | (refine hKF _ ?_; clear hKT hKF KT KF) | (refine Wk.cond ?_; intro KT KF hKT hKF) | (refine Wk.ret ?_) | (refine Wk.draw ?_ ?_ ?_; rotate_left 2; (intro K' hK')) | (refine Wk.step rfl ?_) | (refine Wk.inv (X := X_refB_pulled) (t := .b 0 :: _) (ι := Nat) (fun k => k ≤ g.cs.length) [1, 2, 4, 5] (fun k => [(6, .int .i64 (k : Int))]) (fun k => [(4, fun b => ⟨b.nm, b.own, b.kd, .cx (gpart g.w g.h (pOf back) g.cs k 0)⟩)]) (fun k => g.cs.length - k) ?_; intro K' hK'; ((refine hK' _ ⟨0, ?_, ?_, ?_⟩ ?_) <;> clear hK' K'); rotate_left 3; (intro k hi; have hI : k ≤ g.cs.length := hi; clear hi)) | (refine Wk.k (X := X_refB_pulled) (t := .b 0 :: _) ⟨k + 1, ?_, ?_, ?_, ?_⟩) | (refine Wk.inv (X := X_refB_pulled) (t := .b 2 :: _) (ι := Int) (fun d => d = 0 ∨ d = 1 ∨ d = 2 ∨ d = 3 ∨ d = 4) [1, 2, 4, 5, 6] (fun d => [(7, .int .i64 d)]) (fun d => [(4, fun b => ⟨b.nm, b.own, b.kd, .cx (gpart g.w g.h (pOf back) g.cs k d.toNat)⟩)]) (fun d => (4 - d).toNat) ?_; intro K' hK'; ((refine hK' _ ⟨0, ?_, ?_, ?_⟩ ?_) <;> clear hK' K'); rotate_left 3; (intro d hi; have hI : d = 0 ∨ d = 1 ∨ d = 2 ∨ d = 3 ∨ d = 4 := hi; clear hi; have hkk : k < g.cs.length := (by first | omega | (simp only [List.length_replicate] at *; omega)); rcases hI with rfl | rfl | rfl | rfl | rfl)) | (refine Wk.k (X := X_refB_pulled) (t := .b 2 :: _) ⟨1, ?_, (show (4 - (1 : Int)).toNat < (4 - (0 : Int)).toNat by decide), ?_, ?_⟩) | (refine Wk.k (X := X_refB_pulled) (t := .b 2 :: _) ⟨2, ?_, (show (4 - (2 : Int)).toNat < (4 - (1 : Int)).toNat by decide), ?_, ?_⟩) | (refine Wk.k (X := X_refB_pulled) (t := .b 2 :: _) ⟨3, ?_, (show (4 - (3 : Int)).toNat < (4 - (2 : Int)).toNat by decide), ?_, ?_⟩) | (refine Wk.k (X := X_refB_pulled) (t := .b 2 :: _) ⟨4, ?_, (show (4 - (4 : Int)).toNat < (4 - (3 : Int)).toNat by decide), ?_, ?_⟩) | (refine Wk.done ?_) | (refine Fin.plain trivial ?_) | ((with_reducible refine top_goal ?_); kernel_rfl) | ((with_reducible refine takes_goal ?_); kernel_rfl) | ((with_reducible refine drop_goal ?_); kernel_rfl) | ((with_reducible refine held_goal ?_); (repeat refine And.intro rfl ?_); exact trivial) | ((with_reducible refine allB_goal ?_); kernel_rfl) | ((with_reducible refine mine_goal ?_); exact mine_of rfl) | ((with_reducible refine withV_goal ?_); refine withV_mk rfl ?_) | ((with_reducible refine hsel_goal ?_); (first | (exact hsel.nil) | (refine hsel.take (HB.like.refl _) (.inr fun _ h => h) ?_) | (refine hsel.take (like_cts ?_) (.inl rfl) ?_) | (refine hsel.skip (spare_own rfl rfl) ?_) | (refine hsel.skip spare_ro ?_))) | (refine And.intro ?_ ?_) | (intro hq; (try simp only [BF.H, Cel.eta, Rul.eta, Grd.eta, if_true, if_false, Int.toNat_natCast, Nat.add_zero] at hq); (try simp only [hbk] at hq); (try (exfalso; first | omega | (simp [BF.b] at hq; done))))))
      all_goals (try simp only [Cel.eta, Rul.eta, Grd.eta, if_true, if_false, Int.toNat_natCast, Int.toNat_zero, Nat.add_zero, Nat.zero_add])
      all_goals (try (first | (refine ret_slG (wrap := fun s => .agg [.int .i64 g.w, .int .i64 g.h, s]) (c := .cx (flow g.w g.h (pOf back) g.cs)) hK 4 ⟨_, _, _, _, rfl, den_g (by show (flow g.w g.h (pOf back) g.cs).length = _; rw [flow_length, hlen]; exact List.length_replicate.symm), ?_, ?_, ?_, ?_⟩)))
      all_goals (first | (with_reducible rfl) | (with_reducible exact trivial) | (with_reducible exact splitN_zero) | ((with_reducible refine fsub_goal ?_); exact trivial) | (with_reducible assumption) | ((with_reducible refine ble_goal ?_); rfl) | ((with_reducible refine ble2_goal ?_); (first | rfl | kernel_rfl)) | ((with_reducible refine beq_goal ?_); rfl) | omega | skip)
      all_goals (first | assumption | (with_reducible rfl) | omega | (simp only [Cts.len, List.length_nil]; done) | (simp only [Cts.len, List.length_nil, Int.toNat_natCast, Nat.add_zero, Nat.zero_add]; omega) | exact isSome_of (by assumption) | (simp only [Cts.len, Int.toNat_natCast, Nat.add_zero, Nat.zero_add] at *; first | assumption | omega) | exact int_eq (by omega) | exact cst_eq (by omega) | exact lit_eq (by omega) | exact posg (by omega) | exact opt_getD (posg (by omega)) _ | exact .inl trivial | rfl | exact mine_of rfl | exact Nat.le_of_ble_eq_true rfl | exact (‹0 < (List.replicate (g.w * g.h).toNat (⟨0, 0, 0, 0⟩ : Cel)).length → Option.isSome _ = true›) (by rw [List.length_replicate]; omega) | exact opt_getD ((‹0 < (List.replicate (g.w * g.h).toNat (⟨0, 0, 0, 0⟩ : Cel)).length → Option.isSome _ = true›) (by rw [List.length_replicate]; omega)) _ | (simp only [List.length_replicate]; omega) | (simp only [Cts.len, gpart_length]; omega) | exact (shI_lt _ _ _ hw0 hh0 hg.2.1).2.2 | exact (shI_lt _ _ _ hw0 hh0 hg.2.1).1 | exact (shI_lt _ _ _ hw0 hh0 hg.2.1).2.1 | (simp only [Cts.len, gpart_length, List.length_replicate] at *; done) | (simp only [Cts.len, gpart_length, List.length_replicate] at *; omega) | (have hs := shI_lt (-(mvx 0)) (-(mvy 0)) (k : Int) hw0 hh0 hg.2.1; omega) | (have hs := shI_lt (-(mvx 1)) (-(mvy 1)) (k : Int) hw0 hh0 hg.2.1; omega) | (have hs := shI_lt (-(mvx 2)) (-(mvy 2)) (k : Int) hw0 hh0 hg.2.1; omega) | (have hs := shI_lt (-(mvx 3)) (-(mvy 3)) (k : Int) hw0 hh0 hg.2.1; omega) | (have hs := shI_lt (-(mvx ((0 + 2) % 4))) (-(mvy ((0 + 2) % 4))) (k : Int) hw0 hh0 hg.2.1; omega) | (have hs := shI_lt (-(mvx ((1 + 2) % 4))) (-(mvy ((1 + 2) % 4))) (k : Int) hw0 hh0 hg.2.1; omega) | (have hs := shI_lt (-(mvx ((2 + 2) % 4))) (-(mvy ((2 + 2) % 4))) (k : Int) hw0 hh0 hg.2.1; omega) | (have hs := shI_lt (-(mvx ((3 + 2) % 4))) (-(mvy ((3 + 2) % 4))) (k : Int) hw0 hh0 hg.2.1; omega) | exact cx_eq (gpart_next ..).symm | exact cx_eq ((gpart_zero ..).trans (by rw [hlen])) | exact cx_eq (pull_e hkk (by first | rfl | (rw [hbk]; rfl)) (by first | rfl | (rw [hbk]; rfl))) | exact cx_eq (pull_n hkk (by first | rfl | (rw [hbk]; rfl)) (by first | rfl | (rw [hbk]; rfl))) | exact cx_eq (pull_w hkk (by first | rfl | (rw [hbk]; rfl)) (by first | rfl | (rw [hbk]; rfl))) | exact cx_eq (pull_s hkk (by first | rfl | (rw [hbk]; rfl)) (by first | rfl | (rw [hbk]; rfl))) | exact cx_eq (gpart_full _ _ _ _ (by first | (simp only [List.length_replicate] at *; done) | (simp only [List.length_replicate] at *; omega))) | (intro _; exact (‹0 < (List.replicate (g.w * g.h).toNat (⟨0, 0, 0, 0⟩ : Cel)).length → Option.isSome _ = true›) (by rw [List.length_replicate]; omega)) | (refine ⟨?_, ?_⟩ <;> (try simp only [Cts.len, List.length_replicate, flow_length] at *) <;> omega) | (simp; done))
    · exact hK.elim
noncomputable def E10 : List (Nat × ECtr) := (130, c_refB_pulled) :: E9
theorem okE10 : EsOk Try.prog E10 := EsOk.cons k_refB_pulled okE9
end Go.Proofs.Ytbcajalaopjmdaa
