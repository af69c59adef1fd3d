/- Contracts: what the functions hand back. -/
import Derived.Test.YtghflfilemhaoaaKPF
import Derived.Test.YtghflfilemhaoaaSpEven
set_option linter.unusedSimpArgs false
set_option linter.unusedVariables false
set_option maxRecDepth 100000
namespace Go.Proofs.Ytghflfilemhaoaa
open Go.Sy Go.RowKit

def c_phase_kind : Ctr := fun args hp K => match args with
  | [x0, x1] => m1 x0 hp fun x => i1 x1 fun i => ((x.a.length ≤ 1200 ∧ x.b.length = x.a.length) ∧ 0 ≤ i ∧ i < x.a.length) ∧ K (.int .i64 (kindI x i))
  | _ => False
noncomputable def X_phase_kind : Env Try.prog := ⟨Try.f45.ntmps, TT, G40, E17, Try.f45.results.toList, [], TT_ok, okG40, okE17, mixed⟩
theorem k_phase_kind : COk Try.prog 45 c_phase_kind :=
  ctr_of_wk X_phase_kind Try.func45 rfl (by kernel_rfl) rfl rfl fun args hp K hK => by
    unfold c_phase_kind at hK
    split at hK
    · obtain ⟨x, ax, capx, bx, dapx, hK1, e0, posx, qosx, vwx, vxx⟩ := iff_m1 hK; clear hK; have hK := hK1; clear hK1
      obtain ⟨i, hK1, e1⟩ := iff_i1 hK; clear hK; have hK := hK1; clear hK1
      obtain ⟨hpre, hK⟩ := hK
      refine ⟨[.agg [.int .i64 x.w, .int .i64 x.h, .sl 0 ax 0 4 x.a.length capx, .sl 1 bx 0 4 x.b.length dapx], .int .i64 i], [⟨ax, false, .ro, .cx x.a⟩, ⟨bx, false, .ro, .cx x.b⟩], _, denL_cons (e0) (denL_cons (e1.symm) (rfl)), ⟨trivial, ⟨trivial, trivial⟩⟩, fun w hw b hb => (by simp only [List.mem_cons, List.not_mem_nil, or_false] at hb; rcases hb with rfl | rfl <;> first | exact vwx w hw | exact vxx w hw), hK, Nat.le_of_ble_eq_true rfl, ?_⟩
      clear hK
      repeat' (first | (refine Wk.op ?_; intro K' hK') | (refine Wk.xqOp ?_; intro K' hK') | (refine Wk.rgOne ?_; intro K' hK') | (refine Wk.rgPure ?_; intro K' hK') | (refine Wk.rgX ?_; intro K' hK') | (refine Wk.xqNew ?_; intro K' hK') | (refine Wk.xqEnd ?_) | (refine Wk.rgDone ?_) | (refine Wk.rgTwo ?_ ?_ <;> intro K' hK') | (refine Wk.rgH ?_ ?_) | (refine Wk.rsTake ?_; intro K' hK') | (refine Wk.rsOne ?_ (fun K' hK' => ?_)) | (refine Wk.rsTwo ?_ ?_ (fun K' hK' => ?_) (fun K' hK' => ?_)) | (refine Wk.rsDone ?_) | (refine hK' _ _ ?_ ?_ <;> clear hK' K') | (refine hK' _ _ ?_; clear hK' K') | (refine hK' _ ?_; clear hK' K') | (refine hKT _ ?_; clear hKT hKF KT KF) | (refine hKF _ ?_; clear hKT hKF KT KF) | (refine Wk.cond ?_; intro KT KF hKT hKF) | (refine Wk.ret ?_) | (refine Wk.draw ?_ ?_ ?_; rotate_left 2; (intro K' hK')) | (refine Wk.step rfl ?_) | (refine Wk.done ?_) | (refine Fin.plain trivial ?_) | ((with_reducible refine top_goal ?_); kernel_rfl) | ((with_reducible refine takes_goal ?_); kernel_rfl) | ((with_reducible refine drop_goal ?_); kernel_rfl) | ((with_reducible refine held_goal ?_); (repeat refine And.intro rfl ?_); exact trivial) | ((with_reducible refine allB_goal ?_); kernel_rfl) | ((with_reducible refine mine_goal ?_); exact mine_of rfl) | ((with_reducible refine withV_goal ?_); refine withV_mk rfl ?_) | ((with_reducible refine hsel_goal ?_); (first | (exact hsel.nil) | (refine hsel.take (HB.like.refl _) (.inr fun _ h => h) ?_) | (refine hsel.take (like_cts ?_) (.inl rfl) ?_) | (refine hsel.skip (spare_own rfl rfl) ?_) | (refine hsel.skip spare_ro ?_))) | (refine And.intro ?_ ?_) | (intro hq; (try simp only [BF.H, Cel.eta, Rul.eta, Grd.eta, if_true, if_false, Int.toNat_natCast, Nat.add_zero] at hq); (try (exfalso; first | omega | (simp [BF.b] at hq; done)))))
      all_goals (try simp only [Cel.eta, Rul.eta, Grd.eta, if_true, if_false, Int.toNat_natCast, Int.toNat_zero, Nat.add_zero, Nat.zero_add])
      all_goals (first | (with_reducible rfl) | (with_reducible exact trivial) | (with_reducible exact splitN_zero) | ((with_reducible refine fsub_goal ?_); exact trivial) | (with_reducible assumption) | ((with_reducible refine ble_goal ?_); rfl) | ((with_reducible refine ble2_goal ?_); (first | rfl | kernel_rfl)) | ((with_reducible refine beq_goal ?_); rfl) | omega | skip)
      all_goals (first | assumption | (with_reducible rfl) | omega | (simp only [Cts.len, List.length_nil]; done) | (simp only [Cts.len, List.length_nil, Int.toNat_natCast, Nat.add_zero, Nat.zero_add]; omega) | exact isSome_of (by assumption) | (simp only [Cts.len, Int.toNat_natCast, Nat.add_zero, Nat.zero_add] at *; first | assumption | omega) | exact int_eq (by omega) | exact cst_eq (by omega) | exact lit_eq (by omega) | exact posx (by omega) | exact opt_getD (posx (by omega)) _ | exact qosx (by omega) | exact opt_getD (qosx (by omega)) _ | rfl | (simp [Cel.eta, Rul.eta, Grd.eta, den, denL, den_ofConst, BF.b, bfOf, Cel.sv, Rul.sv, kindI, kindC, *]; done) | (simp [Cel.eta, Rul.eta, Grd.eta, den, denL, den_ofConst, BF.b, bfOf, Cel.sv, Rul.sv, kindI, kindC]; omega) | (refine cst_eq ?_; simp only [kindI, kindC]; (repeat' split) <;> omega) | (refine lit_eq ?_; simp only [kindI, kindC]; (repeat' split) <;> omega))
    · exact hK.elim
def G41 : List (Nat × Ctr) := (45, c_phase_kind) :: G40
theorem okG41 : GsOk Try.prog G41 := GsOk.cons k_phase_kind okG40
noncomputable def X_phase_beside_1 : Env Try.prog := ⟨Try.f79.ntmps, TT, G41, E17, Try.f79.results.toList, [(1, .x [0, 1, 2, 3, 4, 5, 6, 7, 8, 9, 10, 11, 12, 13, 14, 15, 16, 17, 18] [] (.done))], TT_ok, okG41, okE17, mixed⟩
noncomputable def code_phase_beside_1 : Code := match Try.f79.body with | some c => c | none => .skip
theorem k_phase_beside_1 : EOk Try.prog 79 (inl X_phase_beside_1 code_phase_beside_1) := inl_ok X_phase_beside_1 Try.func79 rfl (by kernel_rfl) rfl rfl
noncomputable def E18 : List (Nat × ECtr) := (79, inl X_phase_beside_1 code_phase_beside_1) :: E17
theorem okE18 : EsOk Try.prog E18 := EsOk.cons k_phase_beside_1 okE17
def c_phase_beside : Ctr := fun args hp K => match args with
  | [x0, x1] => m1 x0 hp fun x => i1 x1 fun i => (1 ≤ x.w ∧ x.w ≤ 64 ∧ 1 ≤ x.h ∧ x.h ≤ 64 ∧ x.w * x.h ≤ 1024 ∧ 0 ≤ i ∧ i < x.w * x.h) ∧ K (.agg [.int .i64 (shI x.w x.h 1 0 i), .int .i64 (shI x.w x.h 0 1 i), .int .i64 (shI x.w x.h (-1) 0 i), .int .i64 (shI x.w x.h 0 (-1) i)])
  | _ => False
noncomputable def X_phase_beside : Env Try.prog := ⟨Try.f44.ntmps, TT, G41, E18, Try.f44.results.toList, [(2, .x [0, 1, 2, 3, 4, 5, 6, 7, 8, 9] [] (.done))], TT_ok, okG41, okE18, mixed⟩
set_option maxHeartbeats 4000000 in
theorem k_phase_beside : COk Try.prog 44 c_phase_beside :=
  ctr_of_wk X_phase_beside Try.func44 rfl (by kernel_rfl) rfl rfl fun args hp K hK => by
    unfold c_phase_beside at hK
    split at hK
    · obtain ⟨x, ax, capx, bx, dapx, hK1, e0, posx, qosx, vwx, vxx⟩ := iff_m1 hK; clear hK; have hK := hK1; clear hK1
      obtain ⟨i, hK1, e1⟩ := iff_i1 hK; clear hK; have hK := hK1; clear hK1
      obtain ⟨hpre, hK⟩ := hK
      obtain ⟨h1, h2, h3, h4, h5, hi0, hi1⟩ := hpre
      have hw0 : 0 < x.w := (by omega)
      have hh0 : 0 < x.h := (by omega)
      have ht : i.tmod x.w = i % x.w := Int.tmod_eq_emod_of_nonneg (by omega)
      have hd : i.tdiv x.w = i / x.w := Int.tdiv_eq_ediv_of_nonneg (by omega)
      have hx1 := Int.emod_nonneg i (show x.w ≠ 0 by omega)
      have hx2 := Int.emod_lt_of_pos i hw0
      have hy1 : 0 ≤ i / x.w := Int.ediv_nonneg (by omega) (by omega)
      have hy2 : i / x.w < x.h := Int.ediv_lt_of_lt_mul hw0 (by rw [Int.mul_comm]; omega)
      have f1 : (i % x.w + 1 + x.w).tmod x.w = (i % x.w + 1) % x.w := by rw [Int.tmod_eq_emod_of_nonneg (by omega), Int.add_emod_right]
      have f2 : (i % x.w + x.w).tmod x.w = (i % x.w + 0) % x.w := by rw [Int.tmod_eq_emod_of_nonneg (by omega), Int.add_emod_right, Int.add_zero]
      have f3 : (i % x.w - 1 + x.w).tmod x.w = (i % x.w + -1) % x.w := by rw [Int.tmod_eq_emod_of_nonneg (by omega), Int.add_emod_right]; rfl
      have f4 : (i / x.w + 1 + x.h).tmod x.h = (i / x.w + 1) % x.h := by rw [Int.tmod_eq_emod_of_nonneg (by omega), Int.add_emod_right]
      have f5 : (i / x.w + x.h).tmod x.h = (i / x.w + 0) % x.h := by rw [Int.tmod_eq_emod_of_nonneg (by omega), Int.add_emod_right, Int.add_zero]
      have f6 : (i / x.w - 1 + x.h).tmod x.h = (i / x.w + -1) % x.h := by rw [Int.tmod_eq_emod_of_nonneg (by omega), Int.add_emod_right]; rfl
      have b1 := at_bd (i % x.w + 1) (i / x.w + 0) hw0 hh0
      have b2 := at_bd (i % x.w + 0) (i / x.w + 1) hw0 hh0
      have b3 := at_bd (i % x.w + -1) (i / x.w + 0) hw0 hh0
      have b4 := at_bd (i % x.w + 0) (i / x.w + -1) hw0 hh0
      have hmb := mul_bd (a := x.w) (b := x.h) (by omega) (by omega) (by omega) (by omega)
      refine ⟨[.agg [.int .i64 x.w, .int .i64 x.h, .sl 0 ax 0 4 x.a.length capx, .sl 1 bx 0 4 x.b.length dapx], .int .i64 i], [⟨ax, false, .ro, .cx x.a⟩, ⟨bx, false, .ro, .cx x.b⟩], _, denL_cons (e0) (denL_cons (e1.symm) (rfl)), ⟨trivial, ⟨trivial, trivial⟩⟩, fun w hw b hb => (by simp only [List.mem_cons, List.not_mem_nil, or_false] at hb; rcases hb with rfl | rfl <;> first | exact vwx w hw | exact vxx w hw), hK, Nat.le_of_ble_eq_true rfl, ?_⟩
      clear hK
      repeat' (first | (refine Wk.op ?_; intro K' hK') | (refine Wk.xqOp ?_; intro K' hK') | (refine Wk.rgOne ?_; intro K' hK') | (refine Wk.rgPure ?_; intro K' hK') | (refine Wk.rgX ?_; intro K' hK') | (refine Wk.xqNew ?_; intro K' hK') | (refine Wk.xqEnd ?_) | (refine Wk.rgDone ?_) | (refine Wk.rgTwo ?_ ?_ <;> intro K' hK') | (refine Wk.rgH ?_ ?_) | (refine Wk.rsTake ?_; intro K' hK') | (refine Wk.rsOne ?_ (fun K' hK' => ?_)) | (refine Wk.rsTwo ?_ ?_ (fun K' hK' => ?_) (fun K' hK' => ?_)) | (refine Wk.rsDone ?_) | (refine hK' _ _ ?_ ?_ <;> clear hK' K') | (refine hK' _ _ ?_; clear hK' K') | (refine hK' _ ?_; clear hK' K') | (refine hKT _ ?_; clear hKT hKF KT KF) | (refine hKF _ ?_; clear hKT hKF KT KF) | (refine Wk.cond ?_; intro KT KF hKT hKF) | (refine Wk.ret ?_) | (refine Wk.draw ?_ ?_ ?_; rotate_left 2; (intro K' hK')) | (refine Wk.step rfl ?_) | (refine Wk.done ?_) | (refine Fin.plain trivial ?_) | ((with_reducible refine top_goal ?_); kernel_rfl) | ((with_reducible refine takes_goal ?_); kernel_rfl) | ((with_reducible refine drop_goal ?_); kernel_rfl) | ((with_reducible refine held_goal ?_); (repeat refine And.intro rfl ?_); exact trivial) | ((with_reducible refine allB_goal ?_); kernel_rfl) | ((with_reducible refine mine_goal ?_); exact mine_of rfl) | ((with_reducible refine withV_goal ?_); refine withV_mk rfl ?_) | ((with_reducible refine hsel_goal ?_); (first | (exact hsel.nil) | (refine hsel.take (HB.like.refl _) (.inr fun _ h => h) ?_) | (refine hsel.take (like_cts ?_) (.inl rfl) ?_) | (refine hsel.skip (spare_own rfl rfl) ?_) | (refine hsel.skip spare_ro ?_))) | (refine And.intro ?_ ?_) | (intro hq; (try simp only [BF.H, Cel.eta, Rul.eta, Grd.eta, if_true, if_false, Int.toNat_natCast, Nat.add_zero] at hq); (try (exfalso; first | omega | (simp [BF.b] at hq; done)))))
      all_goals (try simp only [Cel.eta, Rul.eta, Grd.eta, if_true, if_false, Int.toNat_natCast, Int.toNat_zero, Nat.add_zero, Nat.zero_add])
      all_goals (first | (with_reducible rfl) | (with_reducible exact trivial) | (with_reducible exact splitN_zero) | ((with_reducible refine fsub_goal ?_); exact trivial) | (with_reducible assumption) | ((with_reducible refine ble_goal ?_); rfl) | ((with_reducible refine ble2_goal ?_); (first | rfl | kernel_rfl)) | ((with_reducible refine beq_goal ?_); rfl) | omega | skip)
      all_goals (first | assumption | (with_reducible rfl) | omega | (simp only [Cts.len, List.length_nil]; done) | (simp only [Cts.len, List.length_nil, Int.toNat_natCast, Nat.add_zero, Nat.zero_add]; omega) | exact isSome_of (by assumption) | (simp only [Cts.len, Int.toNat_natCast, Nat.add_zero, Nat.zero_add] at *; first | assumption | omega) | exact int_eq (by omega) | exact cst_eq (by omega) | exact lit_eq (by omega) | exact posx (by omega) | exact opt_getD (posx (by omega)) _ | exact qosx (by omega) | exact opt_getD (qosx (by omega)) _ | (simp only [ht, hd, f1, f2, f3, f4, f5, f6]; omega) | (simp only [ht, hd, f1, f2, f3, f4, f5, f6]; rfl) | (simp only [ht, hd, f1, f2, f3, f4, f5, f6]; done))
    · exact hK.elim
def G42 : List (Nat × Ctr) := (44, c_phase_beside) :: G41
theorem okG42 : GsOk Try.prog G42 := GsOk.cons k_phase_beside okG41
def c_phase_Interface : Ctr := fun args hp K => match args with
  | [x0] => m1 x0 hp fun x => (x.a.length ≤ 1200 ∧ x.b.length ≤ 1200) ∧ K (.tup [.int .i64 (if x.ok then ifcN x x.a.length else 0), .int .i64 (Mix.err x)])
  | _ => False
noncomputable def X_phase_Interface : Env Try.prog := ⟨Try.f12.ntmps, TT, G42, E18, Try.f12.results.toList, [(11, .x [0, 1, 2, 3, 4, 5, 6, 7] [] (.done))], TT_ok, okG42, okE18, mixed⟩
set_option maxHeartbeats 8000000 in
theorem k_phase_Interface : COk Try.prog 12 c_phase_Interface :=
  ctr_of_wk X_phase_Interface Try.func12 rfl (by kernel_rfl) rfl rfl fun args hp K hK => by
    unfold c_phase_Interface at hK
    split at hK
    · obtain ⟨x, ax, capx, bx, dapx, hK1, e0, posx, qosx, vwx, vxx⟩ := iff_m1 hK; clear hK; have hK := hK1; clear hK1
      obtain ⟨hpre, hK⟩ := hK
      refine ⟨[.agg [.int .i64 x.w, .int .i64 x.h, .sl 0 ax 0 4 x.a.length capx, .sl 1 bx 0 4 x.b.length dapx]], [⟨ax, false, .ro, .cx x.a⟩, ⟨bx, false, .ro, .cx x.b⟩], _, denL_cons (e0) (rfl), ⟨trivial, ⟨trivial, trivial⟩⟩, fun w hw b hb => (by simp only [List.mem_cons, List.not_mem_nil, or_false] at hb; rcases hb with rfl | rfl <;> first | exact vwx w hw | exact vxx w hw), hK, Nat.le_of_ble_eq_true rfl, ?_⟩
      clear hK
      rcases mfull x with ⟨hv, he⟩ | ⟨hv, he, ha, hb, e1, e2, m1, m2, o1, o2, hm, hl, q1, q2, f1, f2, f3, f4, f5, f6⟩
      all_goals (repeat' (first | (refine Wk.op ?_; intro K' hK') | (refine Wk.xqOp ?_; intro K' hK') | (refine Wk.rgOne ?_; intro K' hK') | (refine Wk.rgPure ?_; intro K' hK') | (refine Wk.rgX ?_; intro K' hK') | (refine Wk.xqNew ?_; intro K' hK') | (refine Wk.xqEnd ?_) | (refine Wk.rgDone ?_) | (refine Wk.rgTwo ?_ ?_ <;> intro K' hK') | (refine Wk.rgH ?_ ?_) | (refine Wk.rsTake ?_; intro K' hK') | (refine Wk.rsOne ?_ (fun K' hK' => ?_)) | (refine Wk.rsTwo ?_ ?_ (fun K' hK' => ?_) (fun K' hK' => ?_)) | (refine Wk.rsDone ?_) | (refine hK' _ _ ?_ ?_ <;> clear hK' K') | (refine hK' _ _ ?_; clear hK' K') | (refine hK' _ ?_; clear hK' K') | (refine hKT _ ?_; clear hKT hKF KT KF) | (refine hKF _ ?_; clear hKT hKF KT KF) | (refine Wk.cond ?_; intro KT KF hKT hKF) | (refine Wk.ret ?_) | (refine Wk.draw ?_ ?_ ?_; rotate_left 2; (intro K' hK')) | (refine Wk.step rfl ?_) | (refine Wk.inv (X := X_phase_Interface) (t := .b 0 :: _) (ι := Nat) (fun k => k ≤ x.a.length) [1, 14] (fun k => [(4, .int .i64 (ifcN x k)), (15, .int .i64 (k : Int))]) (fun k => []) (fun k => x.a.length - k) ?_; intro K' hK'; ((refine hK' _ ⟨0, ?_, ?_, ?_⟩ ?_) <;> clear hK' K'); rotate_left 3; (intro k hi; have hI : k ≤ x.a.length := hi; clear hi)) | (refine Wk.k (X := X_phase_Interface) (t := .b 0 :: _) ⟨k + 1, ?_, ?_, ?_, ?_⟩) | (refine Wk.rounds (X := X_phase_Interface) (t := .b 2 :: _) 3 ?_) | (refine Wk.done ?_) | (refine Fin.plain trivial ?_) | ((with_reducible refine top_goal ?_); kernel_rfl) | ((with_reducible refine takes_goal ?_); kernel_rfl) | ((with_reducible refine drop_goal ?_); kernel_rfl) | ((with_reducible refine held_goal ?_); (repeat refine And.intro rfl ?_); exact trivial) | ((with_reducible refine allB_goal ?_); kernel_rfl) | ((with_reducible refine mine_goal ?_); exact mine_of rfl) | ((with_reducible refine withV_goal ?_); refine withV_mk rfl ?_) | ((with_reducible refine hsel_goal ?_); (first | (exact hsel.nil) | (refine hsel.take (HB.like.refl _) (.inr fun _ h => h) ?_) | (refine hsel.take (like_cts ?_) (.inl rfl) ?_) | (refine hsel.skip (spare_own rfl rfl) ?_) | (refine hsel.skip spare_ro ?_))) | (refine And.intro ?_ ?_) | (intro hq; (try simp only [BF.H, Cel.eta, Rul.eta, Grd.eta, if_true, if_false, Int.toNat_natCast, Nat.add_zero] at hq); (try simp only [hv] at hq); (try (exfalso; first | omega | (simp [BF.b] at hq; done))))))
      all_goals (try simp only [Cel.eta, Rul.eta, Grd.eta, if_true, if_false, Int.toNat_natCast, Int.toNat_zero, Nat.add_zero, Nat.zero_add])
      all_goals (first | (with_reducible rfl) | (with_reducible exact trivial) | (with_reducible exact splitN_zero) | ((with_reducible refine fsub_goal ?_); exact trivial) | (with_reducible assumption) | ((with_reducible refine ble_goal ?_); rfl) | ((with_reducible refine ble2_goal ?_); (first | rfl | kernel_rfl)) | ((with_reducible refine beq_goal ?_); rfl) | omega | skip)
      all_goals (first | assumption | (with_reducible rfl) | omega | (simp only [Cts.len, List.length_nil]; done) | (simp only [Cts.len, List.length_nil, Int.toNat_natCast, Nat.add_zero, Nat.zero_add]; omega) | exact isSome_of (by assumption) | (simp only [Cts.len, Int.toNat_natCast, Nat.add_zero, Nat.zero_add] at *; first | assumption | omega) | exact int_eq (by omega) | exact cst_eq (by omega) | exact lit_eq (by omega) | exact posx (by omega) | exact opt_getD (posx (by omega)) _ | exact qosx (by omega) | exact opt_getD (qosx (by omega)) _ | rfl | exact mine_of rfl | exact (kk_bd ..).1 | exact (kk_bd ..).2 | (have g0 := gok_bds ha; simp only at g0; have hs1 := shI_lt 1 0 (k : Int) (w := x.w) (h := x.h) (by omega) (by omega) (n := x.a.length) (by omega); have hs2 := shI_lt 0 1 (k : Int) (w := x.w) (h := x.h) (by omega) (by omega) (n := x.a.length) (by omega); omega) | (have hf := ifcN_bd x k; omega) | (simp only [Mix.eta] at *; refine int_eq ?_; simp only [ifcN, meetI]; (repeat' split) <;> omega) | (simp only [hv, he, Bool.false_eq_true, if_false]; rfl) | (simp only [hv, he, if_true]; rw [show x.a.length = k by omega]; rfl) | (simp [hv, he]; done))
    · exact hK.elim
def G43 : List (Nat × Ctr) := (12, c_phase_Interface) :: G42
theorem okG43 : GsOk Try.prog G43 := GsOk.cons k_phase_Interface okG42
def c_phase_Kind : Ctr := fun args hp K => match args with
  | [x0, x1] => m1 x0 hp fun x => pt1 x1 fun p => (x.a.length ≤ 1200 ∧ x.b.length ≤ 1200) ∧ K (.tup [.int .i64 (kindV x p), .int .i64 (kindE x p)])
  | _ => False
noncomputable def X_phase_Kind : Env Try.prog := ⟨Try.f13.ntmps, TT, G43, E18, Try.f13.results.toList, [], TT_ok, okG43, okE18, mixed⟩
set_option maxHeartbeats 4000000 in
theorem k_phase_Kind : COk Try.prog 13 c_phase_Kind :=
  ctr_of_wk X_phase_Kind Try.func13 rfl (by kernel_rfl) rfl rfl fun args hp K hK => by
    unfold c_phase_Kind at hK
    split at hK
    · obtain ⟨x, ax, capx, bx, dapx, hK1, e0, posx, qosx, vwx, vxx⟩ := iff_m1 hK; clear hK; have hK := hK1; clear hK1
      obtain ⟨p, hK1, e1⟩ := iff_pt1 hK; clear hK; have hK := hK1; clear hK1
      obtain ⟨hpre, hK⟩ := hK
      refine ⟨[.agg [.int .i64 x.w, .int .i64 x.h, .sl 0 ax 0 4 x.a.length capx, .sl 1 bx 0 4 x.b.length dapx], .agg [.int .i64 p.x, .int .i64 p.y]], [⟨ax, false, .ro, .cx x.a⟩, ⟨bx, false, .ro, .cx x.b⟩], _, denL_cons (e0) (denL_cons (e1.symm) (rfl)), ⟨trivial, ⟨trivial, trivial⟩⟩, fun w hw b hb => (by simp only [List.mem_cons, List.not_mem_nil, or_false] at hb; rcases hb with rfl | rfl <;> first | exact vwx w hw | exact vxx w hw), hK, Nat.le_of_ble_eq_true rfl, ?_⟩
      clear hK
      rcases kind_ways x p with ⟨hv, ho, hE, hV⟩ | ⟨hv, ho, hE, hV, hwb⟩ | ⟨hv, ho, hE, hV, hl, hi, hwb⟩
      all_goals (repeat' (first | (refine Wk.op ?_; intro K' hK') | (refine Wk.xqOp ?_; intro K' hK') | (refine Wk.rgOne ?_; intro K' hK') | (refine Wk.rgPure ?_; intro K' hK') | (refine Wk.rgX ?_; intro K' hK') | (refine Wk.xqNew ?_; intro K' hK') | (refine Wk.xqEnd ?_) | (refine Wk.rgDone ?_) | (refine Wk.rgTwo ?_ ?_ <;> intro K' hK') | (refine Wk.rgH ?_ ?_) | (refine Wk.rsTake ?_; intro K' hK') | (refine Wk.rsOne ?_ (fun K' hK' => ?_)) | (refine Wk.rsTwo ?_ ?_ (fun K' hK' => ?_) (fun K' hK' => ?_)) | (refine Wk.rsDone ?_) | (refine hK' _ _ ?_ ?_ <;> clear hK' K') | (refine hK' _ _ ?_; clear hK' K') | (refine hK' _ ?_; clear hK' K') | (refine hKT _ ?_; clear hKT hKF KT KF) | (refine hKF _ ?_; clear hKT hKF KT KF) | (refine Wk.cond ?_; intro KT KF hKT hKF) | (refine Wk.ret ?_) | (refine Wk.draw ?_ ?_ ?_; rotate_left 2; (intro K' hK')) | (refine Wk.step rfl ?_) | (refine Wk.done ?_) | (refine Fin.plain trivial ?_) | ((with_reducible refine top_goal ?_); kernel_rfl) | ((with_reducible refine takes_goal ?_); kernel_rfl) | ((with_reducible refine drop_goal ?_); kernel_rfl) | ((with_reducible refine held_goal ?_); (repeat refine And.intro rfl ?_); exact trivial) | ((with_reducible refine allB_goal ?_); kernel_rfl) | ((with_reducible refine mine_goal ?_); exact mine_of rfl) | ((with_reducible refine withV_goal ?_); refine withV_mk rfl ?_) | ((with_reducible refine hsel_goal ?_); (first | (exact hsel.nil) | (refine hsel.take (HB.like.refl _) (.inr fun _ h => h) ?_) | (refine hsel.take (like_cts ?_) (.inl rfl) ?_) | (refine hsel.skip (spare_own rfl rfl) ?_) | (refine hsel.skip spare_ro ?_))) | (refine And.intro ?_ ?_) | (intro hq; (try simp only [BF.H, Cel.eta, Rul.eta, Grd.eta, if_true, if_false, Int.toNat_natCast, Nat.add_zero] at hq); (try simp only [hv] at hq); (try (exfalso; first | omega | (simp [BF.b] at hq; done))))))
      all_goals (try simp only [Cel.eta, Rul.eta, Grd.eta, if_true, if_false, Int.toNat_natCast, Int.toNat_zero, Nat.add_zero, Nat.zero_add])
      all_goals (first | (with_reducible rfl) | (with_reducible exact trivial) | (with_reducible exact splitN_zero) | ((with_reducible refine fsub_goal ?_); exact trivial) | (with_reducible assumption) | ((with_reducible refine ble_goal ?_); rfl) | ((with_reducible refine ble2_goal ?_); (first | rfl | kernel_rfl)) | ((with_reducible refine beq_goal ?_); rfl) | omega | skip)
      all_goals (first | assumption | (with_reducible rfl) | omega | (simp only [Cts.len, List.length_nil]; done) | (simp only [Cts.len, List.length_nil, Int.toNat_natCast, Nat.add_zero, Nat.zero_add]; omega) | exact isSome_of (by assumption) | (simp only [Cts.len, Int.toNat_natCast, Nat.add_zero, Nat.zero_add] at *; first | assumption | omega) | exact int_eq (by omega) | exact cst_eq (by omega) | exact lit_eq (by omega) | exact posx (by omega) | exact opt_getD (posx (by omega)) _ | exact qosx (by omega) | exact opt_getD (qosx (by omega)) _ | rfl | (simp only [hE, hV]; rfl) | (simp only [hE, hV]; done) | (simp only [hE, hV, Mix.eta]; rfl))
    · exact hK.elim
def G44 : List (Nat × Ctr) := (13, c_phase_Kind) :: G43
theorem okG44 : GsOk Try.prog G44 := GsOk.cons k_phase_Kind okG43
end Go.Proofs.Ytghflfilemhaoaa
