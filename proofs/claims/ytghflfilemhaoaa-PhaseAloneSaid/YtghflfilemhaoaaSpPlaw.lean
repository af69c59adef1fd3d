/- Laws of mixes that step: what is kept, each phase alone. -/
import Derived.Test.YtghflfilemhaoaaSpSwap
import Derived.Test.YtghflfilemhaoaaSpDeed
set_option linter.unusedSimpArgs false
set_option linter.unusedVariables false
set_option linter.unusedSectionVars false
namespace Go.Sy
theorem mix_err {x : Mix} (h : x.ok = true) : x.err = 0 := by simp [Mix.err, h]
theorem mkept_law (x : Mix) (l m : List Rul) (t : Int) : mrunE x l m t 1 ≠ 0 ∨ (mrunE x l m t 1 = 0 ∧ x.ok = true ∧ (mrunG x l m t 1).ok = true ∧ x.err = 0 ∧ (mrunG x l m t 1).err = 0 ∧ massL (mrunG x l m t 1).a = massL x.a ∧ massL (mrunG x l m t 1).b = massL x.b ∧
    eastL (mrunG x l m t 1).a + eastL (mrunG x l m t 1).b = eastL x.a + eastL x.b ∧ northL (mrunG x l m t 1).a + northL (mrunG x l m t 1).b = northL x.a + northL x.b ∧
    mrunE (mrunG x l m t 1) l m t 1 = 0 ∧ mundoG (mrunG x l m t 1) l m t 1 = x ∧ (mundoG x l m t 1).ok = true ∧ mrunE (mundoG x l m t 1) l m t 1 = 0 ∧ mrunG (mundoG x l m t 1) l m t 1 = x) := by
  by_cases h : mrunE x l m t 1 = 0
  · obtain ⟨h1, h2, h3, h4⟩ := mrunE_zero h
    have hs := mrun_sums h1 (fun k => (rho_ok h2 h4.1.1 k).1) (fun k => (rho_ok h3 h4.1.1 k).1) (1 : Int).toNat
    have e := mrunG_eq h
    have hu := mrun_undone h
    have hr := mstep_redone h
    refine .inr ⟨h, h1, mrunG_ok h, mix_err h1, mix_err (mrunG_ok h), ?_, ?_, ?_, ?_, hu.1, hu.2, mundoG_ok h, hr.1, hr.2⟩
    · rw [e]; exact hs.1
    · rw [e]; exact hs.2.1
    · rw [e]; exact hs.2.2.1
    · rw [e]; exact hs.2.2.2
  · exact .inl h
/-! ### Each phase alone -/
theorem after_stay (d : Cel) : d.after ⟨0, 0⟩ = d := by rw [Cel.eq_iff]; simp [Cel.after, Cel.placed, Rul.turn]
theorem dx_stay (k : Int) (h01 : k = 0 ∨ k = 1) (p : Prr) : ddx k ⟨0, 0⟩ p = p := by
  obtain ⟨a, b⟩ := p
  unfold ddx xchA xchB
  rw [after_stay]
  rcases h01 with rfl | rfl <;> simp [backA, backB, meetC]
theorem fw_stay (r : Rul) (p : Prr) : mfw r ⟨0, 0⟩ p = dd0 r p := by unfold mfw; rw [dx_stay 0 (.inl rfl), dx_stay 1 (.inr rfl)]
def Cel.zz : Cel := ⟨0, 0, 0, 0⟩
theorem after_zz {r : Rul} (hr : r.ok = true) : Cel.zz.after r = Cel.zz := by
  have ht := Cel.turn_range (c := Cel.zz) (by decide) hr
  have h0 : Cel.zz.h = 0 := rfl
  have v0 : Cel.zz.v = 0 := rfl
  rw [h0, v0] at ht
  have e : r.turn 0 (0 + 0) = 0 := by omega
  unfold Cel.after
  rw [h0, v0, e]; rfl
theorem dx_alone {s : Rul} (hs : s.ok = true) {k : Int} (h01 : k = 0 ∨ k = 1) {a : Cel} (ha : a.ok = true) : ddx k s ⟨a, Cel.zz⟩ = ⟨a, Cel.zz⟩ := by
  have hf := Cel.ok_iff.1 ha
  have hm := meet_ok (k := k) (a := a) (b := Cel.zz) ha (by decide) (by rw [show a.add Cel.zz = a by rw [Cel.eq_iff]; simp [Cel.add, Cel.zz]]; exact ha)
  have ht := Cel.turn_range hm hs
  have h0 : (meetC a Cel.zz k).h = 0 := by rcases h01 with rfl | rfl <;> (simp [meetC, Cel.h, Cel.zz]; omega)
  have v0 : (meetC a Cel.zz k).v = 0 := by rcases h01 with rfl | rfl <;> (simp [meetC, Cel.v, Cel.zz]; omega)
  rw [h0, v0] at ht
  have e : (meetC a Cel.zz k).after s = meetC a Cel.zz k := by
    have e1 : s.turn 0 (0 + 0) = 0 := by omega
    unfold Cel.after
    rw [h0, v0, e1]
    rw [Cel.eq_iff]
    simp [Cel.placed, h0, v0]
  unfold ddx xchA xchB
  rw [e]
  rcases h01 with rfl | rfl <;> simp [backA, backB, meetC, Cel.zz]
theorem fw_alone {r s : Rul} (hr : r.ok = true) (hs : s.ok = true) {a : Cel} (ha : a.ok = true) : mfw r s ⟨a, Cel.zz⟩ = ⟨a.after r, Cel.zz⟩ := by
  unfold mfw
  have e : dd0 r ⟨a, Cel.zz⟩ = ⟨a.after r, Cel.zz⟩ := by unfold dd0; simp only [after_zz hr]
  rw [e, dx_alone hs (.inl rfl) (Cel.after_ok ha hr), dx_alone hs (.inr rfl) (Cel.after_ok ha hr)]
theorem aft_tab' (r : Rul) (A : List Cel) : aft r A = tab A.length fun j => (A.getD j default).after r := by
  conv => lhs; rw [← tab_self A]
  unfold aft tab; rw [List.map_map]; rfl
theorem zA_fst {f : Prr → Prr} {r : Rul} {A B : List Cel} (h : ∀ j, j < A.length → (f ⟨A.getD j default, B.getD j default⟩).a = (A.getD j default).after r) : zA f A B = aft r A := by
  rw [aft_tab']
  exact tab_congr fun j hj => h j hj
def zzL (n : Nat) : List Cel := List.replicate n ⟨0, 0, 0, 0⟩
theorem zzL_at (n j : Nat) : (zzL n).getD j default = Cel.zz := by
  unfold zzL
  rw [List.getD_eq_getElem?_getD, List.getElem?_replicate]
  split <;> rfl
theorem flow_zz (w h p : Int) (n : Nat) : flow w h p (zzL n) = zzL n := by
  unfold flow
  have hl : (zzL n).length = n := by simp [zzL]
  rw [hl]
  have : (fun j => (⟨((zzL n).getD (shp w h (-p) 0 j) default).e, ((zzL n).getD (shp w h 0 (-p) j) default).n, ((zzL n).getD (shp w h p 0 j) default).w, ((zzL n).getD (shp w h 0 p j) default).s⟩ : Cel)) = fun _ => ⟨0, 0, 0, 0⟩ := by
    funext j; simp only [zzL_at]; rfl
  rw [this]
  unfold tab zzL; rw [List.map_const', List.length_range]
theorem zB_zz {f : Prr → Prr} {A : List Cel} (h : ∀ j, j < A.length → (f ⟨A.getD j default, Cel.zz⟩).b = Cel.zz) : zB f A (zzL A.length) = zzL A.length := by
  unfold zB
  have : tab A.length (fun j => (f ⟨A.getD j default, (zzL A.length).getD j default⟩).b) = tab A.length fun _ => ⟨0, 0, 0, 0⟩ := tab_congr fun j hj => by rw [zzL_at]; exact h j hj
  rw [this]
  unfold tab zzL; rw [List.map_const', List.length_range]
theorem massL_zz (n : Nat) : massL (zzL n) = 0 := by
  unfold zzL
  induction n with
  | zero => rfl
  | succ n ih => rw [List.replicate_succ, massL, ih]; rfl
def nilG (g : Grd) : Grd := ⟨g.w, g.h, zzL (g.w * g.h).toNat⟩
theorem nilG_ok {g : Grd} (h : g.ok = true) : (nilG g).ok = true ∧ (nilG g).cs = zzL g.cs.length := by
  have hb := gok_bds h
  have e : (g.w * g.h).toNat = g.cs.length := by omega
  refine ⟨gok_mk (by omega) (by show ((zzL _).length : Int) = _; rw [zzL, List.length_replicate]; omega) (fun c hc => ?_) (by rw [show (zzL (g.w * g.h).toNat) = zzL (g.w * g.h).toNat from rfl, massL_zz]; omega), by show zzL _ = _; rw [e]⟩
  have := (List.mem_replicate.1 hc).2
  subst this; decide
theorem alone_stay {x : Mix} {l : List Rul} (hx : x.ok = true) (h : mrunE x l [⟨0, 0⟩] 5 1 = 0) : mrunG x l [⟨0, 0⟩] 5 1 = ⟨x.w, x.h, (runG ⟨x.w, x.h, x.a⟩ l 5 1).cs, (runG ⟨x.w, x.h, x.b⟩ l 5 1).cs⟩ ∧ runE ⟨x.w, x.h, x.a⟩ l 5 1 = 0 ∧ runE ⟨x.w, x.h, x.b⟩ l 5 1 = 0 := by
  obtain ⟨h1, h2, h3, h4⟩ := mrunE_zero h
  obtain ⟨ga, gb, _⟩ := mix_iff.1 (show (⟨x.w, x.h, x.a, x.b⟩ : Mix).ok = true from h1)
  have ea : runE ⟨x.w, x.h, x.a⟩ l 5 1 = 0 := runE_mk ga h2 h4
  have eb : runE ⟨x.w, x.h, x.b⟩ l 5 1 = 0 := runE_mk gb h2 h4
  refine ⟨?_, ea, eb⟩
  rw [mrunG_eq h, runG_eq ea, runG_eq eb]
  have e1 : (1 : Int).toNat = 0 + 1 := rfl
  have er : rho [(⟨0, 0⟩ : Rul)] 5 0 = ⟨0, 0⟩ := rho_one ..
  simp only [e1, mrun, runC, er]
  have hl := mix_len (show (⟨x.w, x.h, x.a, x.b⟩ : Mix).ok = true from h1)
  have z1 : zA (mfw (rho l 5 0) ⟨0, 0⟩) x.a x.b = aft (rho l 5 0) x.a := zA_fst fun j hj => by rw [fw_stay]; rfl
  have z2 : zB (mfw (rho l 5 0) ⟨0, 0⟩) x.a x.b = aft (rho l 5 0) x.b := by
    have := (zA_swap (f := mfw (rho l 5 0) ⟨0, 0⟩) (fun p => by rw [fw_stay, fw_stay]; rfl) hl).1
    rw [← this]
    exact zA_fst fun j hj => by rw [fw_stay]; rfl
  rw [z1, z2]
theorem alone_none {x : Mix} {l m : List Rul} (hx : x.ok = true) (h : mrunE ⟨x.w, x.h, x.a, zzL x.a.length⟩ l m 5 1 = 0) : mrunG ⟨x.w, x.h, x.a, zzL x.a.length⟩ l m 5 1 = ⟨x.w, x.h, (runG ⟨x.w, x.h, x.a⟩ l 5 1).cs, zzL x.a.length⟩ ∧ runE ⟨x.w, x.h, x.a⟩ l 5 1 = 0 := by
  obtain ⟨h1, h2, h3, h4⟩ := mrunE_zero h
  obtain ⟨ga, _, _⟩ := mix_iff.1 (show (⟨x.w, x.h, x.a, x.b⟩ : Mix).ok = true from hx)
  have ea : runE ⟨x.w, x.h, x.a⟩ l 5 1 = 0 := runE_mk ga h2 h4
  refine ⟨?_, ea⟩
  rw [mrunG_eq h, runG_eq ea]
  have e1 : (1 : Int).toNat = 0 + 1 := rfl
  simp only [e1, mrun, runC]
  have r1 := (rho_ok h2 h4.1.1 0).1
  have r2 := (rho_ok h3 h4.1.1 0).1
  have hj := fun j (hj : j < x.a.length) => fw_alone r1 r2 (okL_at (gok_okL ga) hj)
  have z1 : zA (mfw (rho l 5 0) (rho m 5 0)) x.a (zzL x.a.length) = aft (rho l 5 0) x.a := zA_fst fun j h9 => by rw [zzL_at, hj j h9]
  have z2 : zB (mfw (rho l 5 0) (rho m 5 0)) x.a (zzL x.a.length) = zzL x.a.length := zB_zz fun j h9 => by rw [hj j h9]
  rw [z1, z2, flow_zz]
/-! ### Mixes that are the same -/
def sameMx (a b : Mix) : Bool := a.ok && (b.ok && decide (a = b))
theorem smx_1 {a b : Mix} (h : a.ok = false) : sameMx a b = false := by simp [sameMx, h]
theorem smx_2 {a b : Mix} (h : b.ok = false) : sameMx a b = false := by simp [sameMx, h]
theorem smx_w {a b : Mix} (h : a.w ≠ b.w) : sameMx a b = false := by
  have : ¬ a = b := fun e => h (by rw [e])
  simp [sameMx, this]
theorem smx_h {a b : Mix} (h : a.h ≠ b.h) : sameMx a b = false := by
  have : ¬ a = b := fun e => h (by rw [e])
  simp [sameMx, this]
theorem smx_a {a b : Mix} (h : decide (a.a = b.a) = false) : sameMx a b = false := by
  have : ¬ a = b := fun e => of_decide_eq_false h (by rw [e])
  simp [sameMx, this]
theorem smx_t {a b : Mix} (ha : a.ok = true) (hb : b.ok = true) (hw : a.w = b.w) (hh : a.h = b.h) (h : decide (a.a = b.a) = true) : decide (a.b = b.b) = sameMx a b := by
  have h9 := of_decide_eq_true h; clear h
  obtain ⟨w, hh', aa, bb⟩ := a
  obtain ⟨w', hh'', aa', bb'⟩ := b
  simp only at hw hh h9
  subst hw; subst hh; subst h9
  unfold sameMx
  rw [ha, hb, Bool.true_and, Bool.true_and, Bool.eq_iff_iff, decide_eq_true_eq, decide_eq_true_eq]
  simp
theorem smx_self {a : Mix} (h : a.ok = true) : sameMx a a = true := by simp [sameMx, h]
/-- The ways of a mix of which each phase is looked at alone. -/
structure AloneOk (x : Mix) (l m : List Rul) : Prop where
  e1 : x.err = 0
  ga : (⟨x.w, x.h, x.a⟩ : Grd).ok = true
  gb : (⟨x.w, x.h, x.b⟩ : Grd).ok = true
  sd : 1 ≤ x.w ∧ x.w ≤ 64 ∧ 1 ≤ x.h ∧ x.h ≤ 64 ∧ x.w * x.h ≤ 1024 ∧ (x.w * x.h).toNat = x.a.length ∧ 1 ≤ x.a.length ∧ x.a.length ≤ 1024 ∧ x.b.length = x.a.length
  pa : pA x = ⟨x.w, x.h, x.a⟩
  pb : pB x = ⟨x.w, x.h, x.b⟩
  oe : ofE ⟨x.w, x.h, x.a⟩ ⟨x.w, x.h, zzL x.a.length⟩ = 0
  om : ofM ⟨x.w, x.h, x.a⟩ ⟨x.w, x.h, zzL x.a.length⟩ = ⟨x.w, x.h, x.a, zzL x.a.length⟩
theorem alone_mk {x : Mix} (l m : List Rul) (hx : x.ok = true) : AloneOk x l m ∧ (⟨x.w, x.h, x.a, zzL x.a.length⟩ : Mix).ok = true := by
  obtain ⟨ga, gb, hm⟩ := mix_iff.1 (show (⟨x.w, x.h, x.a, x.b⟩ : Mix).ok = true from hx)
  have hb := gok_bds ga
  have hl := mix_len (show (⟨x.w, x.h, x.a, x.b⟩ : Mix).ok = true from hx)
  simp only at hb
  have nz := nilG_ok ga
  have en : nilG ⟨x.w, x.h, x.a⟩ = ⟨x.w, x.h, zzL x.a.length⟩ := by
    show (⟨x.w, x.h, (nilG ⟨x.w, x.h, x.a⟩).cs⟩ : Grd) = _
    rw [nz.2]
  rw [en] at nz
  have mz : (⟨x.w, x.h, x.a, zzL x.a.length⟩ : Mix).ok = true := mix_iff.2 ⟨ga, nz.1, by rw [massL_zz]; omega⟩
  have oe : ofE ⟨x.w, x.h, x.a⟩ ⟨x.w, x.h, zzL x.a.length⟩ = 0 := by
    unfold ofE
    rw [ga, nz.1, Bool.and_true, if_pos rfl, if_pos ⟨rfl, rfl⟩, if_pos (by rw [massL_zz]; simp only; omega)]
  exact ⟨⟨mix_err hx, ga, gb, by omega, if_pos hx, if_pos hx, oe, if_pos oe⟩, mz⟩
theorem alone_ways (x : Mix) (l m : List Rul) : (x.ok = false ∧ x.err = 1) ∨
    (x.ok = true ∧ AloneOk x l m ∧ runE ⟨x.w, x.h, x.a⟩ l 5 1 = 1 ∧ runE ⟨x.w, x.h, x.b⟩ l 5 1 = 1 ∧ mrunE x l [⟨0, 0⟩] 5 1 = 1 ∧ mrunE ⟨x.w, x.h, x.a, zzL x.a.length⟩ l m 5 1 = 1) ∨
    (∃ ca cb : List Cel, x.ok = true ∧ AloneOk x l m ∧ runE ⟨x.w, x.h, x.a⟩ l 5 1 = 0 ∧ runE ⟨x.w, x.h, x.b⟩ l 5 1 = 0 ∧ mrunE x l [⟨0, 0⟩] 5 1 = 0 ∧ mrunE ⟨x.w, x.h, x.a, zzL x.a.length⟩ l m 5 1 = 1 ∧ (pA ⟨x.w, x.h, ca, cb⟩ = ⟨x.w, x.h, ca⟩ ∧ pB ⟨x.w, x.h, ca, cb⟩ = ⟨x.w, x.h, cb⟩ ∧ (⟨x.w, x.h, ca, cb⟩ : Mix).err = 0) ∧ mrunG x l [⟨0, 0⟩] 5 1 = ⟨x.w, x.h, ca, cb⟩ ∧
      runG ⟨x.w, x.h, x.a⟩ l 5 1 = ⟨x.w, x.h, ca⟩ ∧ runG ⟨x.w, x.h, x.b⟩ l 5 1 = ⟨x.w, x.h, cb⟩) ∨
    (∃ ca cb : List Cel, x.ok = true ∧ AloneOk x l m ∧ runE ⟨x.w, x.h, x.a⟩ l 5 1 = 0 ∧ runE ⟨x.w, x.h, x.b⟩ l 5 1 = 0 ∧ mrunE x l [⟨0, 0⟩] 5 1 = 0 ∧ mrunE ⟨x.w, x.h, x.a, zzL x.a.length⟩ l m 5 1 = 0 ∧ (pA ⟨x.w, x.h, ca, cb⟩ = ⟨x.w, x.h, ca⟩ ∧ pB ⟨x.w, x.h, ca, cb⟩ = ⟨x.w, x.h, cb⟩ ∧ (⟨x.w, x.h, ca, cb⟩ : Mix).err = 0) ∧ mrunG x l [⟨0, 0⟩] 5 1 = ⟨x.w, x.h, ca, cb⟩ ∧
      runG ⟨x.w, x.h, x.a⟩ l 5 1 = ⟨x.w, x.h, ca⟩ ∧ runG ⟨x.w, x.h, x.b⟩ l 5 1 = ⟨x.w, x.h, cb⟩ ∧ (pA ⟨x.w, x.h, ca, zzL x.a.length⟩ = ⟨x.w, x.h, ca⟩ ∧ pB ⟨x.w, x.h, ca, zzL x.a.length⟩ = ⟨x.w, x.h, zzL x.a.length⟩ ∧ (⟨x.w, x.h, ca, zzL x.a.length⟩ : Mix).err = 0) ∧ mrunG ⟨x.w, x.h, x.a, zzL x.a.length⟩ l m 5 1 = ⟨x.w, x.h, ca, zzL x.a.length⟩) := by
  cases hx : x.ok
  · exact .inl ⟨rfl, by simp [Mix.err, hx]⟩
  · obtain ⟨A, mz⟩ := alone_mk l m hx
    have ht : timesP 5 1 := by unfold timesP; omega
    have rs : rulesB [(⟨0, 0⟩ : Rul)] = true := by decide
    cases hl : rulesB l
    · refine .inr (.inl ⟨rfl, A, ?_, ?_, ?_, ?_⟩)
      · simp [runE, hl]
      · simp [runE, hl]
      · simp [mrunE, hl]
      · simp [mrunE, hl]
    · have ea := runE_mk A.ga hl ht
      have eb := runE_mk A.gb hl ht
      have hm0 := mrunE_mk hx hl rs ht
      have q := alone_stay hx hm0
      have g1 := mrunG_ok hm0
      rw [q.1] at g1
      have ra : runG ⟨x.w, x.h, x.a⟩ l 5 1 = ⟨x.w, x.h, (runG ⟨x.w, x.h, x.a⟩ l 5 1).cs⟩ := by rw [runG_eq ea]
      have rb : runG ⟨x.w, x.h, x.b⟩ l 5 1 = ⟨x.w, x.h, (runG ⟨x.w, x.h, x.b⟩ l 5 1).cs⟩ := by rw [runG_eq eb]
      cases hm : rulesB m
      · exact .inr (.inr (.inl ⟨_, _, rfl, A, ea, eb, hm0, by simp [mrunE, hm], ⟨if_pos g1, if_pos g1, mix_err g1⟩, q.1, ra, rb⟩))
      · have hz := mrunE_mk mz hl hm ht
        exact .inr (.inr (.inr ⟨_, _, rfl, A, ea, eb, hm0, hz, ⟨if_pos g1, if_pos g1, mix_err g1⟩, q.1, ra, rb, (by have g2 := mrunG_ok hz; rw [(alone_none hx hz).1] at g2; exact ⟨if_pos g2, if_pos g2, mix_err g2⟩), (alone_none hx hz).1⟩))
end Go.Sy
