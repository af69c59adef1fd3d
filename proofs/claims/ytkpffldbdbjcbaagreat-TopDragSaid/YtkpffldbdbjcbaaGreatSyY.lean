/- Loops over functions: rounds, yield, regions that end with a call of yield. -/
import Derived.Test.YtkpffldbdbjcbaaGreatSyK
import Derived.OrdersIn
import Derived.RangeFuncNested
set_option linter.unusedSimpArgs false
set_option linter.unusedVariables false
namespace Go.Sy
open Go.RowKit

/-! ### A region whose last operation is set aside -/
def dumb (o : Oper) : Oper := { o with dst := none, op := .move (.const (.bool true)), guard := none }
def edgB : Nat → List Oper → Bool
  | _, [] => true
  | i, o :: os => (o.after.toList.all fun e => Nat.blt e.on i) && edgB (i + 1) os
theorem edgB_sound {os : List Oper} : ∀ {i : Nat}, edgB i os = true → ∀ (k : Nat) (o : Oper), os[k]? = some o → ∀ e ∈ o.after, e.on < i + k := by
  induction os with
  | nil => intro i _ k o hk; simp at hk
  | cons o' os ih =>
    intro i h k o hk e he
    rw [edgB, Bool.and_eq_true] at h
    cases k with
    | zero =>
      have hk : o' = o := by simpa using hk
      subst hk
      have h1 := List.all_eq_true.1 h.1 e (by simpa using he)
      have := Nat.le_of_ble_eq_true h1
      omega
    | succ k =>
      have := ih h.2 k o (by simpa using hk) e he
      omega
def noGuard (L : Nat) (o : Oper) : Bool :=
  match o.guard with
  | some (j, _) => !Nat.beq j L
  | none => true
def yB (full : List Oper) (L : Nat) : Bool :=
  let m := (msks full []).getD L 0
  (List.range full.length).all (fun k => Nat.beq k L || m.testBit k) && (edgB 0 full && full.all (noGuard L))

section
variable {P : Program} {full : List Oper} {L : Nat} {o : Oper}
theorem set_get (hL : full[L]? = some o) (o' : Oper) (i : Nat) : (full.set L o')[i]? = if i = L then some o' else full[i]? := by
  rw [List.getElem?_set]
  split
  · rename_i h; subst h; rw [if_pos rfl, if_pos (List.getElem?_eq_some_iff.1 hL).1]
  · rename_i h; rw [if_neg (fun e => h e.symm)]
theorem ready_dumb (hL : full[L]? = some o) (md : Region.Mode) (listed : Array Bool) : Region.ready md (full.set L (dumb o)).toArray listed = Region.ready md full.toArray listed := by
  unfold Region.ready
  simp only [List.size_toArray, List.length_set]
  refine List.filter_congr fun i _ => ?_
  simp only [List.getElem?_toArray, set_get hL]
  split
  · rename_i h; subst h; rw [hL]; rfl
  · rfl
theorem all_listed {listed : Array Bool} (hd : Down full.toArray listed) (hb : edgB 0 full = true) (hr : Region.ready .any full.toArray listed = []) : ∀ j, j < full.length → listed.getD j false = true := by
  intro j
  induction j using Nat.strongRecOn with
  | _ j ih =>
    intro hj
    rcases hl : listed.getD j false with _ | _
    · exfalso
      have hjr : j ∈ Region.ready .any full.toArray listed := by
        rw [mem_ready]
        have hsz : j < listed.size := by rw [hd.1]; simpa using hj
        refine ⟨by simpa [Array.getD, hsz] using hl, full[j], by simp [hj], fun e he _ => ?_⟩
        have := edgB_sound hb j full[j] (by simp [hj]) e he
        exact ih e.on (by omega) (by omega)
      rw [hr] at hjr; cases hjr
    · rfl
theorem wanted_dumb (hL : full[L]? = some o) {o' : Oper} (hg : noGuard L o' = true) (tmps : Array Value) : Region.wanted o' (yielded (full.set L (dumb o)).toArray tmps) = Region.wanted o' (yielded full.toArray tmps) := by
  unfold Region.wanted
  unfold noGuard at hg
  split at hg
  · rename_i j b hgj
    have hne : j ≠ L := fun e => by subst e; simp at hg
    simp only [hgj]
    congr 1
    unfold yielded
    simp only [List.getElem?_toArray, set_get hL, if_neg hne]
  · rename_i hgj; simp only [hgj]

theorem upon_Q {o : Oper} {a : Act} {next : Act → World → Prop} {Q Q' : Exit → Act → World → Prop} (hp : ∀ c a w, ¬ Q' (.panic c) a w) (ho : ¬ LetsOut Q') : ∀ {res : Result Next}, o.upon P a next Q' res → o.upon P a next Q res
  | .ok (.value v) w', h => h
  | .ok .skip w', h => h
  | .ok (.defer d) w', h => h
  | .ok (.enter f args) w', h => h.mono fun e w'' he => by
      cases e with
      | returned v => exact he
      | panicked c => exact absurd he (hp _ _ _)
      | outgrown => exact absurd he ho
  | .ok (.row row args) w', h => h
  | .halt (.panic v) w', h => absurd h (hp _ _ _)
  | .ok (.round ..) _, h => h.elim
  | .ok (.spawn ..) _, h => h.elim
  | .halt .goexit _, h | .halt .blocked _, h | .halt .waiting _, h | .halt (.exit _) _, h | .halt (.fatal _) _, h | .halt (.throw _) _, h | .halt (.unsupported _) _, h | .halt (.stuck _) _, h => h.elim

theorem any_y (r : Option Nat) (hL : full[L]? = some o) (hc : yB full L = true) (hnd : ∀ (i : Nat) (o' : Oper), full[i]? = some o' → i ≠ L → noDef o' = true) {Q Q' : Exit → Act → World → Prop} (hp : ∀ c a w, ¬ Q' (.panic c) a w) (ho : ¬ LetsOut Q')
    (hend : ∀ a w, Q' .normal a w → wpOpIn (fw r) 0 P full.toArray Q L (Q .normal) a w) :
    ∀ (fuel : Nat) (listed : Array Bool) (a : Act) (w : World), Down full.toArray listed → listed.getD L true = false → wpAny P .any (full.set L (dumb o)).toArray Q' fuel listed a w → wpAnyIn (fw r) 0 P .any full.toArray Q fuel listed a w := by
  simp only [yB, Bool.and_eq_true, List.all_eq_true, List.mem_range, Bool.or_eq_true] at hc
  obtain ⟨hmask, hback, hng⟩ := hc
  have hLlt : L < full.length := (List.getElem?_eq_some_iff.1 hL).1
  have notready : ∀ {listed : Array Bool}, Down full.toArray listed → listed.getD L true = false → Region.ready .any full.toArray listed ≠ [] := fun {listed} hd hl hr => by
    have := all_listed hd hback hr L hLlt
    rw [getD_both hl] at this; cases this
  intro fuel
  induction fuel with
  | zero => intro listed a w hd hl h; exact absurd (ready_dumb hL .any listed ▸ h.1) (notready hd hl)
  | succ fuel ih =>
    intro listed a w hd hl h
    refine ⟨fun hr => absurd hr (notready hd hl), fun i hi => ?_⟩
    have h2 := h.2 i (by rw [ready_dumb hL]; exact hi)
    by_cases hiL : i = L
    · subst hiL
      have hfull : Region.ready .any full.toArray (listed.setIfInBounds i true) = [] := by
        obtain ⟨_, oi, hoi, hdeps⟩ := mem_ready.1 hi
        apply List.eq_nil_iff_forall_not_mem.2
        intro k hk
        obtain ⟨hkun, ok, hok, _⟩ := mem_ready.1 hk
        have hkl : k < full.length := by simpa using (Array.getElem?_eq_some_iff.1 hok).1
        rcases hmask k hkl with h3 | h3
        · have : k = i := Nat.eq_of_beq_eq_true h3
          subst this
          have h4 := getD_both hkun
          have hs : (listed.setIfInBounds k true).getD k false = true := by
            have hsz : k < listed.size := by rw [hd.1]; simpa using hkl
            simp [Array.getD, hsz]
          rw [hs] at h4; cases h4
        · have := msks_sound hd full [] (by simp) (fun j _ => by simp) (fun k o hk => absurd hk (by simp)) i oi hoi hdeps k h3
          have hs := getD_set_true (i := i) this
          rw [getD_both hkun] at hs; cases hs
      have hq : Q' .normal a w := by
        unfold wpOp at h2
        simp only [List.getElem?_toArray, set_get hL, if_true] at h2
        have hw : Region.wanted (dumb o) (yielded (full.set i (dumb o)).toArray a.tmps) = true := rfl
        simp only [hw, if_true] at h2
        have h3 : wpAny P .any (full.set i (dumb o)).toArray Q' fuel (listed.setIfInBounds i true) a w := by
          rcases h2 with h2 | h2
          · have e : (execOp a.eval (dumb o)).run P w = .ok (.value (.bool true)) w := by simp [execOp, dumb, Act.eval]
            unfold Oper.wp at h2
            rw [e] at h2
            exact h2
          · exact absurd h2.2 ho
        cases fuel with
        | zero => exact h3.2
        | succ fuel => exact h3.1 (by rw [ready_dumb hL]; exact hfull)
      refine wpOpIn_mono (fun a w hqn => ?_) (hend a w hq)
      cases fuel with
      | zero => exact ⟨hfull, hqn⟩
      | succ fuel => exact ⟨fun _ => hqn, fun k hk => by rw [hfull] at hk; cases hk⟩
    · have hil : (listed.setIfInBounds i true).getD L true = false := by
        rw [getD_set_ne true hiL]; exact hl
      have hK : ∀ a w, wpAny P .any (full.set L (dumb o)).toArray Q' fuel (listed.setIfInBounds i true) a w → wpAnyIn (fw r) 0 P .any full.toArray Q fuel (listed.setIfInBounds i true) a w := fun a w => ih _ a w (hd.set hi) hil
      unfold wpOp at h2
      unfold wpOpIn
      simp only [List.getElem?_toArray, set_get hL, if_neg hiL] at h2 ⊢
      obtain ⟨_, oi, hoi, _⟩ := mem_ready.1 hi
      have hoi : full[i]? = some oi := by simpa using hoi
      simp only [hoi] at h2 ⊢
      rw [wanted_dumb hL (hng oi (List.mem_of_getElem? hoi))] at h2
      by_cases hw : Region.wanted oi (yielded full.toArray a.tmps) = true
      · simp only [hw, if_true] at h2 ⊢
        rcases h2 with h2 | h2
        · refine wp_fw r (hnd i oi hoi hiL) (Oper.wp_mono hK ?_)
          exact upon_Q hp ho h2
        · exact absurd h2.2 ho
      · simp only [hw, if_false, Bool.false_eq_true] at h2 ⊢
        exact ⟨fun _ _ => trivial, hK _ _ h2⟩
end

section
variable {P : Program} {X : Env P} {r : Option Nat} {Q : Post} {t : List It} {ds : List Nat} {fr : List (Nat × SV)} {hp : List HB}
/-- A region whose order is open and whose last operation may be a call of yield. -/
theorem Wk.drawY {id : Nat} {ops : Array Oper} (L : Nat) (o : Oper) (hL : ops.toList[L]? = some o) (hc : yB ops.toList L = true)
    (hp' : (planOf X.pl X.E id (ops.toList.set L (dumb o))).top (ops.toList.set L (dumb o)).toArray = true) (hnd : allB noDef (ops.toList.set L (dumb o)) = true)
    (h : ∀ K : Plan → Prop, (∀ p, Wk X r Q (.rg (ops.toList.set L (dumb o)) [] p :: .ops ops.toList [o] :: t) ds fr hp → K p) → (planOf X.pl X.E id (ops.toList.set L (dumb o))).force K) : Wk X r Q (.c (.region id ops true) :: t) ds fr hp := by
  have h := h _ fun _ h => h
  rw [Plan.force_eq] at h
  refine ⟨fun w0 a w hf hw => ?_⟩
  obtain ⟨l, rfl⟩ : ∃ l : List Oper, ops = l.toArray := ⟨ops.toList, by simp⟩
  simp only at h hp' hnd hL hc
  simp only [Plan.top, Bool.and_eq_true] at hp'
  refine wpIn_region_any X.hm ?_
  have hd0 : Down l.toArray (Array.replicate l.toArray.size false) := Down.start
  have hd' : Down (l.set L (dumb o)).toArray (listedOf (l.set L (dumb o)).toArray.size []) := Down.start
  have h0 := h.out w0 a _ hf hw.drew hp'.1 hd' hp'.2
  unfold RG at h0
  simp only [List.length_nil, Nat.sub_zero] at h0
  have hLlt : L < l.length := (List.getElem?_eq_some_iff.1 hL).1
  refine any_y (Q' := contQ X r w0 (.ops l [o] :: t) (Q.q w0)) r hL hc (fun i o' ho' hi => ?_) (fun c a w => noPanic (Q := Q) w0 (.ops l [o] :: t) c a w) (noOut (Q := Q) w0 (.ops l [o] :: t)) (fun a w hq => ?_) _ _ _ _ hd0 (by simp [Array.getD, hLlt]) ?_
  · refine allB_mem hnd o' (List.mem_of_getElem? (i := i) ?_)
    rw [set_get hL, if_neg hi]; exact ho'
  · have hq : wpListIn (fw r) 0 P l.toArray (contQ X r w0 t (Q.q w0)) [o] a w := hq
    unfold wpOpIn
    simp only [List.getElem?_toArray, hL]
    exact hq
  · have e : (l.set L (dumb o)).toArray.size = l.toArray.size := by simp
    rw [e] at h0
    exact h0

/-! ### The record of a loop -/
/-- The temporaries that a loop's record bears. -/
structure RecOk (X : Env P) (fr : List (Nat × SV)) (T : Array Value) : Prop where
  size : T.size = X.N
  slot : ∀ t v, lookN fr t = some v → T[t]? = some (den v)
def zipP (N : Nat) : List Nat → List SV → List (Nat × SV) → (List (Nat × SV) → Prop) → Prop
  | [], [], fr, K => K fr
  | p :: ps, x :: xs, fr, K => putS N (some p) x fr fun fr => zipP N ps xs fr K
  | _, _, _, _ => False
theorem zipP_sound {N : Nat} {ds : List Nat} : ∀ {ps : List Nat} {xs : List SV} {fr : List (Nat × SV)} {K : List (Nat × SV) → Prop}, zipP N ps xs fr K →
    ps.length = xs.length ∧ ∃ fr', K fr' ∧ ∀ a, FrOk N ds fr a → FrOk N ds fr' { a with tmps := (ps.zip (denL xs)).foldl (fun tm (t, v) => tm.setIfInBounds t v) a.tmps }
  | [], [], fr, K, h => ⟨rfl, fr, h, fun a hf => hf⟩
  | p :: ps, x :: xs, fr, K, h => by
    obtain ⟨fr1, h, h1⟩ := putS_sound (ds := ds) h
    obtain ⟨hl, fr2, h, h2⟩ := zipP_sound (ds := ds) h
    exact ⟨by simp [hl], fr2, h, fun a hf => by simpa [denL, Act.put] using h2 _ (h1 a hf)⟩
  | [], _ :: _, _, _, h => h.elim
  | _ :: _, [], _, _, h => h.elim

/-- Nothing may be left at all. -/
def noP : Post := ⟨fun _ _ _ _ => False, fun _ _ _ _ h => h, fun _ _ _ h => h⟩
def recB (l : Nat) (rec : Loop) : HB := ⟨some ⟨l, 0⟩, true, .ob (.loop rec), .l []⟩
/-- The end of a round: the record is ready again, or done. -/
def roundP (i l : Nat) (rec : Loop) (K : Option Code → List HB → Prop) : Post where
  q w0 e a w := ∃ hp, Holds w0 w hp ∧ noGh hp = true ∧ hp[i]? = some (recB l { rec with state := .busy }) ∧
    match e with
    | .normal => K none (hp.set i (recB l { rec with state := .ready, pending := none }))
    | .ret => K (some .ret) (hp.set i (recB l { rec with state := .done, pending := some .ret }))
    | .exit id => K (some (.exit id)) (hp.set i (recB l { rec with state := .done, pending := some (.exit id) }))
    | _ => False
  np _ _ _ _ h := by obtain ⟨_, _, _, _, h⟩ := h; exact h
  no _ _ _ h := by obtain ⟨_, _, _, _, h⟩ := h; exact h

theorem Fin.roundN {i l : Nat} {rec : Loop} {K : Option Code → List HB → Prop} (hi : hp[i]? = some (recB l { rec with state := .busy })) (hg : noGh hp = true) (h : setHK hp i (recB l { rec with state := .ready, pending := none }) fun hp => K none hp) : Fin X (roundP i l rec K) .normal ds fr hp :=
  ⟨fun w0 a w hf hw => ⟨hp, hw, hg, hi, by rw [setHK_eq] at h; exact h⟩⟩
theorem Fin.roundR {i l : Nat} {rec : Loop} {K : Option Code → List HB → Prop} (hi : hp[i]? = some (recB l { rec with state := .busy })) (hg : noGh hp = true) (h : setHK hp i (recB l { rec with state := .done, pending := some .ret }) fun hp => K (some .ret) hp) : Fin X (roundP i l rec K) .ret ds fr hp :=
  ⟨fun w0 a w hf hw => ⟨hp, hw, hg, hi, by rw [setHK_eq] at h; exact h⟩⟩
theorem Fin.roundE {i l id : Nat} {rec : Loop} {K : Option Code → List HB → Prop} (hi : hp[i]? = some (recB l { rec with state := .busy })) (hg : noGh hp = true) (h : setHK hp i (recB l { rec with state := .done, pending := some (.exit id) }) fun hp => K (some (.exit id)) hp) : Fin X (roundP i l rec K) (.exit id) ds fr hp :=
  ⟨fun w0 a w hf hw => ⟨hp, hw, hg, hi, by rw [setHK_eq] at h; exact h⟩⟩

theorem Holds.putRec {w0 w : World} {hp : List HB} (h : Holds w0 w hp) {i l : Nat} {rec : Loop} (rec' : Loop) (hi : hp[i]? = some (recB l rec)) (hg : noGh hp = true) :
    w.heap[l]? = some (.loop rec) ∧ Holds w0 (w.putObj l (.loop rec')) (hp.set i (recB l rec')) := by
  have hok := h.blk _ (List.mem_of_getElem? hi)
  have h1 : w.heap[l]? = some (.loop rec) := hok.1
  refine ⟨h1, h.replace (row := some l) hi rfl (noGh_mem hg) (fun g hr => by cases hr; rfl) (grownBy_putObj' w l _) ⟨?_, rfl⟩ rfl (fun g ht => ?_)⟩
  · exact World.putObj_heap_same (Array.getElem?_eq_some_iff.1 h1).1
  · left
    rcases ht with ht | ht
    · have ht : l = g := ht
      rw [ht]
    · simp [HB.rd, recB] at ht

/-- The last record that is ready. -/
def findR : Nat → List HB → Option (Nat × Nat × Loop)
  | _, [] => none
  | i, b :: bs => match findR (i + 1) bs with
    | some x => some x
    | none => match b.kd with
      | .ob (.loop rec) => match b.nm, b.own, b.cts with
        | some ⟨l, 0⟩, true, .l [] => match rec.state with
          | .ready => some (i, l, rec)
          | _ => none
        | _, _, _ => none
      | _ => none

/-- The last record that is busy. -/
def findB : Nat → List HB → Option (Nat × Nat × Loop)
  | _, [] => none
  | i, b :: bs => match findB (i + 1) bs with
    | some x => some x
    | none => match b.kd with
      | .ob (.loop rec) => match b.nm, b.own, b.cts with
        | some ⟨l, 0⟩, true, .l [] => match rec.state with
          | .busy => some (i, l, rec)
          | _ => none
        | _, _, _ => none
      | _ => none
/-- The round begins. -/
theorem Wk.br {i l : Nat} {rec : Loop} (hy : findR 0 hp = some (i, l, rec)) (hi : hp[i]? = some (recB l rec)) (hs : rec.state = .ready) (hg : noGh hp = true)
    (h : setHK hp i (recB l { rec with state := .busy }) fun hp => Wk X r Q t ds fr hp) : Wk X r Q (.br l :: t) ds fr hp := by
  rw [setHK_eq] at h
  refine ⟨fun w0 a w hf hw => ?_⟩
  obtain ⟨h1, h2⟩ := hw.putRec { rec with state := .busy } hi hg
  exact ⟨_, run_beginRound h1 hs, h.out w0 a _ hf h2⟩

theorem round_of {X0 : Env P} {fr0 : List (Nat × SV)} {i l : Nat} {rec : Loop} {xs : List SV} {K : Option Code → List HB → Prop} (hi : hp[i]? = some (recB l rec)) (hs : rec.state = .ready) (hT : RecOk X0 fr0 rec.tmps) (hg : noGh hp = true)
    (h : zipP X0.N rec.params.toList xs fr0 fun fr0 => Wk X0 (some l) noP [.c rec.assign, .k [] (fun fr hp => Wk X0 (some l) (roundP i l rec K) [.br l, .c rec.body] [] fr hp)] [] fr0 hp) (r : Option Nat) {w0 w : World} (hw : Holds w0 w hp) :
    (Instr.yield l (denL xs).toArray).run P w = .ok (.round l rec.fn ((rec.params.zip (denL xs).toArray).foldl (fun tmps (t, a) => tmps.setIfInBounds t a) rec.tmps) rec.assign rec.body) w ∧
    RoundIn (fw r) 0 P l rec.fn ((rec.params.zip (denL xs).toArray).foldl (fun tmps (t, a) => tmps.setIfInBounds t a) rec.tmps) rec.assign rec.body w fun e w' => ∃ j hp', K j hp' ∧ e = .returned (.bool j.isNone) ∧ Holds w0 w' hp' := by
  have hrec : w.heap[l]? = some (.loop rec) := (hw.blk _ (List.mem_of_getElem? hi)).1
  obtain ⟨hl, fr1, h, hz⟩ := zipP_sound (ds := []) h
  have hsz : (denL xs).toArray.size = rec.params.size := by simp [denL_len, ← hl]
  refine ⟨run_yield hrec hsz, roundIn_of_wpIn trivial ?_⟩
  have hfr : FrOk X0.N [] fr1 { tmps := (rec.params.zip (denL xs).toArray).foldl (fun tmps (t, a) => tmps.setIfInBounds t a) rec.tmps, defers := [] } := by
    have := hz { tmps := rec.tmps, defers := [] } ⟨hT.size, rfl, hT.slot⟩
    have e : (rec.params.zip (denL xs).toArray).foldl (fun tmps (t, a) => tmps.setIfInBounds t a) rec.tmps = (rec.params.toList.zip (denL xs)).foldl (fun tm (t, v) => tm.setIfInBounds t v) rec.tmps := by
      rw [← Array.foldl_toList, Array.toList_zip]
    rw [e]; exact this
  have h1 := h.out w0 _ w hfr hw
  refine wpIn_mono h1 (fun e a1 w1 hq => ?_)
  cases e with
  | normal =>
    obtain ⟨fr2, hp2, hk, hf2, hw2⟩ := hq
    obtain ⟨w2, hbr, hbody⟩ := hk.out w0 a1 w1 hf2 hw2
    refine ⟨w2, hbr, wpIn_mono hbody (fun e a3 w3 hq => ?_)⟩
    have fin : ∀ (j : Option Code), (∃ hp, Holds w0 w3 hp ∧ noGh hp = true ∧ hp[i]? = some (recB l { rec with state := .busy }) ∧ K j (hp.set i (recB l { rec with state := if j.isNone then .ready else .done, pending := j }))) →
        ∃ v w', (Instr.endRound l j).run P w3 = .ok v w' ∧ ∃ j hp', K j hp' ∧ Ending.returned v = .returned (.bool j.isNone) ∧ Holds w0 w' hp' := by
      rintro j ⟨hp3, hw3, hg3, hi3, hk3⟩
      obtain ⟨h5, h6⟩ := hw3.putRec { rec with state := if j.isNone then .ready else .done, pending := j } hi3 hg3
      exact ⟨_, _, run_endRound j h5, j, _, hk3, rfl, h6⟩
    cases e with
    | normal => obtain ⟨hp3, q1, q2, q3, q4⟩ := hq; exact fin none ⟨hp3, q1, q2, q3, q4⟩
    | ret => obtain ⟨hp3, q1, q2, q3, q4⟩ := hq; exact fin (some .ret) ⟨hp3, q1, q2, q3, q4⟩
    | exit id => obtain ⟨hp3, q1, q2, q3, q4⟩ := hq; exact fin (some (.exit id)) ⟨hp3, q1, q2, q3, q4⟩
    | goto t => obtain ⟨hp3, q1, q2, q3, q4⟩ := hq; exact q4.elim
    | panic c => obtain ⟨hp3, q1, q2, q3, q4⟩ := hq; exact q4.elim
    | outgrown => obtain ⟨hp3, q1, q2, q3, q4⟩ := hq; exact q4.elim
  | _ => exact (hq : False).elim

def jB : Option Code → BF
  | none => .tt
  | some _ => .ff
/-- Yield is called: a round. -/
theorem Wk.yield {full rest : List Oper} {o : Oper} {f : Nat} {args : Array Operand} {tys : Array TypeId} (ho : o.op = .call ⟨.value (.tmp f), args, tys⟩) {X0 : Env P} {fr0 : List (Nat × SV)} {i l : Nat} {rec : Loop}
    (hev : lookN fr f = some (.yld l)) (hy : findR 0 hp = some (i, l, rec)) (hT : RecOk X0 fr0 rec.tmps) (hi : hp[i]? = some (recB l rec)) (hs : rec.state = .ready) (hg : noGh hp = true)
    (h : ∀ K' : List (Nat × SV) → List HB → Prop, (∀ fr hp, Wk X r Q (.ops full rest :: t) ds fr hp → K' fr hp) →
      guardB full o fr (fun fr => withV (ev fr (.tmp f)) fun fv => withVs fr args.toList fun xs => den fv = den (.yld l) ∧
          zipP X0.N rec.params.toList xs fr0 fun fr0 => Wk X0 (some l) noP [.c rec.assign, .k [] (fun fr0 hp => Wk X0 (some l) (roundP i l rec fun j hp' => putS X.N o.dst (.bool (jB j)) fr fun fr => K' fr hp') [.br l, .c rec.body] [] fr0 hp)] [] fr0 hp)
        (fun fr => putS X.N o.dst .und fr fun fr => K' fr hp)) : Wk X r Q (.ops full (o :: rest) :: t) ds fr hp := by
  have h := h _ fun _ _ h => h
  refine ⟨fun w0 a w hf hw => ?_⟩
  obtain ⟨fr', b, h, hb⟩ := guardB_sound (N := X.N) (ds := ds) h
  obtain ⟨hf', hwant⟩ := hb a hf
  show wpListIn (fw r) 0 P full.toArray (contQ X r w0 t (Q.q w0)) (o :: rest) a w
  unfold wpListIn
  rw [hwant]
  cases b with
  | true =>
    simp only [if_true] at h ⊢
    obtain ⟨fv, hfv, h⟩ := withV_iff h
    obtain ⟨xs, ⟨hfl, h⟩, hxs⟩ := withVs_iff h
    obtain ⟨hyr, hro⟩ := round_of hi hs hT hg h r hw
    refine ⟨fun _ _ => trivial, ?_⟩
    have hnd : noDef o = true := by unfold noDef; rw [ho]
    rw [show (fw r).round = r from rfl, semAt_fw hnd]
    obtain ⟨dst, op, ty, pos, after, guard⟩ := o
    simp only at ho; subst ho
    have e1 : args.map a.eval = (denL xs).toArray := by apply Array.ext'; rw [← hxs hf']; simp
    have e2 := ev_sound hf' hfv
    have hrun : (execOp a.eval ⟨dst,   .call ⟨.value (.tmp f), args, tys⟩, ty, pos, after, guard⟩).run P w = .ok (.round l rec.fn ((rec.params.zip (denL xs).toArray).foldl (fun tmps (t, a) => tmps.setIfInBounds t a) rec.tmps) rec.assign rec.body) w := by
      simp only [execOp, resolve, e2, hfl, den, Deferred.ofValue, Sem.run_bind, Sem.run_pure, Result.andThen_ok, invoke, e1]
      simpa using hyr
    rw [hrun]
    refine ⟨fun h => (by cases h), RoundIn.mono hro fun e w' ⟨j, hp', hk, he, hw'⟩ => ?_⟩
    subst he
    obtain ⟨fr'', h1, hput⟩ := putS_sound (ds := ds) hk
    have e3 : (Value.bool j.isNone) = den (.bool (jB j)) := by cases j <;> rfl
    show wpListIn (fw r) 0 P full.toArray (contQ X r w0 t (Q.q w0)) rest (a.put dst (.bool j.isNone)) w'
    rw [e3]
    exact h1.out w0 _ _ (hput a hf') hw'
  | false =>
    simp only [Bool.false_eq_true, if_false] at h ⊢
    obtain ⟨fr'', h1, hput⟩ := putS_sound (ds := ds) h
    exact ⟨fun _ _ => trivial, h1.out w0 _ _ (hput a hf') hw⟩

/-! ### The loop -/
/-- The last block where marks are kept. -/
def findM : Nat → List HB → Option (Nat × List Nat)
  | _, [] => none
  | i, b :: bs => match findM (i + 1) bs with
    | some x => some x
    | none => match b.kd with
      | .mk ds => match b.nm, b.own, b.cts with
        | none, true, .l [] => some (i, ds)
        | _, _, _ => none
      | _ => none
/-- The last block of so many marks. -/
def findL (n : Nat) : Nat → List HB → Option Nat
  | _, [] => none
  | i, b :: bs => match findL n (i + 1) bs with
    | some x => some x
    | none => match b.kd with
      | .mk ds => match b.nm, b.own, b.cts with
        | none, true, .l [] => match Nat.beq ds.length n with
          | true => some i
          | false => none
        | _, _, _ => none
      | _ => none
/-- The loop's end: its record is not busy; on by the pending jump. -/
def RangeEnd (X : Env P) (r : Option Nat) (Q : Post) (t : List It) (ds : List Nat) (fr : List (Nat × SV)) (n l : Nat) (hp : List HB) : Prop :=
  match hp[n]? with
  | some ⟨some ⟨l', 0⟩, true, .ob (.loop rec), .l []⟩ => l' = l ∧ noGh hp = true ∧ match rec.state with
    | .busy => False
    | _ => match rec.pending with
      | none => setHK hp n (recB l { rec with state := .exhausted }) fun hp => Wk X r Q t ds fr hp
      | some j => setHK hp n (recB l { rec with state := .exhausted }) fun hp => Wk X r Q (.c j :: t) ds fr hp
  | _ => False
theorem rangeEnd_sound {a : Act} {w0 w : World} {n l : Nat} (h : RangeEnd X r Q t ds fr n l hp) (hf : FrOk X.N ds fr a) (hw : Holds w0 w hp) :
    ∃ jump w', (Instr.endLoop l).run P w = .ok jump w' ∧ (match jump with
      | none => contQ X r w0 t (Q.q w0) .normal a w'
      | some c => c.wpIn (fw r) 0 P (contQ X r w0 t (Q.q w0)) a w') := by
  unfold RangeEnd at h
  split at h
  · rename_i l' rec hi
    obtain ⟨rfl, hg, h⟩ := h
    obtain ⟨h1, h2⟩ := hw.putRec (rec := rec) (l := l') { rec with state := .exhausted } hi hg
    have hb : rec.state ≠ .busy := by
      intro e; rw [e] at h; exact h
    refine ⟨_, _, run_endLoop h1 hb, ?_⟩
    have h3 : match rec.pending with
      | none => setHK hp n (recB l' { rec with state := .exhausted }) fun hp => Wk X r Q t ds fr hp
      | some j => setHK hp n (recB l' { rec with state := .exhausted }) fun hp => Wk X r Q (.c j :: t) ds fr hp := by
      revert h
      cases rec.state <;> first | exact fun h => h | exact fun h => h.elim
    cases hj : rec.pending with
    | none => rw [hj] at h3 h2; simp only [setHK_eq] at h3; exact h3.out w0 a _ hf h2
    | some j => rw [hj] at h3 h2; simp only [setHK_eq] at h3; exact h3.out w0 a _ hf h2
  · exact h.elim
def rangeGo (X : Env P) (fv : SV) (l : Nat) (hp : List HB) (K : SV → List HB → Prop) : Prop :=
  match fv with
  | .fn f first cap => match lookN X.E f with
    | some c => c (first ++ [.yld l] ++ cap) hp K
    | none => False
  | _ => False
def notBusy : LoopState → Bool
  | .busy => false
  | _ => true
theorem RangeEnd.none {n l : Nat} {rec : Loop} (hi : hp[n]? = some (recB l rec)) (hg : noGh hp = true) (hs : notBusy rec.state = true) (hp' : rec.pending = .none) (h : setHK hp n (recB l { rec with state := .exhausted }) fun hp => Wk X r Q t ds fr hp) : RangeEnd X r Q t ds fr n l hp := by
  unfold RangeEnd
  rw [hi]
  obtain ⟨st, pe, fn, tm, pa, as, bo, de⟩ := rec
  simp only at hp'; subst hp'
  refine ⟨rfl, hg, ?_⟩
  cases st <;> first | exact h | (simp [notBusy] at hs; done)
theorem RangeEnd.some {n l : Nat} {rec : Loop} {j : Code} (hi : hp[n]? = some (recB l rec)) (hg : noGh hp = true) (hs : notBusy rec.state = true) (hp' : rec.pending = some j) (h : setHK hp n (recB l { rec with state := .exhausted }) fun hp => Wk X r Q (.c j :: t) ds fr hp) : RangeEnd X r Q t ds fr n l hp := by
  unfold RangeEnd
  rw [hi]
  obtain ⟨st, pe, fn, tm, pa, as, bo, de⟩ := rec
  simp only at hp'; subst hp'
  refine ⟨rfl, hg, ?_⟩
  cases st <;> first | exact h | (simp [notBusy] at hs; done)
/-- One mark more. -/
theorem Holds.addMark {w0 w : World} {hp : List HB} (h : Holds w0 w hp) {m : Nat} {ds : List Nat} (hi : hp[m]? = some ⟨none, true, .mk ds, .l []⟩) (hng : ∀ b ∈ hp, b.isGh = false) :
    Holds w0 (w.alloc (.deferred (some []))) (hp.set m ⟨none, true, .mk (w.heap.size :: ds), .l []⟩) := by
  have hlt : m < hp.length := (List.getElem?_eq_some_iff.1 hi).1
  have hb : Below w.heap.size w (w.alloc (.deferred (some []))) := (Below.refl _ w).alloc (Nat.le_refl _) _
  have hok0 := h.blk _ (List.mem_of_getElem? hi)
  have at_ : ∀ {j : Nat} {c : HB}, (hp.set m ⟨none, true, .mk (w.heap.size :: ds), .l []⟩)[j]? = some c → (j = m ∧ c = ⟨none, true, .mk (w.heap.size :: ds), .l []⟩) ∨ (j ≠ m ∧ hp[j]? = some c) := fun {j c} hj => by
    rw [List.getElem?_set] at hj
    split at hj
    · rename_i hij
      left
      exact ⟨hij.symm, (Option.some.inj hj).symm⟩
    · rename_i hij
      exact .inr ⟨fun e => hij e.symm, hj⟩
  have mem_ : ∀ {c : HB}, c ∈ hp.set m ⟨none, true, .mk (w.heap.size :: ds), .l []⟩ → c = ⟨none, true, .mk (w.heap.size :: ds), .l []⟩ ∨ ∃ j, j ≠ m ∧ hp[j]? = some c := fun {c} hc => by
    obtain ⟨j, hj⟩ := List.mem_iff_getElem?.1 hc
    rcases at_ hj with ⟨_, rfl⟩ | ⟨hji, hj⟩
    · exact .inl rfl
    · exact .inr ⟨j, hji, hj⟩
  have clm : ∀ {g : Nat} {ds : List Nat}, (⟨none, true, .mk ds, .l []⟩ : HB).touch g → g ∈ ds := fun {g ds} ht => by
    rcases ht with ht | ht
    · exact ht
    · simp [HB.rd] at ht
  refine ⟨Nat.le_trans h.size hb.size, fun _ => ?_, fun c hc => ?_, fun c hc hco g hcg => ?_, fun j k bj bk g hj hk hjk hcj htk => ?_⟩
  · obtain ⟨q1, q2, q3, q4⟩ := h.base hng
    refine ⟨hb.os.trans q1, hb.tape.trans q2, hb.output.trans q3, fun k hk hn => (hb.block k (Nat.lt_of_lt_of_le hk h.size)).trans (q4 k hk fun c hc hcc => ?_)⟩
    obtain ⟨j, hj⟩ := List.mem_iff_getElem?.1 hc
    by_cases hij : j = m
    · subst hij
      rw [hi] at hj; cases hj
      exact hn ⟨none, true, .mk (w.heap.size :: ds), .l []⟩ (List.mem_iff_getElem?.2 ⟨j, by simp [hlt]⟩) (show k ∈ w.heap.size :: ds from List.mem_cons_of_mem _ hcc)
    · exact hn c (List.mem_iff_getElem?.2 ⟨j, by rw [List.getElem?_set, if_neg (fun e => hij e.symm)]; exact hj⟩) hcc
  · rcases mem_ hc with rfl | ⟨j, _, hj⟩
    · refine ⟨List.nodup_cons.2 ⟨fun hin => ?_, hok0.1⟩, fun D hD => ?_⟩
      · have := (Array.getElem?_eq_some_iff.1 (hok0.2 _ hin)).1
        omega
      · rcases List.mem_cons.1 hD with rfl | hD
        · exact World.alloc_heap_new w _
        · exact (hb.block D (Array.getElem?_eq_some_iff.1 (hok0.2 _ hD)).1).trans (hok0.2 _ hD)
    · exact (h.blk c (List.mem_of_getElem? hj)).below hb
  · rcases mem_ hc with rfl | ⟨j, _, hj⟩
    · rcases List.mem_cons.1 (show g ∈ w.heap.size :: ds from hcg) with rfl | hg
      · exact h.size
      · exact h.own _ (List.mem_of_getElem? hi) rfl g hg
    · exact h.own c (List.mem_of_getElem? hj) hco g hcg
  · rcases at_ hj with ⟨ej, eb⟩ | ⟨hji, hj'⟩ <;> rcases at_ hk with ⟨ek, ec⟩ | ⟨hki, hk'⟩
    · omega
    · subst ej; subst eb
      rcases List.mem_cons.1 (show g ∈ w.heap.size :: ds from hcj) with rfl | hg
      · have := (h.blk _ (List.mem_of_getElem? hk')).lt htk; omega
      · exact h.sep j k _ bk g hi hk' hjk hg htk
    · subst ek; subst ec
      rcases List.mem_cons.1 (clm htk) with rfl | hg
      · have := (h.blk _ (List.mem_of_getElem? hj')).lt (.inl hcj); omega
      · exact h.sep j k bj _ g hj' hi hjk hcj (.inl hg)
    · exact h.sep j k bj bk g hj' hk' hjk hcj htk
theorem Holds.pushRec {w0 w : World} {hp : List HB} (h : Holds w0 w hp) (rec : Loop) : Holds w0 (w.alloc (.loop rec)) (hp ++ [recB w.heap.size rec]) := by
  have hb : Below w.heap.size w (w.alloc (.loop rec)) := (Below.refl _ w).alloc (Nat.le_refl _) _
  have tch : ∀ g, (recB w.heap.size rec).touch g → g = w.heap.size := fun g ht => by
    rcases ht with ht | ht
    · exact (show w.heap.size = g from ht).symm
    · simp [HB.rd, recB] at ht
  refine (h.below hb).push ⟨World.alloc_heap_new w _, rfl⟩ rfl (fun _ g hc => by rw [tch g (.inl hc)]; exact h.size) (fun g hc c hm ht => ?_) (fun g ht c hm hc => ?_)
  · have := (h.blk c hm).lt ht; rw [tch g (.inl hc)] at this; omega
  · have := (h.blk c hm).lt (.inl hc); rw [tch g ht] at this; omega

theorem rangeGo_sound {fv : SV} {l : Nat} {K : SV → List HB → Prop} (h : rangeGo X fv l hp K) : ∃ f first cap, fv = .fn f first cap ∧ Enters P f ∧ ∀ w0 w, Holds w0 w hp → Calls P f (denL (first ++ [.yld l] ++ cap)).toArray w fun e w' => ∃ v hp', K v hp' ∧ e = .returned (den v) ∧ Holds w0 w' hp' := by
  unfold rangeGo at h
  split at h
  · rename_i f first cap
    split at h
    · rename_i c hc
      obtain ⟨hen, hok⟩ := X.hE _ _ hc
      exact ⟨f, first, cap, rfl, hen, fun w0 w hw => hok _ _ _ h w0 w hw⟩
    · exact h.elim
  · exact h.elim
theorem rangeCall_run {fv : SV} {f : FuncId} {first cap : List SV} (hfv : fv = .fn f first cap) (hen : Enters P f) {g : Operand} {a : Act} (hg : a.eval g = den fv) (l : Nat) (w : World) :
    (resolve a.eval (rangeCall g l) 0).run P w = .ok { target := .fn (.func f) (denL cap).toArray, args := (denL (first ++ [.yld l])).toArray } w ∧
    (invoke (.fn (.func f) (denL cap).toArray) (denL (first ++ [.yld l])).toArray).run P w = .ok (.enter f (denL (first ++ [.yld l] ++ cap)).toArray) w := by
  subst hfv
  constructor
  · simp only [resolve, hg, den]
    simp [go_sem, denL_map, den, Act.eval]
  · simp only [invoke]
    have := run_callFunc hen (denL (first ++ [.yld l] ++ cap)).toArray w
    simpa [denL_map] using this

/-- A loop over a function, in the function's own frame. -/
theorem Wk.range0 {g : Operand} {ps : Array Tmp} {assign body : Code} {m : Nat} (hi : hp[m]? = some ⟨none, true, .mk ds, .l []⟩) (hg : noGh hp = true)
    (h : ∀ (T : Array Value) (fn : FuncId) (D l : Nat), RecOk X fr T → ∀ K' : SV → List HB → Prop, (∀ v hp', RangeEnd X none Q t (D :: ds) fr hp.length l hp' → K' v hp') →
      withV (ev fr g) fun fv => setHK hp m ⟨none, true, .mk (D :: ds), .l []⟩ fun hp => appK hp (recB l { state := .ready, pending := none, fn, tmps := T, params := ps, assign, body, defers := D }) fun hp => rangeGo X fv l hp K') :
    Wk X none Q (.c (.rangeFunc g ps assign body) :: t) ds fr hp := by
  refine ⟨fun w0 a w hf hw => wpIn_rangeFunc fun fn _ => ?_⟩
  have h := h a.tmps fn w.heap.size (w.heap.size + 1) ⟨hf.size, hf.slot⟩ _ fun _ _ h => h
  obtain ⟨fv, hfv, h⟩ := withV_iff h
  rw [setHK_eq, appK_eq] at h
  obtain ⟨f, first, cap, hfn, hen, hcall⟩ := rangeGo_sound h
  have e2 := ev_sound hf hfv
  have hw1 := hw.addMark hi (noGh_mem hg)
  have hw2 := hw1.pushRec { state := .ready, pending := none, fn, tmps := a.tmps, params := ps, assign, body, defers := w.heap.size }
  rw [World.size_alloc] at hw2
  have hc := hcall w0 _ hw2
  refine ⟨w.heap.size + 1, _, _, _, _, f, _, _, run_enterLoop_outer fn a.tmps ps assign body, (rangeCall_run hfn hen e2 _ _).1, fun _ _ => trivial, (rangeCall_run hfn hen e2 _ _).2, fun h => (by cases h), calls_fw none _ (hc.mono ?_)⟩
  rintro e w' ⟨v, hp', hend, rfl, hw'⟩
  obtain ⟨jump, w4, he, hj⟩ := rangeEnd_sound (a := { a with defers := mark w.heap.size :: a.defers }) hend ⟨hf.size, by simp [hf.defers], hf.slot⟩ hw'
  exact ⟨jump, w4, he, hj⟩
theorem Wk.range {g : Operand} {ps : Array Tmp} {assign body : Code} {m : Nat} (hm : findM 0 hp = some (m, ds)) (hi : hp[m]? = some ⟨none, true, .mk ds, .l []⟩) (hg : noGh hp = true)
    (h : ∀ (T : Array Value) (fn : FuncId) (D l : Nat), RecOk X fr T → ∀ K' : SV → List HB → Prop, (∀ v hp', RangeEnd X none Q t (D :: ds) fr hp.length l hp' → K' v hp') →
      withV (ev fr g) fun fv => setHK hp m ⟨none, true, .mk (D :: ds), .l []⟩ fun hp => appK hp (recB l { state := .ready, pending := none, fn, tmps := T, params := ps, assign, body, defers := D }) fun hp => rangeGo X fv l hp K') :
    Wk X none Q (.c (.rangeFunc g ps assign body) :: t) ds fr hp := Wk.range0 hi hg h
theorem Wk.rangeL {g : Operand} {ps : Array Tmp} {assign body : Code} {m : Nat} (hm : findL ds.length 0 hp = some m) (hi : hp[m]? = some ⟨none, true, .mk ds, .l []⟩) (hg : noGh hp = true)
    (h : ∀ (T : Array Value) (fn : FuncId) (D l : Nat), RecOk X fr T → ∀ K' : SV → List HB → Prop, (∀ v hp', RangeEnd X none Q t (D :: ds) fr hp.length l hp' → K' v hp') →
      withV (ev fr g) fun fv => setHK hp m ⟨none, true, .mk (D :: ds), .l []⟩ fun hp => appK hp (recB l { state := .ready, pending := none, fn, tmps := T, params := ps, assign, body, defers := D }) fun hp => rangeGo X fv l hp K') :
    Wk X none Q (.c (.rangeFunc g ps assign body) :: t) ds fr hp := Wk.range0 hi hg h
/-- .. within a round of another loop. -/
theorem Wk.rangeIn {g : Operand} {ps : Array Tmp} {assign body : Code} {l0 k : Nat} {rec0 : Loop} (hy : findB 0 hp = some (k, l0, rec0)) (hi : hp[k]? = some (recB l0 rec0)) (hg : noGh hp = true)
    (h : ∀ (T : Array Value) (fn : FuncId) (l : Nat), RecOk X fr T → ∀ K' : SV → List HB → Prop, (∀ v hp', RangeEnd X (some l0) Q t ds fr hp.length l hp' → K' v hp') →
      withV (ev fr g) fun fv => appK hp (recB l { state := .ready, pending := none, fn, tmps := T, params := ps, assign, body, defers := rec0.defers }) fun hp => rangeGo X fv l hp K') :
    Wk X (some l0) Q (.c (.rangeFunc g ps assign body) :: t) ds fr hp := by
  refine ⟨fun w0 a w hf hw => wpIn_rangeFunc fun fn _ => ?_⟩
  have h := h a.tmps fn w.heap.size ⟨hf.size, hf.slot⟩ _ fun _ _ h => h
  obtain ⟨fv, hfv, h⟩ := withV_iff h
  rw [appK_eq] at h
  obtain ⟨f, first, cap, hfn, hen, hcall⟩ := rangeGo_sound h
  have e2 := ev_sound hf hfv
  have hr0 : w.heap[l0]? = some (.loop rec0) := (hw.blk _ (List.mem_of_getElem? hi)).1
  have hw2 := hw.pushRec { state := .ready, pending := none, fn, tmps := a.tmps, params := ps, assign, body, defers := rec0.defers }
  have hc := hcall w0 _ hw2
  refine ⟨w.heap.size, _, _, _, _, f, _, _, run_enterLoop_inner hr0 fn a.tmps ps assign body, (rangeCall_run hfn hen e2 _ _).1, fun _ _ => trivial, (rangeCall_run hfn hen e2 _ _).2, fun h => (by cases h), calls_fw (some l0) _ (hc.mono ?_)⟩
  rintro e w' ⟨v, hp', hend, rfl, hw'⟩
  obtain ⟨jump, w4, he, hj⟩ := rangeEnd_sound (a := { a with defers := [] ++ a.defers }) hend ⟨hf.size, by simp [hf.defers], hf.slot⟩ hw'
  exact ⟨jump, w4, he, hj⟩
/-- The end, with marks. -/
theorem Fin.marks {R : SV → List HB → Prop} {e : Exit} (he : match e with | .normal | .ret => True | _ => False) {i : Nat} (hm : findM 0 hp = some (i, ds)) (hi : hp[i]? = some ⟨none, true, .mk ds, .l []⟩) (hng : noGh hp = true) (h : setHK hp i ⟨none, true, .mk [], .l []⟩ fun hp' => evRes X.T X.rs fr hp' fun v => R v hp') : Fin X (endP X R) e ds fr hp :=
  Fin.marked he i _ hi hng h
theorem Fin.marksL {R : SV → List HB → Prop} {e : Exit} (he : match e with | .normal | .ret => True | _ => False) {i : Nat} (hm : findL ds.length 0 hp = some i) (hi : hp[i]? = some ⟨none, true, .mk ds, .l []⟩) (hng : noGh hp = true) (h : setHK hp i ⟨none, true, .mk [], .l []⟩ fun hp' => evRes X.T X.rs fr hp' fun v => R v hp') : Fin X (endP X R) e ds fr hp :=
  Fin.marked he i _ hi hng h
end
end Go.Sy
