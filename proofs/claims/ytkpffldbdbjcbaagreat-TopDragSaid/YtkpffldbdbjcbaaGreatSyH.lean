/- Functions: their contracts out of their bodies. -/
import Derived.Test.YtkpffldbdbjcbaaGreatSyG
set_option linter.unusedSimpArgs false
set_option linter.unusedVariables false
namespace Go.Sy
open Go.RowKit

/-! ### Functions -/
def argFr : Nat → List SV → List (Nat × SV)
  | _, [] => []
  | i, v :: vs => (i, v) :: argFr (i + 1) vs

def evRes1 (T : List (Nat × TyI)) (r : ResultVar) (fr : List (Nat × SV)) (hp : List HB) (K : SV → Prop) : Prop :=
  match r with
  | .tmp t => withV (lookN fr t) K
  | .cell a t => withV (lookN fr a) fun v => evLoad T t hp v K
def evRess (T : List (Nat × TyI)) : List ResultVar → List (Nat × SV) → List HB → (List SV → Prop) → Prop
  | [], _, _, K => K []
  | r :: rs, fr, hp, K => evRes1 T r fr hp fun v => evRess T rs fr hp fun vs => K (v :: vs)
def evRes (T : List (Nat × TyI)) (rs : List ResultVar) (fr : List (Nat × SV)) (hp : List HB) (K : SV → Prop) : Prop :=
  evRess T rs fr hp fun vs => match vs with
    | [v] => K v
    | vs => K (.tup vs)

section
variable {P : Program} {T : List (Nat × TyI)} {N : Nat} {ds : List Nat}
def resV (tmps : Array Value) : ResultVar → Sem Value
  | .tmp t => pure (tmps.getD t undef)
  | .cell a t => do loadVar t (← asAddr (tmps.getD a undef))

theorem evResOne_sound (hT : TOk P T) {r : ResultVar} {fr : List (Nat × SV)} {hp : List HB} {K : SV → Prop} (h : evRes1 T r fr hp K) :
    ∃ v, K v ∧ ∀ a w, FrOk N ds fr a → (∀ b ∈ hp, b.ok w) → (resV a.tmps r).run P w = .ok (den v) w := by
  unfold evRes1 at h
  split at h
  · rename_i t
    obtain ⟨v, hv, h⟩ := withV_iff h
    exact ⟨v, h, fun a w hf hw => by simp [resV, Array.getD_eq_getD_getElem?, hf.slot t v hv]⟩
  · rename_i x t
    obtain ⟨xv, hx, h⟩ := withV_iff h
    have hp' : ∃ i nm k s d, xv = .ptr i nm k s d := by
      cases xv <;> first | exact ⟨_, _, _, _, _, rfl⟩ | exact h.elim
    obtain ⟨i, nm, k, s, d, rfl⟩ := hp'
    obtain ⟨v, hK, hr⟩ := evLoad_sound hT h
    refine ⟨v, hK, fun a w hf hw => ?_⟩
    have := hr w hw
    simp only [Instr.loadAt, den, Instr.sureAddr, Sem.run_bind, Sem.run_pure, Result.andThen_ok] at this
    simp [resV, Array.getD_eq_getD_getElem?, hf.slot x _ hx, den, asAddr, this]
theorem evRess_sound (hT : TOk P T) {fr : List (Nat × SV)} {hp : List HB} : ∀ {rs : List ResultVar} {K : List SV → Prop}, evRess T rs fr hp K →
    ∃ vs, K vs ∧ ∀ a w, FrOk N ds fr a → (∀ b ∈ hp, b.ok w) → (rs.mapM (resV a.tmps)).run P w = .ok (denL vs) w
  | [], K, h => ⟨[], h, fun a w _ _ => by simp [denL]⟩
  | r :: rs, K, h => by
    obtain ⟨v, h, h1⟩ := evResOne_sound (N := N) (ds := ds) hT h
    obtain ⟨vs, h, h2⟩ := evRess_sound hT h
    exact ⟨v :: vs, h, fun a w hf hw => by simp [List.mapM_cons, h1 a w hf hw, h2 a w hf hw, denL]⟩
theorem evRes_sound (hT : TOk P T) {fn : Func} {fr : List (Nat × SV)} {hp : List HB} {K : SV → Prop} (h : evRes T fn.results.toList fr hp K) :
    ∃ v, K v ∧ ∀ a w, FrOk N ds fr a → (∀ b ∈ hp, b.ok w) → (results fn a.tmps).run P w = .ok (den v) w := by
  obtain ⟨vs, h, hr⟩ := evRess_sound (N := N) (ds := ds) hT h
  have hrun : ∀ a w, FrOk N ds fr a → (∀ b ∈ hp, b.ok w) → (fn.results.mapM (resV a.tmps)).run P w = .ok (denL vs).toArray w := fun a w hf hw => by
    rw [Array.mapM_eq_mapM_toList]
    simp [hr a w hf hw]
  have hres : ∀ a w, FrOk N ds fr a → (∀ b ∈ hp, b.ok w) → (results fn a.tmps).run P w = .ok (if h : (denL vs).toArray.size = 1 then (denL vs).toArray[0] else .tuple (denL vs).toArray) w := fun a w hf hw => by
    have := hrun a w hf hw
    unfold results
    rw [Sem.run_bind]
    have e : (fun x => match x with
      | .tmp t => pure (a.tmps.getD t undef)
      | .cell b t => do let x ← asAddr (a.tmps.getD b undef); loadVar t x) = resV a.tmps := by
      funext x; cases x <;> rfl
    erw [e, this]
    rfl
  split at h
  · rename_i v
    exact ⟨v, h, fun a w hf hw => by rw [hres a w hf hw]; simp [denL]⟩
  · rename_i hvs
    refine ⟨_, h, fun a w hf hw => ?_⟩
    rw [hres a w hf hw, dif_neg]
    · simp [den]
    · intro hs
      match vs, hvs, hs with
      | [], _, hs => simp [denL] at hs
      | [v], hvs, _ => exact hvs v rfl
      | _ :: _ :: _, _, hs => simp [denL] at hs

theorem argFr_look : ∀ (vs : List SV) (i t : Nat) (v : SV), lookN (argFr i vs) t = some v → i ≤ t ∧ vs[t - i]? = some v
  | [], i, t, v, h => by simp [argFr, lookN] at h
  | u :: us, i, t, v, h => by
    unfold argFr lookN at h
    split at h
    · rename_i hb
      have : i = t := Nat.eq_of_beq_eq_true hb
      subst this
      cases h
      simp
    · rename_i hb
      obtain ⟨h1, h2⟩ := argFr_look us (i + 1) t v h
      refine ⟨by omega, ?_⟩
      rw [show t - i = (t - (i + 1)) + 1 by omega]
      simpa using h2



/-- The function's end: its marks are taken back. -/
def endP {P : Program} (X : Env P) (R : SV → List HB → Prop) : Post where
  q w0 e a w := match e with
    | .normal | .ret => ∃ ds fr hp, FrOk X.N ds fr a ∧ Holds w0 w hp ∧ ((ds = [] ∧ evRes X.T X.rs fr hp fun v => R v hp) ∨
        (∃ i c, hp[i]? = some ⟨none, true, .mk ds, c⟩ ∧ (∀ b ∈ hp, b.isGh = false) ∧ evRes X.T X.rs fr (hp.set i ⟨none, true, .mk [], c⟩) fun v => R v (hp.set i ⟨none, true, .mk [], c⟩)))
    | _ => False
  np _ _ _ _ h := h
  no _ _ _ h := h

/-- A block of our own holds less. -/
theorem Holds.shrink {w0 w : World} {hp : List HB} (h : Holds w0 w hp) {i : Nat} {b b' : HB} (hi : hp[i]? = some b) (ho : b.own = true) (hgh : b.isGh = false) (hok : b'.ok w) (hgh' : b'.isGh = false) (ht : ∀ g, b'.touch g → b.cl g) : Holds w0 w (hp.set i b') := by
  have hlt : i < hp.length := (List.getElem?_eq_some_iff.1 hi).1
  have at_ : ∀ {j : Nat} {c : HB}, (hp.set i b')[j]? = some c → (j = i ∧ c = b') ∨ (j ≠ i ∧ hp[j]? = some c) := fun {j c} hj => by
    rw [List.getElem?_set] at hj
    split at hj
    · rename_i hij
      left; exact ⟨hij.symm, (Option.some.inj hj).symm⟩
    · rename_i hij
      exact .inr ⟨fun e => hij e.symm, hj⟩
  have mem_ : ∀ {c : HB}, c ∈ hp.set i b' → c = b' ∨ ∃ j, j ≠ i ∧ hp[j]? = some c := fun {c} hc => by
    obtain ⟨j, hj⟩ := List.mem_iff_getElem?.1 hc
    rcases at_ hj with ⟨_, rfl⟩ | ⟨hji, hj⟩
    · exact .inl rfl
    · exact .inr ⟨j, hji, hj⟩
  refine ⟨h.size, fun hg => ?_, fun c hc => ?_, fun c hc hco g hcg => ?_, fun j k bj bk g hj hk hjk hcj htk => ?_⟩
  · obtain ⟨q1, q2, q3, q4⟩ := h.base fun c hc => by
      obtain ⟨j, hj⟩ := List.mem_iff_getElem?.1 hc
      by_cases hij : j = i
      · subst hij; rw [hi] at hj; cases hj; exact hgh
      · exact hg c (List.mem_iff_getElem?.2 ⟨j, by rw [List.getElem?_set, if_neg (fun e => hij e.symm)]; exact hj⟩)
    refine ⟨q1, q2, q3, fun k hk hn => q4 k hk fun c hc hcc => ?_⟩
    obtain ⟨j, hj⟩ := List.mem_iff_getElem?.1 hc
    by_cases hij : j = i
    · subst hij; rw [hi] at hj; cases hj
      have := h.own b (List.mem_of_getElem? hi) ho k hcc
      omega
    · exact hn c (List.mem_iff_getElem?.2 ⟨j, by rw [List.getElem?_set, if_neg (fun e => hij e.symm)]; exact hj⟩) hcc
  · rcases mem_ hc with rfl | ⟨j, _, hj⟩
    · exact hok
    · exact h.blk c (List.mem_of_getElem? hj)
  · rcases mem_ hc with rfl | ⟨j, _, hj⟩
    · exact h.own b (List.mem_of_getElem? hi) ho g (ht g (.inl hcg))
    · exact h.own c (List.mem_of_getElem? hj) hco g hcg
  · rcases at_ hj with ⟨ej, eb⟩ | ⟨hji, hj'⟩ <;> rcases at_ hk with ⟨ek, ec⟩ | ⟨hki, hk'⟩
    · omega
    · subst ej; subst eb; exact h.sep j k b bk g hi hk' hjk (ht g (.inl hcj)) htk
    · subst ek; subst ec; exact h.sep j k bj b g hj' hi hjk hcj (.inl (ht g htk))
    · exact h.sep j k bj bk g hj' hk' hjk hcj htk
/-- One mark is taken back. -/
theorem Holds.unmark {w0 w : World} {hp : List HB} (h : Holds w0 w hp) {i D : Nat} {ds : List Nat} {c : Cts} (hi : hp[i]? = some ⟨none, true, .mk (D :: ds), c⟩) (hng : ∀ b ∈ hp, b.isGh = false) :
    w.heap[D]? = some (.deferred (some [])) ∧ Holds w0 (w.putObj D (.deferred none)) (hp.set i ⟨none, true, .mk ds, c⟩) := by
  have hok := h.blk _ (List.mem_of_getElem? hi)
  have hD : w.heap[D]? = some (.deferred (some [])) := hok.2 D (by simp)
  have hnd := List.nodup_cons.1 hok.1
  have touch_mk : ∀ {ds : List Nat} {g : Nat}, (⟨none, true, .mk ds, c⟩ : HB).touch g → g ∈ ds := fun {ds g} ht => by
    rcases ht with ht | ht
    · exact ht
    · simp [HB.rd] at ht
  refine ⟨hD, ?_⟩
  have h1 := h.shrink (b' := ⟨none, true, .mk ds, c⟩) hi rfl rfl ⟨hnd.2, fun E hE => hok.2 E (by simp [hE])⟩ rfl (fun g ht => List.mem_cons_of_mem _ (touch_mk ht))
  have hmem : ∀ x ∈ hp.set i ⟨none, true, .mk ds, c⟩, x = ⟨none, true, .mk ds, c⟩ ∨ ∃ j, j ≠ i ∧ hp[j]? = some x := fun x hx => by
    obtain ⟨j, hj⟩ := List.mem_iff_getElem?.1 hx
    rw [List.getElem?_set] at hj
    split at hj
    · left
      split at hj
      · exact (Option.some.inj hj).symm
      · cases hj
    · rename_i hij; exact .inr ⟨j, fun e => hij e.symm, hj⟩
  refine h1.off (fun x hx => ?_) (grownBy_putObj' w D _) fun g hg => ?_
  · rcases hmem x hx with rfl | ⟨j, _, hj⟩
    · rfl
    · exact hng x (List.mem_of_getElem? hj)
  · cases hg
    refine ⟨h.own _ (List.mem_of_getElem? hi) rfl D (show D ∈ D :: ds by simp), fun x hx ht => ?_⟩
    rcases hmem x hx with rfl | ⟨j, hji, hj⟩
    · exact hnd.1 (touch_mk ht)
    · exact h.sep i j _ x D hi hj (fun e => hji e.symm) (show D ∈ D :: ds by simp) ht

theorem leaves_marks {fn : Func} {tmps : Array Value} {R : Ending → World → Prop} {w0 : World} : ∀ (ds : List Nat) (w : World) (hp : List HB) (i : Nat) (c : Cts), Holds w0 w hp → hp[i]? = some ⟨none, true, .mk ds, c⟩ → (∀ b ∈ hp, b.isGh = false) →
    (∀ w', Holds w0 w' (hp.set i ⟨none, true, .mk [], c⟩) → ∃ v, (results fn tmps).run P w' = .ok v w' ∧ R (.returned v) w') → LeavesInM (fw none) 0 P fn tmps R (ds.map mark) .returning w
  | [], w, hp, i, c, hw, hi, _, h => by
    have : hp.set i ⟨none, true, .mk [], c⟩ = hp := by
      apply List.ext_getElem?
      intro j
      rw [List.getElem?_set]
      split
      · rename_i hij; subst hij
        rw [if_pos (List.getElem?_eq_some_iff.1 hi).1, hi]
      · rfl
    rw [this] at h
    exact h w hw
  | D :: ds, w, hp, i, c, hw, hi, hng, h => by
    obtain ⟨hD, hw'⟩ := hw.unmark hi hng
    have hlt : i < hp.length := (List.getElem?_eq_some_iff.1 hi).1
    refine ⟨by simp, .inl ⟨D, _, rfl, run_takeDeferred hD, ?_⟩⟩
    refine leaves_marks ds _ (hp.set i ⟨none, true, .mk ds, c⟩) i c hw' (by simp [hlt]) (fun x hx => ?_) (fun w' hw'' => h w' (by simpa using hw''))
    obtain ⟨j, hj⟩ := List.mem_iff_getElem?.1 hx
    rw [List.getElem?_set] at hj
    split at hj
    · cases hj; rfl
    · exact hng x (List.mem_of_getElem? hj)

theorem calls_of_wk {P : Program} (X : Env P) {f : FuncId} {fn : Func} {c : Code} (hf : P.funcs[f]? = some fn) (hb : fn.body = some c) (hN : fn.ntmps = X.N) (hrs : fn.results.toList = X.rs)
    {args : List SV} {hp : List HB} {R : SV → List HB → Prop} (hn : args.length ≤ X.N) (h : Wk X none (endP X R) [.c c] [] (argFr 0 args) hp) {w0 w : World} (hw : Holds w0 w hp) :
    Calls P f (denL args).toArray w fun e w' => ∃ v hp', R v hp' ∧ e = .returned (den v) ∧ Holds w0 w' hp' := by
  have h1 : CallsIn (fw none) 0 P f (denL args).toArray w fun e w' => ∃ v hp', R v hp' ∧ e = .returned (den v) ∧ Holds w0 w' hp' := by
    refine callsIn_of_wp_marks hf hb trivial ?_
    have h0 := h.out w0 { tmps := (denL args).toArray ++ Array.replicate (fn.ntmps - (denL args).toArray.size) undef, defers := [] } w ⟨by simp [denL_map]; omega, rfl, fun t v ht => ?_⟩ hw
    · refine wpIn_mono h0 (fun e a' w' hK => ?_)
      have fin : (∃ ds fr hp, FrOk X.N ds fr a' ∧ Holds w0 w' hp ∧ ((ds = [] ∧ evRes X.T X.rs fr hp fun v => R v hp) ∨
          (∃ i c, hp[i]? = some ⟨none, true, .mk ds, c⟩ ∧ (∀ b ∈ hp, b.isGh = false) ∧ evRes X.T X.rs fr (hp.set i ⟨none, true, .mk [], c⟩) fun v => R v (hp.set i ⟨none, true, .mk [], c⟩)))) →
          LeavesInM (fw none) 0 P fn a'.tmps (fun e w' => ∃ v hp', R v hp' ∧ e = .returned (den v) ∧ Holds w0 w' hp') a'.defers .returning w' := by
        rintro ⟨ds, fr, hp', hf', hw', ⟨rfl, hK⟩ | ⟨i, c, hi, hng, hK⟩⟩
        · rw [hf'.defers]
          rw [← hrs] at hK
          obtain ⟨v, hv, hr⟩ := evRes_sound (N := X.N) (ds := []) X.hT hK
          exact ⟨_, hr a' w' hf' hw'.blk, v, hp', hv, rfl, hw'⟩
        · rw [hf'.defers]
          rw [← hrs] at hK
          obtain ⟨v, hv, hr⟩ := evRes_sound (N := X.N) (ds := ds) X.hT hK
          exact leaves_marks ds w' hp' i c hw' hi hng fun w'' hw'' => ⟨_, hr a' w'' hf' hw''.blk, v, _, hv, rfl, hw''⟩
      cases e with
      | normal => exact fin hK
      | ret => exact fin hK
      | _ => exact (hK : False).elim
    · obtain ⟨_, h2⟩ := argFr_look args 0 t v ht
      rw [Nat.sub_zero] at h2
      have hlt : t < args.length := (List.getElem?_eq_some_iff.1 h2).1
      rw [Array.getElem?_append_left (by simpa [denL_map] using hlt)]
      simp [denL_map, h2]
  have h2 : CallsIn Fence.wide 0 P f (denL args).toArray w fun e w' => ∃ v hp', R v hp' ∧ e = .returned (den v) ∧ Holds w0 w' hp' := h1
  exact callsIn_wide.1 h2
end

section
variable {P : Program} {X : Env P} {R : SV → List HB → Prop} {fr : List (Nat × SV)} {hp : List HB}
/-- The end, no mark having been laid. -/
theorem Fin.plain {e : Exit} (he : match e with | .normal | .ret => True | _ => False) (h : evRes X.T X.rs fr hp fun v => R v hp) : Fin X (endP X R) e [] fr hp :=
  ⟨fun w0 a w hf hw => by cases e <;> first | exact he.elim | exact ⟨[], fr, hp, hf, hw, .inl ⟨rfl, h⟩⟩⟩
/-- The end, with marks. -/
theorem Fin.marked {e : Exit} {ds : List Nat} (he : match e with | .normal | .ret => True | _ => False) (i : Nat) (c : Cts) (hi : hp[i]? = some ⟨none, true, .mk ds, c⟩) (hng : noGh hp = true) (h : setHK hp i ⟨none, true, .mk [], c⟩ fun hp' => evRes X.T X.rs fr hp' fun v => R v hp') : Fin X (endP X R) e ds fr hp :=
  ⟨fun w0 a w hf hw => by
    rw [setHK_eq] at h
    cases e <;> first | exact he.elim | exact ⟨ds, fr, hp, hf, hw, .inr ⟨i, c, hi, noGh_mem hng, h⟩⟩⟩
end
def allMine : List HB → Prop
  | [] => True
  | b :: r => (b.isGh = false ∧ (b.own = true ∨ match b.kd with | .ro => True | _ => False)) ∧ allMine r
theorem allMine_mem : ∀ {hp : List HB}, allMine hp → ∀ b ∈ hp, b.isGh = false ∧ ((∃ g, b.cl g) → b.own = true)
  | c :: _, h, b, hb => by
    rcases List.mem_cons.1 hb with rfl | hb
    · refine ⟨h.1.1, fun ⟨g, hg⟩ => ?_⟩
      rcases h.1.2 with h1 | h1
      · exact h1
      · obtain ⟨nm, own, kd, cts⟩ := b
        cases kd <;> first | exact h1.elim | exact hg.elim
    · exact allMine_mem h.2 b hb

/-- Only to be looked at. -/
def allRo : List HB → Prop
  | [] => True
  | b :: r => (match b.kd with | .ro | .bn _ => True | _ => False) ∧ allRo r
theorem allRo_mem : ∀ {hp : List HB}, allRo hp → ∀ b ∈ hp, b.isGh = false ∧ ∀ g, ¬ b.cl g
  | c :: _, h, b, hb => by
    rcases List.mem_cons.1 hb with rfl | hb
    · obtain ⟨nm, own, kd, cts⟩ := b
      cases kd <;> first | exact h.1.elim | exact ⟨rfl, fun g hg => hg.elim⟩
    · exact allRo_mem h.2 b hb
theorem Holds.ofRo {w : World} {hp : List HB} (h : ∀ b ∈ hp, b.ok w) (hr : allRo hp) : Holds w w hp :=
  ⟨Nat.le_refl _, fun _ => ⟨rfl, rfl, rfl, fun _ _ _ => rfl⟩, h, fun b hb _ g hg => ((allRo_mem hr b hb).2 g hg).elim,
   fun i j bi bj g hi _ _ hc => ((allRo_mem hr bi (List.mem_of_getElem? hi)).2 g hc).elim⟩

/-- A contract without an effect, out of the body. -/
theorem ctr_of_wk {P : Program} (X : Env P) {f : FuncId} {fn : Func} {code : Code} (hf : P.funcs[f]? = some fn) (hb : fn.body = some code)
    (hname : (fn.name == "runtime.NumGoroutine") = false) (hN : fn.ntmps = X.N) (hrs : fn.results.toList = X.rs) {c : Ctr}
    (h : ∀ (args : List SV) (hp : List HB) (K : SV → Prop), c args hp K → ∃ (args' : List SV) (hp0 : List HB) (r : SV), denL args' = denL args ∧ allRo hp0 ∧ (∀ w, (∀ b ∈ hp, b.ok w) → ∀ b ∈ hp0, b.ok w) ∧ K r ∧
      args'.length ≤ X.N ∧ Wk X none (endP X fun v hp' => den v = den r ∧ allMine hp') [.c code] [] (argFr 0 args') hp0) : COk P f c :=
  .own ⟨fn, hf, hname, by rw [hb]; rfl⟩ fun args hp K hc => by
    obtain ⟨args', hp0, r, ha, hro, hsub, hK, hn, hv⟩ := h args hp K hc
    refine ⟨r, hK, fun w hw => ?_⟩
    rw [← ha]
    refine (calls_of_wk X hf hb hN hrs hn hv (Holds.ofRo (hsub w hw) hro)).mono fun e w' ⟨v, hp', ⟨h1, h2⟩, he, hw'⟩ => ?_
    exact ⟨by rw [he, h1], hw'.toBelow (fun b hb => (allMine_mem h2 b hb).1) fun b hb => (allMine_mem h2 b hb).2⟩

/-- The callee's body in place of a contract. -/
def inl {P : Program} (X : Env P) (code : Code) : ECtr := fun args hp K => Nat.ble args.length X.N = true ∧ Wk X none (endP X K) [.c code] [] (argFr 0 args) hp
theorem inl_ok {P : Program} (X : Env P) {f : FuncId} {fn : Func} {code : Code} (hf : P.funcs[f]? = some fn) (hb : fn.body = some code)
    (hname : (fn.name == "runtime.NumGoroutine") = false) (hN : fn.ntmps = X.N) (hrs : fn.results.toList = X.rs) : EOk P f (inl X code) :=
  ⟨⟨fn, hf, hname, by rw [hb]; rfl⟩, fun args hp K h w0 w hw => calls_of_wk X hf hb hN hrs (Nat.le_of_ble_eq_true h.1) h.2 hw⟩

/-- New blocks of our own. -/
def HB.fresh (b : HB) : Bool := b.own && (match b.kd with | .wr .. => true | _ => false)
def allFresh : List HB → Bool
  | [] => true
  | b :: r => b.fresh && allFresh r
theorem allFresh_mem : ∀ {hp : List HB}, allFresh hp = true → ∀ b ∈ hp, b.own = true ∧ b.isGh = false ∧ ∀ g, b.touch g → b.cl g
  | c :: _, h, b, hb => by
    simp only [allFresh, Bool.and_eq_true] at h
    rcases List.mem_cons.1 hb with rfl | hb
    · obtain ⟨nm, own, kd, cts⟩ := b
      have h1 := h.1
      simp only [HB.fresh, Bool.and_eq_true] at h1
      cases kd with
      | wr ty cap => exact ⟨h1.1, rfl, fun g ht => by
          rcases ht with ht | ht
          · exact ht
          · simp [HB.rd] at ht⟩
      | _ => simp at h1
    · exact allFresh_mem h.2 b hb
/-- A contract whose value lies in new blocks. -/
theorem eok_of_wk {P : Program} (X : Env P) {f : FuncId} {fn : Func} {code : Code} (hf : P.funcs[f]? = some fn) (hb : fn.body = some code)
    (hname : (fn.name == "runtime.NumGoroutine") = false) (hN : fn.ntmps = X.N) (hrs : fn.results.toList = X.rs) {c : ECtr}
    (h : ∀ (args : List SV) (hp : List HB) (K : SV → List HB → Prop), c args hp K → ∃ (args' : List SV) (hp0 : List HB), denL args' = denL args ∧ allRo hp0 ∧ (∀ w, (∀ b ∈ hp, b.ok w) → ∀ b ∈ hp0, b.ok w) ∧
      args'.length ≤ X.N ∧ Wk X none (endP X fun v hq => ∃ v' news, den v' = den v ∧ hsel news hq ∧ allFresh news = true ∧ K v' (hp ++ news)) [.c code] [] (argFr 0 args') hp0) : EOk P f c :=
  ⟨⟨fn, hf, hname, by rw [hb]; rfl⟩, fun args hp K hc w0 w hw => by
    obtain ⟨args', hp0, ha, hro, hsub, hn, hv⟩ := h args hp K hc
    rw [← ha]
    refine (calls_of_wk X hf hb hN hrs hn hv (Holds.ofRo (hsub w hw.blk) hro)).mono fun e w' ⟨v, hq, ⟨v', news, h1, h2, h3, hK⟩, he, hw'⟩ => ?_
    refine ⟨v', hp ++ news, hK, by rw [he, h1], ?_⟩
    have hn' := hw'.sel h2
    have hfr := allFresh_mem h3
    have hbel : Below w.heap.size w w' := hn'.toBelow (fun b hb => (hfr b hb).2.1) fun b hb _ => (hfr b hb).1
    have hold := hw.below hbel
    have hge : ∀ b ∈ news, ∀ g, b.touch g → w.heap.size ≤ g := fun b hb g ht => hn'.own b hb (hfr b hb).1 g ((hfr b hb).2.2 g ht)
    have hlt : ∀ b ∈ hp, ∀ g, b.touch g → g < w.heap.size := fun b hb g ht => (hw.blk b hb).lt ht
    refine ⟨hold.size, fun hg => ?_, fun b hb => ?_, fun b hb hbo g hbg => ?_, ?_⟩
    · obtain ⟨q1, q2, q3, q4⟩ := hold.base fun b hb => hg b (List.mem_append.2 (.inl hb))
      exact ⟨q1, q2, q3, fun k hk hnn => q4 k hk fun b hb => hnn b (List.mem_append.2 (.inl hb))⟩
    · rcases List.mem_append.1 hb with hb | hb
      · exact hold.blk b hb
      · exact hn'.blk b hb
    · rcases List.mem_append.1 hb with hb | hb
      · exact hold.own b hb hbo g hbg
      · exact Nat.le_trans hw.size (hge b hb g (.inl hbg))
    · rw [sep_iff, List.pairwise_append]
      refine ⟨sep_iff.1 hold.sep, sep_iff.1 hn'.sep, fun b hb c hc g => ⟨fun h1 h2 => ?_, fun h1 h2 => ?_⟩⟩
      · have := hlt b hb g (.inl h1); have := hge c hc g h2; omega
      · have := hlt b hb g h2; have := hge c hc g (.inl h1); omega⟩
end Go.Sy
