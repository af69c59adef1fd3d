/- Regions, code, functions. -/
import Derived.Test.YtcagdjbinkadpaaSxE
import Derived.LoopN
set_option linter.unusedSimpArgs false
set_option linter.unusedVariables false
namespace Go.Sx
open Go.RowKit

def putS (N : Nat) (d : Option Tmp) (v : SV) (fr : List (Nat × SV)) (K : List (Nat × SV) → Prop) : Prop :=
  match d with
  | none => K fr
  | some t => match Nat.blt t N with
    | true => K ((t, v) :: fr)
    | false => False
theorem putS_sound {N : Nat} {d : Option Tmp} {v : SV} {fr : List (Nat × SV)} {K : List (Nat × SV) → Prop} (h : putS N d v fr K) : ∃ fr', K fr' ∧ ∀ a, FrOk N fr a → FrOk N fr' (a.put d (den v)) := by
  unfold putS at h
  split at h
  · exact ⟨fr, h, fun a hf => hf⟩
  · rename_i t
    split at h
    · rename_i hb
      have hlt : t < N := Nat.le_of_ble_eq_true hb
      refine ⟨_, h, fun a hf => ⟨by simp [Act.put, hf.size], hf.defers, fun u x hx => ?_⟩⟩
      unfold lookN at hx
      split at hx
      · rename_i he
        have : t = u := Nat.eq_of_beq_eq_true he
        subst this
        cases hx
        simp [Act.put, hf.size, hlt]
      · rename_i he
        have hne : t ≠ u := fun e => he (by subst e; exact Nat.beq_refl t)
        simp only [Act.put, Array.getElem?_setIfInBounds, if_neg hne]
        exact hf.slot u x hx
    · exact h.elim

def guardB (full : List Oper) (o : Oper) (fr : List (Nat × SV)) (KT KF : List (Nat × SV) → Prop) : Prop :=
  match o.guard with
  | none => KT fr
  | some (j, want) =>
    match (full[j]?).bind (·.dst) with
    | none => KF fr
    | some t =>
      match lookN fr t with
      | some (.bool .tt) => match want with
        | true => KT fr
        | false => KF fr
      | some (.bool .ff) => match want with
        | true => KF fr
        | false => KT fr
      | some (.bool f) => match want with
        | true => (f.H true → KT ((t, .bool .tt) :: fr)) ∧ (f.H false → KF ((t, .bool .ff) :: fr))
        | false => (f.H true → KF ((t, .bool .tt) :: fr)) ∧ (f.H false → KT ((t, .bool .ff) :: fr))
      | some .und => KF fr
      | _ => False

theorem FrOk.refine {N : Nat} {fr : List (Nat × SV)} {a : Act} (hf : FrOk N fr a) {t : Nat} {u v : SV} (hu : lookN fr t = some u) (hd : den u = den v) : FrOk N ((t, v) :: fr) a :=
  ⟨hf.size, hf.defers, fun s x hx => by
    unfold lookN at hx
    split at hx
    · rename_i he
      have : t = s := Nat.eq_of_beq_eq_true he
      subst this
      cases hx
      rw [← hd]; exact hf.slot t u hu
    · exact hf.slot s x hx⟩

theorem guardB_sound {N : Nat} {full : List Oper} {o : Oper} {fr : List (Nat × SV)} {KT KF : List (Nat × SV) → Prop} (h : guardB full o fr KT KF) :
    ∃ fr' b, (if b then KT fr' else KF fr') ∧ ∀ a, FrOk N fr a → FrOk N fr' a ∧ Region.wanted o (yielded full.toArray a.tmps) = b := by
  have yl : ∀ {j : Nat} {t : Nat} {a : Act} {v : SV}, (full[j]?).bind (·.dst) = some t → FrOk N fr a → lookN fr t = some v → yielded full.toArray a.tmps j = (match den v with | .bool b => some b | _ => none) := fun {j t a v} hj hf hv => by
    have := hf.slot t v hv
    unfold yielded
    simp only [List.getElem?_toArray, hj, Option.bind_some, this]
    cases den v <;> rfl
  unfold guardB at h
  split at h
  · rename_i hg; exact ⟨fr, true, h, fun a hf => ⟨hf, by simp [Region.wanted, hg]⟩⟩
  · rename_i j want hg
    split at h
    · rename_i hj
      refine ⟨fr, false, h, fun a hf => ⟨hf, ?_⟩⟩
      have : yielded full.toArray a.tmps j = none := by
        unfold yielded
        simp only [List.getElem?_toArray, hj, Option.bind_none]
      simp [Region.wanted, hg, this]
    · rename_i t hj
      split at h
      · rename_i hl
        have := fun {a : Act} (hf : FrOk N fr a) => yl hj hf hl
        cases want
        · exact ⟨fr, false, h, fun a hf => ⟨hf, by simp [Region.wanted, hg, this hf, den, BF.b]⟩⟩
        · exact ⟨fr, true, h, fun a hf => ⟨hf, by simp [Region.wanted, hg, this hf, den, BF.b]⟩⟩
      · rename_i hl
        have := fun {a : Act} (hf : FrOk N fr a) => yl hj hf hl
        cases want
        · exact ⟨fr, true, h, fun a hf => ⟨hf, by simp [Region.wanted, hg, this hf, den, BF.b]⟩⟩
        · exact ⟨fr, false, h, fun a hf => ⟨hf, by simp [Region.wanted, hg, this hf, den, BF.b]⟩⟩
      · rename_i f _ _ hl
        have := fun {a : Act} (hf : FrOk N fr a) => yl hj hf hl
        cases hb : f.b with
        | true =>
          have hd : den (SV.bool f) = den (SV.bool .tt) := by simp [den, hb, BF.b]
          have hH := (BF.H_iff f true).2 hb
          cases want
          · exact ⟨_, false, h.1 hH, fun a hf => ⟨hf.refine hl hd, by simp [Region.wanted, hg, this hf, den, hb]⟩⟩
          · exact ⟨_, true, h.1 hH, fun a hf => ⟨hf.refine hl hd, by simp [Region.wanted, hg, this hf, den, hb]⟩⟩
        | false =>
          have hd : den (SV.bool f) = den (SV.bool .ff) := by simp [den, hb, BF.b]
          have hH := (BF.H_iff f false).2 hb
          cases want
          · exact ⟨_, true, h.2 hH, fun a hf => ⟨hf.refine hl hd, by simp [Region.wanted, hg, this hf, den, hb]⟩⟩
          · exact ⟨_, false, h.2 hH, fun a hf => ⟨hf.refine hl hd, by simp [Region.wanted, hg, this hf, den, hb]⟩⟩
      · rename_i hl
        have := fun {a : Act} (hf : FrOk N fr a) => yl hj hf hl
        refine ⟨fr, false, h, fun a hf => ⟨hf, ?_⟩⟩
        simp [Region.wanted, hg, this hf, den, undef]
      · exact h.elim

/-- How many operations stand ahead of the first that acts. -/
def headN (E : List (Nat × ECtr)) : List Oper → Nat
  | [] => 0
  | o :: r => match isEff E [] o.op with
    | true => 0
    | false => headN E r + 1

def fsub (fr : List (Nat × SV)) : List (Nat × SV) → Prop
  | [] => True
  | (t, v) :: r => (withV (lookN fr t) fun u => den u = den v) ∧ fsub fr r
theorem fsub_sound {N : Nat} {fr : List (Nat × SV)} {a : Act} (hf : FrOk N fr a) : ∀ {F : List (Nat × SV)}, fsub fr F → FrOk N F a
  | [], _ => ⟨hf.size, hf.defers, fun t v h => by simp [lookN] at h⟩
  | (t, v) :: r, h => by
    obtain ⟨u, hu, he⟩ := withV_iff h.1
    have hr := fsub_sound hf h.2
    refine ⟨hf.size, hf.defers, fun s x hx => ?_⟩
    unfold lookN at hx
    split at hx
    · rename_i hb
      have : t = s := Nat.eq_of_beq_eq_true hb
      subst this
      cases hx
      rw [← he]; exact hf.slot t u hu
    · exact hr.slot s x hx


section
variable {P : Program}
theorem rounds_more {c : Code} {Q : Exit → Act → World → Prop} : ∀ {n m : Nat} {a : Act} {w : World}, Code.rounds P c Q n a w → n ≤ m → Code.rounds P c Q m a w
  | 0, _, _, _, h, _ => h.elim
  | n + 1, 0, _, _, _, hm => by omega
  | n + 1, m + 1, a, w, h, hm => by
    rw [rounds_succ] at h ⊢
    refine Code.wp_mono (fun e a w hq => ?_) h
    cases e with
    | normal => exact rounds_more hq (by omega)
    | _ => exact hq

end

/-! ### Functions -/
def argFr : Nat → List SV → List (Nat × SV)
  | _, [] => []
  | i, v :: vs => (i, v) :: argFr (i + 1) vs

def evRes1 (T : List (Nat × TyI)) (r : ResultVar) (fr : List (Nat × SV)) (hp : List HB) (K : SV → Prop) : Prop :=
  match r with
  | .tmp t => withV (lookN fr t) K
  | .cell a t => withV (lookN fr a) fun v => evLoad T t hp v K
def evRess (T : List (Nat × TyI)) : List ResultVar → List (Nat × SV) → List HB → (List SV → Prop) → Prop
  | [], _, _, K => K []
  | r :: rs, fr, hp, K => evRes1 T r fr hp fun v => evRess T rs fr hp fun vs => K (v :: vs)
def evRes (T : List (Nat × TyI)) (rs : List ResultVar) (fr : List (Nat × SV)) (hp : List HB) (K : SV → Prop) : Prop :=
  evRess T rs fr hp fun vs => match vs with
    | [v] => K v
    | vs => K (.tup vs)

/-- What a walk goes by. -/
structure Env (P : Program) where
  N : Nat
  T : List (Nat × TyI)
  G : List (Nat × Ctr)
  E : List (Nat × ECtr)
  rs : List ResultVar
  hT : TOk P T
  hG : GsOk P G
  hE : EsOk P E
  hm : P.follows .mixedOrders = true

inductive It where
  | c (x : Code)
  | b (id : Nat)
  | ops (full rest : List Oper)
  | q (full rest : List Oper) (hp : List HB)
  | lp (n : Nat) (x : Code)
  | k (K : List (Nat × SV) → List HB → Prop)
  | ret

section
variable {P : Program} (X : Env P) (w0 : World)

/-- What is asked behind a piece of code, by what is left to do. -/
def contQ : List It → (Exit → Act → World → Prop) → Exit → Act → World → Prop
  | [], Q => Q
  | .c x :: t, Q => Exit.then (x.wp P (contQ t Q)) (contQ t Q)
  | .b id :: t, Q => Exit.inBlock id (contQ t Q)
  | .ops full rest :: t, Q => Exit.then (wpList P full.toArray (contQ t Q) rest) (contQ t Q)
  | .q full rest hp :: t, Q => Exit.then (fun a _ => wpQuiet P full.toArray (fun w' => Holds w0 w' hp) (fun a' => ∀ w', Holds w0 w' hp → contQ t Q .normal a' w') rest a) (contQ t Q)
  | .lp n x :: t, Q => Exit.then (Code.rounds P x (contQ t Q) n) (contQ t Q)
  | .k K :: t, Q => Exit.then (fun a w => ∃ fr hp, K fr hp ∧ FrOk X.N fr a ∧ Holds w0 w hp) (contQ t Q)
  | .ret :: _, Q => fun _ => Q .ret
end

/-- The function's end. -/
def endQ {P : Program} (X : Env P) (R : SV → List HB → Prop) (w0 : World) : Exit → Act → World → Prop
  | .normal, a, w | .ret, a, w => ∃ fr hp, FrOk X.N fr a ∧ Holds w0 w hp ∧ evRes X.T X.rs fr hp fun v => R v hp
  | _, _, _ => False

/-- From the frame and the blocks on, all that is left to do goes well. -/
structure Wk {P : Program} (X : Env P) (R : SV → List HB → Prop) (todo : List It) (fr : List (Nat × SV)) (hp : List HB) : Prop where
  out : ∀ w0 a w, FrOk X.N fr a → Holds w0 w hp → contQ X w0 todo (endQ X R w0) .normal a w

section
variable {P : Program} {X : Env P} {R : SV → List HB → Prop} {t : List It} {fr : List (Nat × SV)} {hp : List HB}

def popTo (id : Nat) : List It → Option (List It)
  | [] => none
  | .b id' :: t => match Nat.beq id id' with
    | true => some t
    | false => popTo id t
  | .ret :: _ => none
  | _ :: t => popTo id t
theorem popTo_sound {id : Nat} {w0 : World} {Q : Exit → Act → World → Prop} {a : Act} {w : World} : ∀ {t t' : List It}, popTo id t = some t' → contQ X w0 t' Q .normal a w → contQ X w0 t Q (.exit id) a w
  | .b id' :: t, t', h, hq => by
    unfold popTo at h
    split at h
    · rename_i hb
      have : id = id' := Nat.eq_of_beq_eq_true hb
      subst this
      cases h
      simpa [contQ, Exit.inBlock] using hq
    · rename_i hb
      have hne : id ≠ id' := fun e => by subst e; rw [Nat.beq_refl] at hb; cases hb
      simpa [contQ, Exit.inBlock, hne] using popTo_sound h hq
  | .c x :: t, t', h, hq => popTo_sound (t := t) h hq
  | .ops _ _ :: t, t', h, hq => popTo_sound (t := t) h hq
  | .q _ _ _ :: t, t', h, hq => popTo_sound (t := t) h hq
  | .lp _ _ :: t, t', h, hq => popTo_sound (t := t) h hq
  | .k _ :: t, t', h, hq => popTo_sound (t := t) h hq

/-- One step that is no more than bookkeeping. -/
def stepI : List It → Option (List It)
  | .c (.seq x y) :: t => some (.c x :: .c y :: t)
  | .c .skip :: t => some t
  | .c (.block id x) :: t => some (.c x :: .b id :: t)
  | .b _ :: t => some t
  | .c (.region _ ops false) :: t => some (.ops ops.toList ops.toList :: t)
  | .ops _ [] :: t => some t
  | .c (.exit id) :: t => popTo id t
  | .c .ret :: _ => some [.ret]
  | .lp (n + 1) x :: t => some (.c x :: .lp n x :: t)
  | _ => none
theorem retQ {w0 : World} {Q : Exit → Act → World → Prop} {a : Act} {w : World} (h : Q .ret a w) : ∀ t : List It, contQ X w0 t Q .ret a w
  | [] => h
  | .c _ :: t | .b _ :: t | .ops _ _ :: t | .q _ _ _ :: t | .lp _ _ :: t | .k _ :: t => retQ (t := t) h
  | .ret :: _ => h
theorem stepI_sound {t t' : List It} (h : stepI t = some t') {w0 : World} {Q : Exit → Act → World → Prop} {a : Act} {w : World} (hq : contQ X w0 t' Q .normal a w) : contQ X w0 t Q .normal a w := by
  unfold stepI at h
  split at h
  · cases h; exact wp_seq hq
  · cases h; exact wp_skip hq
  · cases h; exact wp_block hq
  · cases h; simpa [contQ, Exit.inBlock] using hq
  · cases h; exact wp_region_lit (by simpa [contQ, Exit.then] using hq)
  · cases h; exact hq
  · exact wp_exit (popTo_sound h hq)
  · cases h; exact wp_ret (retQ hq _)
  · cases h; rw [contQ, Exit.then, rounds_succ]; exact hq
  · cases h

theorem Wk.step {t' : List It} (hs : stepI t = some t') (h : Wk X R t' fr hp) : Wk X R t fr hp := ⟨fun w0 a w hf hw => stepI_sound hs (h.out w0 a w hf hw)⟩

def norm : Nat → List It → List It
  | 0, t => t
  | n + 1, t => match stepI t with
    | some t' => norm n t'
    | none => t
theorem Wk.norm (n : Nat) (h : Wk X R (norm n t) fr hp) : Wk X R t fr hp := by
  induction n generalizing t with
  | zero => exact h
  | succ n ih =>
    unfold Sx.norm at h
    split at h
    · rename_i t' ht
      exact ⟨fun w0 a w hf hw => stepI_sound ht ((ih h).out w0 a w hf hw)⟩
    · exact h

theorem Wk.done (h : evRes X.T X.rs fr hp fun v => R v hp) : Wk X R [] fr hp := ⟨fun _ _ _ hf hw => ⟨fr, hp, hf, hw, h⟩⟩
theorem Wk.ret (h : evRes X.T X.rs fr hp fun v => R v hp) : Wk X R (.ret :: t) fr hp := ⟨fun _ _ _ hf hw => ⟨fr, hp, hf, hw, h⟩⟩
theorem Wk.k {K : List (Nat × SV) → List HB → Prop} (h : K fr hp) : Wk X R (.k K :: t) fr hp := ⟨fun _ _ _ hf hw => ⟨fr, hp, h, hf, hw⟩⟩

/-- An operation. -/
theorem Wk.op {full rest : List Oper} {o : Oper}
    (h : ∀ K' : List (Nat × SV) → List HB → Prop, (∀ fr hp, Wk X R (.ops full rest :: t) fr hp → K' fr hp) →
      guardB full o fr (fun fr => evE X.T X.G X.E o.op o.type fr hp fun v hp => putS X.N o.dst v fr fun fr => K' fr hp) (fun fr => putS X.N o.dst .und fr fun fr => K' fr hp)) : Wk X R (.ops full (o :: rest) :: t) fr hp := by
  have h := h _ fun _ _ h => h
  refine ⟨fun w0 a w hf hw => ?_⟩
  obtain ⟨fr', b, h, hb⟩ := guardB_sound (N := X.N) h
  obtain ⟨hf', hwant⟩ := hb a hf
  show wpList P full.toArray (contQ X w0 t (endQ X R w0)) (o :: rest) a w
  unfold wpList
  rw [hwant]
  cases b with
  | true =>
    simp only [if_true] at h ⊢
    refine .inl (evE_sound X.hT X.hG X.hE h hf' hw fun v hp' w' hp1 hw' => ?_)
    obtain ⟨fr'', h1, hput⟩ := putS_sound hp1
    exact h1.out w0 _ _ (hput a hf') hw'
  | false =>
    simp only [Bool.false_eq_true, if_false] at h ⊢
    obtain ⟨fr'', h1, hput⟩ := putS_sound h
    exact h1.out w0 _ _ (hput a hf') hw

/-- An operation of a quiet region. -/
theorem Wk.qop {full rest : List Oper} {o : Oper} {hq : List HB}
    (h : ∀ K' : List (Nat × SV) → Prop, (∀ fr, Wk X R (.q full rest hq :: t) fr hq → K' fr) →
      guardB full o fr (fun fr => evQ X.T X.G o.op o.type fr hq fun v => putS X.N o.dst v fr K') (fun fr => putS X.N o.dst .und fr K')) : Wk X R (.q full (o :: rest) hq :: t) fr hq := by
  have h := h _ fun _ h => h
  refine ⟨fun w0 a w hf hw => ?_⟩
  obtain ⟨fr', b, h, hb⟩ := guardB_sound (N := X.N) h
  obtain ⟨hf', hwant⟩ := hb a hf
  show wpQuiet P full.toArray (fun w' => Holds w0 w' hq) _ (o :: rest) a
  unfold wpQuiet
  rw [hwant]
  cases b with
  | true =>
    simp only [if_true] at h ⊢
    obtain ⟨v, hv, hy⟩ := evQ_sound (N := X.N) X.hT X.hG h
    obtain ⟨fr'', h1, hput⟩ := putS_sound hv
    exact ⟨den v, fun w hw => hy a w0 w hf' hw, h1.out w0 _ w (hput a hf') hw⟩
  | false =>
    simp only [Bool.false_eq_true, if_false] at h ⊢
    obtain ⟨fr'', h1, hput⟩ := putS_sound h
    exact h1.out w0 _ w (hput a hf') hw
theorem Wk.qnil {full : List Oper} {hq : List HB} (h : Wk X R t fr hq) : Wk X R (.q full [] hq :: t) fr hp := ⟨fun w0 a w hf _ w' hw' => h.out w0 a w' hf hw'⟩

/-- A region whose order is open. -/
def drawI (E : List (Nat × ECtr)) (l : List Oper) (hp : List HB) (t : List It) (K : List It → Prop) : Prop :=
  match Nat.blt (headN E l) l.length with
  | true => Region.lexTailB .any l.toArray (headN E l) = true ∧ K (.q l (l.take (headN E l)) hp :: .ops l (l.drop (headN E l)) :: t)
  | false => Region.lexB .any l.toArray = true ∧ K (.q l l hp :: t)
theorem Wk.draw {id : Nat} {ops : Array Oper} (h : ∀ K : List It → Prop, (∀ t', Wk X R t' fr hp → K t') → drawI X.E ops.toList hp t K) : Wk X R (.c (.region id ops true) :: t) fr hp := by
  have h := h _ fun _ h => h
  refine ⟨fun w0 a w hf hw => ?_⟩
  obtain ⟨l, rfl⟩ : ∃ l : List Oper, ops = l.toArray := ⟨ops.toList, by simp⟩
  simp only at h
  unfold drawI at h
  split at h
  · obtain ⟨hB, h⟩ := h
    exact wp_region_quiet_tail (C := fun w' => Holds w0 w' hp) _ X.hm hB hw.drew (h.out w0 a w hf hw)
  · obtain ⟨hB, h⟩ := h
    exact wp_region_quiet (C := fun w' => Holds w0 w' hp) X.hm hB hw.drew (h.out w0 a w hf hw)

def condB (fr : List (Nat × SV)) (c : Operand) (KT KF : List (Nat × SV) → Prop) : Prop :=
  match c with
  | .tmp s => match lookN fr s with
    | some (.bool .tt) => KT fr
    | some (.bool .ff) => KF fr
    | some (.bool f) => (f.H true → KT ((s, .bool .tt) :: fr)) ∧ (f.H false → KF ((s, .bool .ff) :: fr))
    | _ => False
  | .const (.bool true) => KT fr
  | .const (.bool false) => KF fr
  | _ => False
theorem Wk.cond {c : Operand} {x y : Code} (h : ∀ KT KF : List (Nat × SV) → Prop, (∀ fr, Wk X R (.c x :: t) fr hp → KT fr) → (∀ fr, Wk X R (.c y :: t) fr hp → KF fr) → condB fr c KT KF) : Wk X R (.c (.cond c x y) :: t) fr hp := by
  have h := h _ _ (fun _ h => h) fun _ h => h
  refine ⟨fun w0 a w hf hw => ?_⟩
  have at_ : ∀ {s : Nat} {v : SV}, lookN fr s = some v → a.eval (.tmp s) = den v := fun hs => ev_sound hf (x := .tmp _) hs
  unfold condB at h
  split at h
  · rename_i s
    split at h
    · rename_i hs; exact wp_cond_true (at_ hs) (h.out w0 a w hf hw)
    · rename_i hs; exact wp_cond_false (at_ hs) (h.out w0 a w hf hw)
    · rename_i f _ _ hs
      refine wp_cond_split (at_ hs) (fun hb => ?_) (fun hb => ?_)
      · exact (h.1 ((BF.H_iff f true).2 hb)).out w0 a w (hf.refine hs (by simp [den, hb, BF.b])) hw
      · exact (h.2 ((BF.H_iff f false).2 hb)).out w0 a w (hf.refine hs (by simp [den, hb, BF.b])) hw
    · exact h.elim
  · exact wp_cond_true rfl (h.out w0 a w hf hw)
  · exact wp_cond_false rfl (h.out w0 a w hf hw)
  · exact h.elim

/-- A loop, so many rounds. -/
theorem Wk.rounds {x : Code} (n : Nat) (h : Wk X R (.lp n x :: t) fr hp) : Wk X R (.c (.loop x) :: t) fr hp := ⟨fun w0 a w hf hw => wp_loop_rounds n (h.out w0 a w hf hw)⟩

/-- A loop by what holds at its head. -/
theorem Wk.inv {x : Code} {ι : Type} (I : ι → Prop) (F : ι → List (Nat × SV)) (H : ι → List HB) (μ : ι → Nat) (h0 : ∃ i, I i ∧ fsub fr (F i) ∧ hsub (H i) hp)
    (hr : ∀ i, I i → Wk X R (.c x :: .k (fun fr' hp' => ∃ j, I j ∧ μ j < μ i ∧ fsub fr' (F j) ∧ hsub (H j) hp') :: t) (F i) (H i)) : Wk X R (.c (.loop x) :: t) fr hp := by
  refine ⟨fun w0 a w hf hw => ?_⟩
  obtain ⟨i, hi, hfs, hhs⟩ := h0
  have key : ∀ (m : Nat) (i : ι) (a : Act) (w : World), μ i = m → I i → FrOk X.N (F i) a → Holds w0 w (H i) → Code.rounds P x (contQ X w0 t (endQ X R w0)) (m + 1) a w := by
    intro m
    induction m using Nat.strongRecOn with
    | _ m ih =>
      intro i a w hm hi hf hw
      rw [rounds_succ]
      refine Code.wp_mono (fun e a' w' hK => ?_) ((hr i hi).out w0 a w hf hw)
      cases e with
      | normal =>
        obtain ⟨fr', hp', ⟨j, hj, hlt, hfs, hhs⟩, hf', hw'⟩ := hK
        exact rounds_more (ih (μ j) (hm ▸ hlt) j a' w' rfl hj (fsub_sound hf' hfs) (hw'.sub hhs)) (by omega)
      | _ => exact hK
  exact wp_loop_rounds _ (key (μ i) i a w rfl hi (fsub_sound hf hfs) (hw.sub hhs))
end

section
variable {P : Program} {T : List (Nat × TyI)} {G : List (Nat × Ctr)} {E : List (Nat × ECtr)} {N : Nat}
def resV (tmps : Array Value) : ResultVar → Sem Value
  | .tmp t => pure (tmps.getD t undef)
  | .cell a t => do loadVar t (← asAddr (tmps.getD a undef))

theorem evResOne_sound (hT : TOk P T) {r : ResultVar} {fr : List (Nat × SV)} {hp : List HB} {K : SV → Prop} (h : evRes1 T r fr hp K) :
    ∃ v, K v ∧ ∀ a w0 w, FrOk N fr a → Holds w0 w hp → (resV a.tmps r).run P w = .ok (den v) w := by
  unfold evRes1 at h
  split at h
  · rename_i t
    obtain ⟨v, hv, h⟩ := withV_iff h
    exact ⟨v, h, fun a w0 w hf hw => by simp [resV, Array.getD_eq_getD_getElem?, hf.slot t v hv]⟩
  · rename_i x t
    obtain ⟨xv, hx, h⟩ := withV_iff h
    have hp' : ∃ i nm o, xv = .ptr i nm o := by
      cases xv <;> first | exact ⟨_, _, _, rfl⟩ | exact h.elim
    obtain ⟨i, nm, o, rfl⟩ := hp'
    obtain ⟨v, hK, hr⟩ := evLoad_sound hT h
    refine ⟨v, hK, fun a w0 w hf hw => ?_⟩
    have := hr w0 w hw
    simp only [Instr.loadAt, den, Instr.sureAddr, Sem.run_bind, Sem.run_pure, Result.andThen_ok] at this
    simp [resV, Array.getD_eq_getD_getElem?, hf.slot x _ hx, den, asAddr, this]
theorem evRess_sound (hT : TOk P T) {fr : List (Nat × SV)} {hp : List HB} : ∀ {rs : List ResultVar} {K : List SV → Prop}, evRess T rs fr hp K →
    ∃ vs, K vs ∧ ∀ a w0 w, FrOk N fr a → Holds w0 w hp → (rs.mapM (resV a.tmps)).run P w = .ok (denL vs) w
  | [], K, h => ⟨[], h, fun a w0 w _ _ => by simp [denL]⟩
  | r :: rs, K, h => by
    obtain ⟨v, h, h1⟩ := evResOne_sound (N := N) hT h
    obtain ⟨vs, h, h2⟩ := evRess_sound hT h
    exact ⟨v :: vs, h, fun a w0 w hf hw => by simp [List.mapM_cons, h1 a w0 w hf hw, h2 a w0 w hf hw, denL]⟩
theorem evRes_sound (hT : TOk P T) {fn : Func} {fr : List (Nat × SV)} {hp : List HB} {K : SV → Prop} (h : evRes T fn.results.toList fr hp K) :
    ∃ v, K v ∧ ∀ a w0 w, FrOk N fr a → Holds w0 w hp → (results fn a.tmps).run P w = .ok (den v) w := by
  obtain ⟨vs, h, hr⟩ := evRess_sound (N := N) hT h
  have hrun : ∀ a w0 w, FrOk N fr a → Holds w0 w hp → (fn.results.mapM (resV a.tmps)).run P w = .ok (denL vs).toArray w := fun a w0 w hf hw => by
    rw [Array.mapM_eq_mapM_toList]
    simp [hr a w0 w hf hw]
  have hres : ∀ a w0 w, FrOk N fr a → Holds w0 w hp → (results fn a.tmps).run P w = .ok (if h : (denL vs).toArray.size = 1 then (denL vs).toArray[0] else .tuple (denL vs).toArray) w := fun a w0 w hf hw => by
    have := hrun a w0 w hf hw
    unfold results
    rw [Sem.run_bind]
    have e : (fun x => match x with
      | .tmp t => pure (a.tmps.getD t undef)
      | .cell b t => do let x ← asAddr (a.tmps.getD b undef); loadVar t x) = resV a.tmps := by
      funext x; cases x <;> rfl
    erw [e, this]
    rfl
  split at h
  · rename_i v
    exact ⟨v, h, fun a w0 w hf hw => by rw [hres a w0 w hf hw]; simp [denL]⟩
  · rename_i hvs
    refine ⟨_, h, fun a w0 w hf hw => ?_⟩
    rw [hres a w0 w hf hw, dif_neg]
    · simp [den]
    · intro hs
      match vs, hvs, hs with
      | [], _, hs => simp [denL] at hs
      | [v], hvs, _ => exact hvs v rfl
      | _ :: _ :: _, _, hs => simp [denL] at hs

theorem argFr_look : ∀ (vs : List SV) (i t : Nat) (v : SV), lookN (argFr i vs) t = some v → i ≤ t ∧ vs[t - i]? = some v
  | [], i, t, v, h => by simp [argFr, lookN] at h
  | u :: us, i, t, v, h => by
    unfold argFr lookN at h
    split at h
    · rename_i hb
      have : i = t := Nat.eq_of_beq_eq_true hb
      subst this
      cases h
      simp
    · rename_i hb
      obtain ⟨h1, h2⟩ := argFr_look us (i + 1) t v h
      refine ⟨by omega, ?_⟩
      rw [show t - i = (t - (i + 1)) + 1 by omega]
      simpa using h2


theorem calls_of_wk {P : Program} (X : Env P) {f : FuncId} {fn : Func} {c : Code} (hf : P.funcs[f]? = some fn) (hb : fn.body = some c) (hN : fn.ntmps = X.N) (hrs : fn.results.toList = X.rs)
    {args : List SV} {hp : List HB} {R : SV → List HB → Prop} (hn : args.length ≤ X.N) (h : Wk X R [.c c] (argFr 0 args) hp) {w0 w : World} (hw : Holds w0 w hp) :
    Calls P f (denL args).toArray w fun e w' => ∃ v hp', R v hp' ∧ e = .returned (den v) ∧ Holds w0 w' hp' := by
  refine calls_of_wp hf hb ?_
  have h0 := h.out w0 { tmps := (denL args).toArray ++ Array.replicate (fn.ntmps - (denL args).toArray.size) undef, defers := [] } w ⟨by simp [denL_map]; omega, rfl, fun t v ht => ?_⟩ hw
  · refine Code.wp_mono (fun e a' w' hK => ?_) h0
    have fin : (∃ fr hp, FrOk X.N fr a' ∧ Holds w0 w' hp ∧ evRes X.T X.rs fr hp fun v => R v hp) → a'.defers = [] ∧ ∃ v, (results fn a'.tmps).run P w' = .ok v w' ∧ ∃ v' hp', R v' hp' ∧ Ending.returned v = .returned (den v') ∧ Holds w0 w' hp' := fun ⟨fr', hp', hf', hw', hK⟩ => by
      rw [← hrs] at hK
      obtain ⟨v, hv, hr⟩ := evRes_sound (N := X.N) X.hT hK
      exact ⟨hf'.defers, _, hr a' w0 w' hf' hw', v, hp', hv, rfl, hw'⟩
    cases e with
    | normal => exact fin hK
    | ret => exact fin hK
    | _ => exact (hK : False).elim
  · obtain ⟨_, h2⟩ := argFr_look args 0 t v ht
    rw [Nat.sub_zero] at h2
    have hlt : t < args.length := (List.getElem?_eq_some_iff.1 h2).1
    rw [Array.getElem?_append_left (by simpa [denL_map] using hlt)]
    simp [denL_map, h2]

/-- All that may be written is our own. -/
def allOwn : List HB → Prop
  | [] => True
  | b :: r => (b.wr = true → b.own = true) ∧ allOwn r
theorem allOwn_mem : ∀ {hp : List HB}, allOwn hp → ∀ b ∈ hp, b.wr = true → b.own = true
  | _ :: _, h, b, hb => by
    rcases List.mem_cons.1 hb with rfl | hb
    · exact h.1
    · exact allOwn_mem h.2 b hb

/-- Only to be read. -/
def allRo : List HB → Prop
  | [] => True
  | b :: r => (b.wr = false ∧ b.own = false) ∧ allRo r
theorem allRo_mem : ∀ {hp : List HB}, allRo hp → ∀ b ∈ hp, b.wr = false ∧ b.own = false
  | _ :: _, h, b, hb => by
    rcases List.mem_cons.1 hb with rfl | hb
    · exact h.1
    · exact allRo_mem h.2 b hb
theorem Holds.ofRo' {w : World} {hp : List HB} (h : ∀ b ∈ hp, b.ok w) (hr : allRo hp) : Holds w w hp :=
  ⟨rfl, rfl, rfl, Nat.le_refl _, fun _ _ _ => rfl, h, fun b hb ho => (by rw [(allRo_mem hr b hb).2] at ho; cases ho),
   fun i j bi bj hi _ hw _ _ => (by rw [(allRo_mem hr bi (List.mem_of_getElem? hi)).1] at hw; cases hw)⟩

/-- A contract without an effect, out of the body. -/
theorem ctr_of_wk {P : Program} (X : Env P) {f : FuncId} {fn : Func} {code : Code} (hf : P.funcs[f]? = some fn) (hb : fn.body = some code)
    (hname : (fn.name == "runtime.NumGoroutine") = false) (hN : fn.ntmps = X.N) (hrs : fn.results.toList = X.rs) {c : Ctr}
    (h : ∀ (args : List SV) (hp : List HB) (K : SV → Prop), c args hp K → ∃ (args' : List SV) (hp0 : List HB) (r : SV), denL args' = denL args ∧ allRo hp0 ∧ (∀ w, (∀ b ∈ hp, b.ok w) → ∀ b ∈ hp0, b.ok w) ∧ K r ∧
      args'.length ≤ X.N ∧ Wk X (fun v hp' => den v = den r ∧ allOwn hp') [.c code] (argFr 0 args') hp0) : COk P f c :=
  ⟨⟨fn, hf, hname, by rw [hb]; rfl⟩, fun args hp K hc => by
    obtain ⟨args', hp0, r, ha, hro, hsub, hK, hn, hv⟩ := h args hp K hc
    refine ⟨r, hK, fun w0 w hw => ?_⟩
    rw [← ha]
    refine (calls_of_wk X hf hb hN hrs hn hv (Holds.ofRo' (hsub w hw.blk) hro)).mono fun e w' ⟨v, hp', ⟨h1, h2⟩, he, hw'⟩ => ?_
    exact ⟨by rw [he, h1], hw'.toBelow (allOwn_mem h2)⟩⟩

/-! ### Arguments, taken apart -/
def i1 (x : SV) (K : Int → Prop) : Prop :=
  match x.num with
  | some (.i64, n) => K n
  | _ => False
theorem iff_i1 {x : SV} {K : Int → Prop} (h : i1 x K) : ∃ n, K n ∧ den x = .int .i64 n := by
  unfold i1 at h
  split at h
  · rename_i n hx; exact ⟨n, h, SV.num_den hx⟩
  · exact h.elim
def b1 (x : SV) (K : Bool → Prop) : Prop :=
  match x with
  | .bool f => K f.b
  | _ => False
theorem iff_b1 {x : SV} {K : Bool → Prop} (h : b1 x K) : ∃ b, K b ∧ den x = .bool b := by
  unfold b1 at h
  split at h
  · exact ⟨_, h, rfl⟩
  · exact h.elim
def c1 (x : SV) (K : Cel → Prop) : Prop :=
  match x with
  | .agg [a, b, c, d] => i1 a fun a => i1 b fun b => i1 c fun c => i1 d fun d => K ⟨a, b, c, d⟩
  | _ => False
theorem iff_c1 {x : SV} {K : Cel → Prop} (h : c1 x K) : ∃ c : Cel, K c ∧ den x = den c.sv := by
  unfold c1 at h
  split at h
  · obtain ⟨a, h, ha⟩ := iff_i1 h
    obtain ⟨b, h, hb⟩ := iff_i1 h
    obtain ⟨c, h, hc⟩ := iff_i1 h
    obtain ⟨d, h, hd⟩ := iff_i1 h
    exact ⟨_, h, by simp [den, denL, ha, hb, hc, hd, Cel.sv]⟩
  · exact h.elim
def r1 (x : SV) (K : Rul → Prop) : Prop :=
  match x with
  | .agg [a, b] => i1 a fun a => i1 b fun b => K ⟨a, b⟩
  | _ => False
theorem iff_r1 {x : SV} {K : Rul → Prop} (h : r1 x K) : ∃ r : Rul, K r ∧ den x = den r.sv := by
  unfold r1 at h
  split at h
  · obtain ⟨a, h, ha⟩ := iff_i1 h
    obtain ⟨b, h, hb⟩ := iff_i1 h
    exact ⟨_, h, by simp [den, denL, ha, hb, Rul.sv]⟩
  · exact h.elim

theorem lexB_goal {l : Array Oper} (h : Region.lexB .any l = true) : Region.lexB .any l = true := h
theorem lexT_goal {l : Array Oper} {n : Nat} (h : Region.lexTailB .any l n = true) : Region.lexTailB .any l n = true := h

/-! Blocks that a callee reads. -/
def ViewOk (hp : List HB) (b0 : HB) : Prop := ∀ w, (∀ b ∈ hp, b.ok w) → b0.ok w

/-- A pointer to two numbers. -/
def p2 (x : SV) (hp : List HB) (K : Rul → Prop) : Prop :=
  match x with
  | .ptr i nm o => match hp[i]? with
    | some b => b.nm = nm ∧ o + 2 ≤ b.cts.n ∧ i1 (b.cts.get (o + 0)) fun x => i1 (b.cts.get (o + 1)) fun y => K ⟨x, y⟩
    | none => False
  | _ => False
theorem iff_p2 {x : SV} {hp : List HB} {K : Rul → Prop} (h : p2 x hp K) : ∃ (r : Rul) (nm : Nm) (ty : TypeId), K r ∧ den (.ptr 0 nm 0) = den x ∧ ViewOk hp ⟨nm, false, false, ty, .l [.int .i64 r.k, .int .i64 r.b]⟩ := by
  unfold p2 at h
  split at h
  · rename_i i nm o
    split at h
    · rename_i b hb
      obtain ⟨rfl, hn, h⟩ := h
      obtain ⟨x, h, e0⟩ := iff_i1 h
      obtain ⟨y, h, e1⟩ := iff_i1 h
      refine ⟨_, ⟨b.nm.g, b.nm.b + o⟩, b.ty, h, rfl, fun w hw => (hw b (List.mem_of_getElem? hb)).view rfl _ o rfl hn fun j hj => ?_⟩
      have : j < 2 := hj
      match j, this with
      | 0, _ => exact e0
      | 1, _ => exact e1
    · exact h.elim
  · exact h.elim

/-- A slice over an array of four. -/
def s4 (x : SV) (hp : List HB) (K : Cel → Prop) : Prop :=
  match x with
  | .sl i (some nm) o len _ => match hp[i]? with
    | some b => b.nm = nm ∧ len = 4 ∧ o + 4 ≤ b.cts.n ∧ i1 (b.cts.get (o + 0)) fun x0 => i1 (b.cts.get (o + 1)) fun x1 => i1 (b.cts.get (o + 2)) fun x2 => i1 (b.cts.get (o + 3)) fun x3 => K ⟨x0, x1, x2, x3⟩
    | none => False
  | _ => False
theorem iff_s4 {x : SV} {hp : List HB} {K : Cel → Prop} (h : s4 x hp K) : ∃ (c : Cel) (nm : Nm) (cap : Nat) (ty : TypeId), K c ∧ den (.sl 0 (some nm) 0 4 cap) = den x ∧
    ViewOk hp ⟨nm, false, false, ty, .l [.int .i64 c.e, .int .i64 c.n, .int .i64 c.w, .int .i64 c.s]⟩ := by
  unfold s4 at h
  split at h
  · rename_i i nm o len cap
    split at h
    · rename_i b hb
      obtain ⟨rfl, rfl, hn, h⟩ := h
      obtain ⟨x0, h, e0⟩ := iff_i1 h
      obtain ⟨x1, h, e1⟩ := iff_i1 h
      obtain ⟨x2, h, e2⟩ := iff_i1 h
      obtain ⟨x3, h, e3⟩ := iff_i1 h
      refine ⟨_, ⟨b.nm.g, b.nm.b + o⟩, cap, b.ty, h, rfl, fun w hw => (hw b (List.mem_of_getElem? hb)).view rfl _ o rfl hn fun j hj => ?_⟩
      have : j < 4 := hj
      match j, this with
      | 0, _ => exact e0
      | 1, _ => exact e1
      | 2, _ => exact e2
      | 3, _ => exact e3
    · exact h.elim
  · exact h.elim

/-- A slice of rules, whole. -/
def lr (x : SV) (hp : List HB) (K : List Rul → Prop) : Prop :=
  match x with
  | .nilsl => K []
  | .sl i a o len _ => match hp[i]? with
    | some b => match b.cts with
      | .rx xs => (0 < xs.length → a = some b.nm) ∧ o = 0 ∧ len = xs.length ∧ K xs
      | _ => False
    | none => False
  | _ => False
theorem iff_lr {x : SV} {hp : List HB} {K : List Rul → Prop} (h : lr x hp K) : ∃ (xs : List Rul) (a : Option Nm) (cap : Nat) (ty : TypeId), K xs ∧ den (.sl 0 a 0 xs.length cap) = den x ∧ (0 < xs.length → a.isSome = true) ∧
    ViewOk hp ⟨a.getD ⟨0, 0⟩, false, false, ty, .rx xs⟩ := by
  unfold lr at h
  split at h
  · exact ⟨[], none, 0, 0, h, rfl, fun h => absurd h (Nat.lt_irrefl 0), fun w _ => (if_neg (by simp)).mpr fun o ho => absurd ho (by simp [Cts.n])⟩
  · rename_i i a o len cap
    split at h
    · rename_i b hb
      split at h
      · rename_i xs hx
        obtain ⟨ha, rfl, rfl, h⟩ := h
        refine ⟨xs, a, cap, b.ty, h, rfl, fun hl => by rw [ha hl]; rfl, fun w hw => ?_⟩
        by_cases hl : 0 < xs.length
        · rw [ha hl]
          exact (hw b (List.mem_of_getElem? hb)).view (g := b.nm.g) (b0 := b.nm.b) rfl (.rx xs) 0 rfl (by rw [Nat.zero_add, hx]; exact Nat.le_refl _) fun j hj => by rw [hx, Nat.zero_add]
        · have : xs = [] := List.eq_nil_of_length_eq_zero (by omega)
          subst this
          exact (if_neg (by simp)).mpr fun o ho => absurd ho (by simp [Cts.n])
      · exact h.elim
    · exact h.elim
  · exact h.elim
end
end Go.Sx
