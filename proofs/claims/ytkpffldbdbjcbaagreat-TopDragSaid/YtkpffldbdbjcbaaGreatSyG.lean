/- Code, functions: what is left to do, from a frame and blocks on. -/
import Derived.Test.YtkpffldbdbjcbaaGreatSyF
import Derived.LoopNIn
import Derived.TacticsIn
set_option linter.unusedSimpArgs false
set_option linter.unusedVariables false
namespace Go.Sy
open Go.RowKit

/-! ### In a round of a loop over a function, or not -/
def fw (r : Option Nat) : Fence := { Fence.wide with round := r }
theorem calls_fw {P : Program} {f : FuncId} {args : Array Value} {w : World} {R : Ending → World → Prop} (r : Option Nat) (n : Nat) (h : Calls P f args w R) : CallsIn (fw r) n P f args w R := by
  have h1 : CallsIn Fence.wide n P f args w R := callsIn_wide.2 h
  exact h1
theorem rows_fw {P : Program} {row : String} {args : Array Value} {w : World} {R : Value → World → Prop} (r : Option Nat) (n : Nat) (h : Rows P row args w R) : RowsIn (fw r) n P row args w R := fun c cs _ => by
  obtain ⟨v, w', hr, hs⟩ := h c cs
  have := stepsIn_wide.2 hs
  exact ⟨v, w', hr, this⟩
theorem upon_fw {P : Program} {o : Oper} {a : Act} {next : Act → World → Prop} {Q : Exit → Act → World → Prop} (r : Option Nat) : ∀ {res : Result Next}, o.upon P a next Q res → o.uponIn (fw r) 0 P a next Q res
  | .ok (.value v) w', h => h
  | .ok .skip w', h => h
  | .ok (.defer d) w', h => h
  | .ok (.enter f args) w', h => ⟨fun h => (by cases h), calls_fw r _ h⟩
  | .ok (.row row args) w', h => ⟨fun h => (by cases h), rows_fw r _ h⟩
  | .halt (.panic v) w', h => h
  | .ok (.round ..) _, h => h.elim
  | .ok (.spawn ..) _, h => h.elim
  | .halt .goexit _, h | .halt .blocked _, h | .halt .waiting _, h | .halt (.exit _) _, h | .halt (.fatal _) _, h | .halt (.throw _) _, h | .halt (.unsupported _) _, h | .halt (.stuck _) _, h => h.elim
def noDef (o : Oper) : Bool :=
  match o.op with
  | .defer _ => false
  | _ => true
theorem semAt_fw {o : Oper} (h : noDef o = true) (r : Option Nat) (ρ : Operand → Value) : Oper.semAt r ρ o = execOp ρ o := by
  cases r with
  | none => rfl
  | some l => exact Oper.semAt_some l ρ o fun c hc => by unfold noDef at h; rw [hc] at h; cases h
theorem wp_fw {P : Program} {o : Oper} {a : Act} {w : World} {next : Act → World → Prop} {Q : Exit → Act → World → Prop} (r : Option Nat) (hd : noDef o = true) (h : o.wp P a w next Q) : o.wpIn (fw r) 0 P a w next Q :=
  ⟨fun _ _ => trivial, by rw [show (fw r).round = r from rfl, semAt_fw hd]; exact upon_fw r h⟩
theorem ops_fw {P : Program} {ops : Array Oper} {Q : Exit → Act → World → Prop} (r : Option Nat) (hd : ∀ (i : Nat) o, ops[i]? = some o → noDef o = true) (hQ : ¬ LetsOut Q) : ∀ (l : List Nat) (a : Act) (w : World), wpOps P ops Q l a w → wpOpsIn (fw r) 0 P ops Q l a w
  | [], a, w, h => h
  | i :: l, a, w, h => by
    simp only [wpOps] at h
    simp only [wpOpsIn]
    cases ho : ops[i]? with
    | none => simp only [ho] at h ⊢; exact ops_fw r hd hQ l a w h
    | some o =>
      simp only [ho] at h ⊢
      by_cases hw : Region.wanted o (yielded ops a.tmps) = true
      · simp only [hw, if_true] at h ⊢
        rcases h with h | h
        · exact wp_fw r (hd i o ho) (Oper.wp_mono (fun a w h => ops_fw r hd hQ l a w h) h)
        · exact absurd h.2 hQ
      · simp only [hw, if_false, Bool.false_eq_true] at h ⊢
        exact ⟨fun _ _ => trivial, ops_fw r hd hQ l _ w h⟩

/-! ### Guards, frames -/
def putS (N : Nat) (d : Option Tmp) (v : SV) (fr : List (Nat × SV)) (K : List (Nat × SV) → Prop) : Prop :=
  match d with
  | none => K fr
  | some t => match Nat.blt t N with
    | true => K ((t, v) :: fr)
    | false => False
theorem putS_sound {N : Nat} {ds : List Nat} {d : Option Tmp} {v : SV} {fr : List (Nat × SV)} {K : List (Nat × SV) → Prop} (h : putS N d v fr K) : ∃ fr', K fr' ∧ ∀ a, FrOk N ds fr a → FrOk N ds fr' (a.put d (den v)) := by
  unfold putS at h
  split at h
  · exact ⟨fr, h, fun a hf => hf⟩
  · rename_i t
    split at h
    · rename_i hb
      have hlt : t < N := Nat.le_of_ble_eq_true hb
      refine ⟨_, h, fun a hf => ⟨by simp [Act.put, hf.size], hf.defers, fun u x hx => ?_⟩⟩
      unfold lookN at hx
      split at hx
      · rename_i he
        have : t = u := Nat.eq_of_beq_eq_true he
        subst this
        cases hx
        simp [Act.put, hf.size, hlt]
      · rename_i he
        have hne : t ≠ u := fun e => he (by subst e; exact Nat.beq_refl t)
        simp only [Act.put, Array.getElem?_setIfInBounds, if_neg hne]
        exact hf.slot u x hx
    · exact h.elim

def guardB (full : List Oper) (o : Oper) (fr : List (Nat × SV)) (KT KF : List (Nat × SV) → Prop) : Prop :=
  match o.guard with
  | none => KT fr
  | some (j, want) =>
    match (full[j]?).bind (·.dst) with
    | none => KF fr
    | some t =>
      match lookN fr t with
      | some (.bool .tt) => match want with
        | true => KT fr
        | false => KF fr
      | some (.bool .ff) => match want with
        | true => KF fr
        | false => KT fr
      | some (.bool f) => match want with
        | true => (f.H true → KT ((t, .bool .tt) :: fr)) ∧ (f.H false → KF ((t, .bool .ff) :: fr))
        | false => (f.H true → KF ((t, .bool .tt) :: fr)) ∧ (f.H false → KT ((t, .bool .ff) :: fr))
      | some .und => KF fr
      | _ => False

theorem FrOk.refine {N : Nat} {ds : List Nat} {fr : List (Nat × SV)} {a : Act} (hf : FrOk N ds fr a) {t : Nat} {u v : SV} (hu : lookN fr t = some u) (hd : den u = den v) : FrOk N ds ((t, v) :: fr) a :=
  ⟨hf.size, hf.defers, fun s x hx => by
    unfold lookN at hx
    split at hx
    · rename_i he
      have : t = s := Nat.eq_of_beq_eq_true he
      subst this
      cases hx
      rw [← hd]; exact hf.slot t u hu
    · exact hf.slot s x hx⟩

theorem guardB_sound {N : Nat} {ds : List Nat} {full : List Oper} {o : Oper} {fr : List (Nat × SV)} {KT KF : List (Nat × SV) → Prop} (h : guardB full o fr KT KF) :
    ∃ fr' b, (if b then KT fr' else KF fr') ∧ ∀ a, FrOk N ds fr a → FrOk N ds fr' a ∧ Region.wanted o (yielded full.toArray a.tmps) = b := by
  have yl : ∀ {j : Nat} {t : Nat} {a : Act} {v : SV}, (full[j]?).bind (·.dst) = some t → FrOk N ds fr a → lookN fr t = some v → yielded full.toArray a.tmps j = (match den v with | .bool b => some b | _ => none) := fun {j t a v} hj hf hv => by
    have := hf.slot t v hv
    unfold yielded
    simp only [List.getElem?_toArray, hj, Option.bind_some, this]
    cases den v <;> rfl
  unfold guardB at h
  split at h
  · rename_i hg; exact ⟨fr, true, h, fun a hf => ⟨hf, by simp [Region.wanted, hg]⟩⟩
  · rename_i j want hg
    split at h
    · rename_i hj
      refine ⟨fr, false, h, fun a hf => ⟨hf, ?_⟩⟩
      have : yielded full.toArray a.tmps j = none := by
        unfold yielded
        simp only [List.getElem?_toArray, hj, Option.bind_none]
      simp [Region.wanted, hg, this]
    · rename_i t hj
      split at h
      · rename_i hl
        have := fun {a : Act} (hf : FrOk N ds fr a) => yl hj hf hl
        cases want
        · exact ⟨fr, false, h, fun a hf => ⟨hf, by simp [Region.wanted, hg, this hf, den, BF.b]⟩⟩
        · exact ⟨fr, true, h, fun a hf => ⟨hf, by simp [Region.wanted, hg, this hf, den, BF.b]⟩⟩
      · rename_i hl
        have := fun {a : Act} (hf : FrOk N ds fr a) => yl hj hf hl
        cases want
        · exact ⟨fr, true, h, fun a hf => ⟨hf, by simp [Region.wanted, hg, this hf, den, BF.b]⟩⟩
        · exact ⟨fr, false, h, fun a hf => ⟨hf, by simp [Region.wanted, hg, this hf, den, BF.b]⟩⟩
      · rename_i f _ _ hl
        have := fun {a : Act} (hf : FrOk N ds fr a) => yl hj hf hl
        cases hb : f.b with
        | true =>
          have hd : den (SV.bool f) = den (SV.bool .tt) := by simp [den, hb, BF.b]
          have hH := (BF.H_iff f true).2 hb
          cases want
          · exact ⟨_, false, h.1 hH, fun a hf => ⟨hf.refine hl hd, by simp [Region.wanted, hg, this hf, den, hb]⟩⟩
          · exact ⟨_, true, h.1 hH, fun a hf => ⟨hf.refine hl hd, by simp [Region.wanted, hg, this hf, den, hb]⟩⟩
        | false =>
          have hd : den (SV.bool f) = den (SV.bool .ff) := by simp [den, hb, BF.b]
          have hH := (BF.H_iff f false).2 hb
          cases want
          · exact ⟨_, true, h.2 hH, fun a hf => ⟨hf.refine hl hd, by simp [Region.wanted, hg, this hf, den, hb]⟩⟩
          · exact ⟨_, false, h.2 hH, fun a hf => ⟨hf.refine hl hd, by simp [Region.wanted, hg, this hf, den, hb]⟩⟩
      · rename_i hl
        have := fun {a : Act} (hf : FrOk N ds fr a) => yl hj hf hl
        refine ⟨fr, false, h, fun a hf => ⟨hf, ?_⟩⟩
        simp [Region.wanted, hg, this hf, den, undef]
      · exact h.elim

def fsub (fr : List (Nat × SV)) : List (Nat × SV) → Prop
  | [] => True
  | (t, v) :: r => (withV (lookN fr t) fun u => den u = den v) ∧ fsub fr r
theorem fsub_sound {N : Nat} {ds : List Nat} {fr : List (Nat × SV)} {a : Act} (hf : FrOk N ds fr a) : ∀ {F : List (Nat × SV)}, fsub fr F → FrOk N ds F a
  | [], _ => ⟨hf.size, hf.defers, fun t v h => by simp [lookN] at h⟩
  | (t, v) :: r, h => by
    obtain ⟨u, hu, he⟩ := withV_iff h.1
    have hr := fsub_sound hf h.2
    refine ⟨hf.size, hf.defers, fun s x hx => ?_⟩
    unfold lookN at hx
    split at hx
    · rename_i hb
      have : t = s := Nat.eq_of_beq_eq_true hb
      subst this
      cases hx
      rw [← he]; exact hf.slot t u hu
    · exact hr.slot s x hx

/-! ### What is left to do -/
/-- What a walk goes by. -/
structure Env (P : Program) where
  N : Nat
  T : List (Nat × TyI)
  G : List (Nat × Ctr)
  E : List (Nat × ECtr)
  rs : List ResultVar
  pl : List (Nat × Plan)
  hT : TOk P T
  hG : GsOk P G
  hE : EsOk P E
  hm : P.follows .mixedOrders = true

inductive It where
  | c (x : Code)
  | b (id : Nat)
  | ops (full rest : List Oper)
  | rg (full : List Oper) (ls : List Nat) (p : Plan)
  | xq (full : List Oper) (lsF : List Nat) (js : List Nat) (as : List (Nat × TypeId × Cts)) (hp : List HB) (p : Plan)
  | lp (n : Nat) (x : Code)
  | k (ds : List Nat) (K : List (Nat × SV) → List HB → Prop)
  | br (l : Nat)
  | rs (full : List Oper) (T : List Nat) (H : List (Nat × Option (Nat × HB))) (ls : List Nat) (p : Plan)
  | kd (K : List Nat → List (Nat × SV) → List HB → Prop)

section
variable {P : Program} (X : Env P) (r : Option Nat) (w0 : World)

def RGc (P : Program) (full : List Oper) (Q : Exit → Act → World → Prop) (ls : List Nat) (p : Plan) (a : Act) (w : World) : Prop :=
  Region.noSelect full.toArray = true → Down full.toArray (listedOf full.toArray.size ls) → p.ok full.toArray ls = true → RG P full.toArray Q ls a w

def obL : Option (Nat × HB) → List HB
  | some b => [b.2]
  | none => []
def toH (H : List (Nat × Option (Nat × HB))) : List (Nat × List HB) := H.map fun x => (x.1, obL x.2)
def RSc (P : Program) (full : List Oper) (Q : Exit → Act → World → Prop) (T : List Nat) (H : List (Nat × Option (Nat × HB))) (ls : List Nat) (p : Plan) (a : Act) (w : World) : Prop :=
  Region.noSelect full.toArray = true → Down full.toArray (listedOf full.toArray.size ls) → p.ok full.toArray ls = true → p.takes T = true → SS full.toArray T (toH H) (listedOf full.toArray.size ls) w → RS P full.toArray Q T (toH H) ls a w

/-- What is asked behind a piece of code, by what is left to do. -/
def contQ : List It → (Exit → Act → World → Prop) → Exit → Act → World → Prop
  | [], Q => Q
  | .c x :: t, Q => Exit.then (x.wpIn (fw r) 0 P (contQ t Q)) (contQ t Q)
  | .b id :: t, Q => Exit.inBlock id (contQ t Q)
  | .ops full rest :: t, Q => Exit.then (wpListIn (fw r) 0 P full.toArray (contQ t Q) rest) (contQ t Q)
  | .rg full ls p :: t, Q => Exit.then (RGc P full (contQ t Q) ls p) (contQ t Q)
  | .xq full lsF js as hp p :: t, Q => Exit.then (fun a _ => Can P full.toArray (fun hp a => ∀ w, Holds w0 w hp → RGc P full (contQ t Q) lsF p a w) as hp js a) (contQ t Q)
  | .lp n x :: t, Q => Exit.then (Code.roundsIn (fw r) 0 P x (contQ t Q) n) (contQ t Q)
  | .k ds K :: t, Q => Exit.then (fun a w => ∃ fr hp, K fr hp ∧ FrOk X.N ds fr a ∧ Holds w0 w hp) (contQ t Q)
  | .rs full T H ls p :: t, Q => Exit.then (RSc P full (contQ t Q) T H ls p) (contQ t Q)
  | .kd K :: t, Q => Exit.then (fun a w => ∃ ds fr hp, K ds fr hp ∧ FrOk X.N ds fr a ∧ Holds w0 w hp) (contQ t Q)
  | .br l :: t, Q => Exit.then (fun a w => ∃ w', (Instr.beginRound l).run P w = .ok () w' ∧ contQ t Q .normal a w') (contQ t Q)
end

/-- Whatever is asked at the end: no panic. -/
structure Post where
  q : World → Exit → Act → World → Prop
  np : ∀ w0 c a w, ¬ q w0 (.panic c) a w
  no : ∀ w0 a w, ¬ q w0 .outgrown a w

section
variable {P : Program} {X : Env P} {r : Option Nat} {w0 : World} {Q : Exit → Act → World → Prop}
theorem contQ_pass {e : Exit} (he : match e with | .panic _ | .outgrown => True | _ => False) : ∀ (t : List It) (a : Act) (w : World), contQ X r w0 t Q e a w ↔ Q e a w
  | [], a, w => Iff.rfl
  | x :: t, a, w => by
    have ih := contQ_pass he t a w
    cases e <;> first | exact he.elim | (cases x <;> exact ih)
theorem retQ {a : Act} {w : World} (h : Q .ret a w) : ∀ t : List It, contQ X r w0 t Q .ret a w
  | [] => h
  | x :: t => by have := retQ h t; cases x <;> exact this
end

/-- From the frame and the blocks on, all that is left to do goes well. -/
structure Wk {P : Program} (X : Env P) (r : Option Nat) (Q : Post) (todo : List It) (ds : List Nat) (fr : List (Nat × SV)) (hp : List HB) : Prop where
  out : ∀ w0 a w, FrOk X.N ds fr a → Holds w0 w hp → contQ X r w0 todo (Q.q w0) .normal a w
/-- All has been done: it is left in this way. -/
structure Fin {P : Program} (X : Env P) (Q : Post) (e : Exit) (ds : List Nat) (fr : List (Nat × SV)) (hp : List HB) : Prop where
  out : ∀ w0 a w, FrOk X.N ds fr a → Holds w0 w hp → Q.q w0 e a w

section
variable {P : Program} {X : Env P} {r : Option Nat} {Q : Post} {t : List It} {ds : List Nat} {fr : List (Nat × SV)} {hp : List HB}

theorem noOut (w0 : World) (t : List It) : ¬ LetsOut (contQ X r w0 t (Q.q w0)) := fun ⟨a, w, h⟩ => Q.no w0 a w ((contQ_pass (e := .outgrown) trivial t a w).1 h)
theorem noPanic (w0 : World) (t : List It) (c : List PanicEntry) (a : Act) (w : World) : ¬ contQ X r w0 t (Q.q w0) (.panic c) a w := fun h => Q.np w0 c a w ((contQ_pass (e := .panic c) trivial t a w).1 h)

def popTo (id : Nat) : List It → Option (List It)
  | [] => none
  | .b id' :: t => match Nat.beq id id' with
    | true => some t
    | false => popTo id t
  | _ :: t => popTo id t
theorem popTo_sound {id : Nat} {w0 : World} {Q : Exit → Act → World → Prop} {a : Act} {w : World} : ∀ {t t' : List It}, popTo id t = some t' → contQ X r w0 t' Q .normal a w → contQ X r w0 t Q (.exit id) a w
  | .b id' :: t, t', h, hq => by
    unfold popTo at h
    split at h
    · rename_i hb
      have : id = id' := Nat.eq_of_beq_eq_true hb
      subst this
      cases h
      simpa [contQ, Exit.inBlock] using hq
    · rename_i hb
      have hne : id ≠ id' := fun e => by subst e; rw [Nat.beq_refl] at hb; cases hb
      simpa [contQ, Exit.inBlock, hne] using popTo_sound h hq
  | .c x :: t, t', h, hq => popTo_sound (t := t) h hq
  | .ops _ _ :: t, t', h, hq => popTo_sound (t := t) h hq
  | .rg _ _ _ :: t, t', h, hq => popTo_sound (t := t) h hq
  | .xq _ _ _ _ _ _ :: t, t', h, hq => popTo_sound (t := t) h hq
  | .lp _ _ :: t, t', h, hq => popTo_sound (t := t) h hq
  | .k _ _ :: t, t', h, hq => popTo_sound (t := t) h hq
  | .br _ :: t, t', h, hq => popTo_sound (t := t) h hq
  | .rs _ _ _ _ _ :: t, t', h, hq => popTo_sound (t := t) h hq
  | .kd _ :: t, t', h, hq => popTo_sound (t := t) h hq
theorem popTo_none {id : Nat} {w0 : World} {Q : Exit → Act → World → Prop} {a : Act} {w : World} : ∀ {t : List It}, popTo id t = none → Q (.exit id) a w → contQ X r w0 t Q (.exit id) a w
  | [], _, hq => hq
  | .b id' :: t, h, hq => by
    unfold popTo at h
    split at h
    · cases h
    · rename_i hb
      have hne : id ≠ id' := fun e => by subst e; rw [Nat.beq_refl] at hb; cases hb
      simpa [contQ, Exit.inBlock, hne] using popTo_none h hq
  | .c x :: t, h, hq => popTo_none (t := t) h hq
  | .ops _ _ :: t, h, hq => popTo_none (t := t) h hq
  | .rg _ _ _ :: t, h, hq => popTo_none (t := t) h hq
  | .xq _ _ _ _ _ _ :: t, h, hq => popTo_none (t := t) h hq
  | .lp _ _ :: t, h, hq => popTo_none (t := t) h hq
  | .k _ _ :: t, h, hq => popTo_none (t := t) h hq
  | .br _ :: t, h, hq => popTo_none (t := t) h hq
  | .rs _ _ _ _ _ :: t, h, hq => popTo_none (t := t) h hq
  | .kd _ :: t, h, hq => popTo_none (t := t) h hq

def allB {α : Type} (p : α → Bool) : List α → Bool
  | [] => true
  | x :: xs => match p x with
    | true => allB p xs
    | false => false
theorem allB_mem {α : Type} {p : α → Bool} : ∀ {xs : List α}, allB p xs = true → ∀ x ∈ xs, p x = true
  | y :: xs, h, x, hx => by
    unfold allB at h
    split at h
    · rename_i hy
      rcases List.mem_cons.1 hx with rfl | hx
      · exact hy
      · exact allB_mem h x hx
    · cases h

/-- One step that is no more than bookkeeping. -/
def stepI : List It → Option (List It)
  | .c (.seq x y) :: t => some (.c x :: .c y :: t)
  | .c .skip :: t => some t
  | .c (.block id x) :: t => some (.c x :: .b id :: t)
  | .b _ :: t => some t
  | .c (.region _ ops false) :: t => some (.ops ops.toList ops.toList :: t)
  | .ops _ [] :: t => some t
  | .c (.exit id) :: t => popTo id t
  | .lp (n + 1) x :: t => some (.c x :: .lp n x :: t)
  | _ => none
theorem stepI_sound {t t' : List It} (h : stepI t = some t') {w0 : World} {Q : Exit → Act → World → Prop} {a : Act} {w : World} (hq : contQ X r w0 t' Q .normal a w) : contQ X r w0 t Q .normal a w := by
  unfold stepI at h
  split at h
  · cases h; exact wpIn_seq hq
  · cases h; exact wpIn_skip hq
  · cases h; exact wpIn_block hq
  · cases h; simpa [contQ, Exit.inBlock] using hq
  · cases h; exact wpIn_region_lit (by simpa [contQ, Exit.then] using hq)
  · cases h; exact hq
  · exact wpIn_exit (popTo_sound h hq)
  · cases h; rw [contQ, Exit.then, roundsIn_succ]; exact hq
  · cases h

theorem Wk.step {t' : List It} (hs : stepI t = some t') (h : Wk X r Q t' ds fr hp) : Wk X r Q t ds fr hp := ⟨fun w0 a w hf hw => stepI_sound hs (h.out w0 a w hf hw)⟩
theorem Wk.done (h : Fin X Q .normal ds fr hp) : Wk X r Q [] ds fr hp := ⟨h.out⟩
theorem Wk.ret (h : Fin X Q .ret ds fr hp) : Wk X r Q (.c .ret :: t) ds fr hp := ⟨fun w0 a w hf hw => wpIn_ret (retQ (h.out w0 a w hf hw) t)⟩
theorem Wk.exitOut {id : Nat} (hn : popTo id t = none) (h : Fin X Q (.exit id) ds fr hp) : Wk X r Q (.c (.exit id) :: t) ds fr hp := ⟨fun w0 a w hf hw => wpIn_exit (popTo_none hn (h.out w0 a w hf hw))⟩
theorem Wk.k {K : List (Nat × SV) → List HB → Prop} (h : K fr hp) : Wk X r Q (.k ds K :: t) ds fr hp := ⟨fun _ _ _ hf hw => ⟨fr, hp, h, hf, hw⟩⟩

/-- An operation. -/
theorem Wk.op {full rest : List Oper} {o : Oper}
    (h : ∀ K' : List (Nat × SV) → List HB → Prop, (∀ fr hp, Wk X r Q (.ops full rest :: t) ds fr hp → K' fr hp) →
      match noDef o with
      | true => guardB full o fr (fun fr => evE X.T X.G X.E o.op fr hp fun v hp => putS X.N o.dst v fr fun fr => K' fr hp) (fun fr => putS X.N o.dst .und fr fun fr => K' fr hp)
      | false => False) : Wk X r Q (.ops full (o :: rest) :: t) ds fr hp := by
  have h := h _ fun _ _ h => h
  split at h
  case h_2 => exact h.elim
  rename_i hnd
  refine ⟨fun w0 a w hf hw => ?_⟩
  obtain ⟨fr', b, h, hb⟩ := guardB_sound (N := X.N) (ds := ds) h
  obtain ⟨hf', hwant⟩ := hb a hf
  show wpListIn (fw r) 0 P full.toArray (contQ X r w0 t (Q.q w0)) (o :: rest) a w
  unfold wpListIn
  rw [hwant]
  cases b with
  | true =>
    simp only [if_true] at h ⊢
    refine wp_fw r hnd (evE_sound X.hT X.hG X.hE h hf' hw fun v hp' w' hp1 hw' => ?_)
    obtain ⟨fr'', h1, hput⟩ := putS_sound (ds := ds) hp1
    exact h1.out w0 _ _ (hput a hf') hw'
  | false =>
    simp only [Bool.false_eq_true, if_false] at h ⊢
    obtain ⟨fr'', h1, hput⟩ := putS_sound (ds := ds) h
    exact ⟨fun _ _ => trivial, h1.out w0 _ _ (hput a hf') hw⟩

/-! ### Regions whose order is open -/
/-- An operation of such a region that stands next, or may come next. -/
theorem wpOp_one {full : List Oper} {i : Nat} {o : Oper} (ho : full.toArray[i]? = some o) {K : Act → World → Prop} {Q' : Exit → Act → World → Prop} {w0 : World} {a : Act} {w : World} (hf : FrOk X.N ds fr a) (hw : Holds w0 w hp) {K' : List (Nat × SV) → List HB → Prop}
    (h : guardB full o fr (fun fr => evE X.T X.G X.E o.op fr hp fun v hp => putS X.N o.dst v fr fun fr => K' fr hp) (fun fr => putS X.N o.dst .und fr fun fr => K' fr hp))
    (hK : ∀ fr hp a w, K' fr hp → FrOk X.N ds fr a → Holds w0 w hp → K a w) : wpOp P full.toArray Q' i K a w := by
  obtain ⟨fr', b, h, hb⟩ := guardB_sound (N := X.N) (ds := ds) h
  obtain ⟨hf', hwant⟩ := hb a hf
  unfold wpOp
  rw [ho]
  simp only [hwant]
  cases b with
  | true =>
    simp only [if_true] at h ⊢
    refine .inl (evE_sound X.hT X.hG X.hE h hf' hw fun v hp' w' hp1 hw' => ?_)
    obtain ⟨fr'', h1, hput⟩ := putS_sound (ds := ds) hp1
    exact hK _ _ _ _ h1 (hput a hf') hw'
  | false =>
    simp only [Bool.false_eq_true, if_false] at h ⊢
    obtain ⟨fr'', h1, hput⟩ := putS_sound (ds := ds) h
    exact hK _ _ _ _ h1 (hput a hf') hw

theorem down_add {ops : Array Oper} {ls : List Nat} {i : Nat} (hd : Down ops (listedOf ops.size ls)) (hi : i ∈ Region.ready .any ops (listedOf ops.size ls)) : Down ops (listedOf ops.size (ls ++ [i])) := by
  have := hd.set hi
  rwa [listedOf_set] at this

/-- The plan by which a region is walked: as told, or: what is quiet first, the rest in its order. -/
def isEff (E : List (Nat × ECtr)) : Op → Bool
  | .alloc _ | .box .. | .store .. | .buildSlice .. | .makeSlice .. => true
  | .call ⟨.builtin .append, _, _⟩ | .call ⟨.builtin .copy, _, _⟩ => true
  | .call ⟨.value (.func f), _, _⟩ => (lookN E f).isSome
  | _ => false
def headN (E : List (Nat × ECtr)) : List Oper → Nat
  | [] => 0
  | o :: r => match isEff E o.op with
    | true => 0
    | false => headN E r + 1
def tailPlan : Nat → Nat → Plan
  | _, 0 => .done
  | i, n + 1 => .one i (tailPlan (i + 1) n)
def planOf (pl : List (Nat × Plan)) (E : List (Nat × ECtr)) (id : Nat) (l : List Oper) : Plan :=
  match lookN pl id with
  | some p => p
  | none => .x (List.range (headN E l)) [] (tailPlan (headN E l) (l.length - headN E l))

def forceN : List Nat → (List Nat → Prop) → Prop
  | [], K => K []
  | n :: ns, K => forceN ns fun ns => K (n :: ns)
theorem forceN_eq : ∀ (ns : List Nat) (K : List Nat → Prop), forceN ns K = K ns
  | [], _ => rfl
  | n :: ns, K => by rw [forceN, forceN_eq ns]
def Plan.force : Plan → (Plan → Prop) → Prop
  | .done, K => K .done
  | .pure i p, K => p.force fun p => K (.pure i p)
  | .one i p, K => p.force fun p => K (.one i p)
  | .two i p j q, K => p.force fun p => q.force fun q => K (.two i p j q)
  | .x js as p, K => forceN js fun js => forceN as fun as => p.force fun p => K (.x js as p)
  | .h T p, K => p.force fun p => K (.h T p)
  | .s1 i is p, K => p.force fun p => K (.s1 i is p)
  | .s2 i is p j js q, K => p.force fun p => q.force fun q => K (.s2 i is p j js q)
  | .s3 i is p j js q k ks r, K => p.force fun p => q.force fun q => r.force fun r => K (.s3 i is p j js q k ks r)
theorem Plan.force_eq : ∀ (p : Plan) (K : Plan → Prop), p.force K = K p
  | .done, _ => rfl
  | .pure i p, K => by rw [Plan.force, Plan.force_eq p]
  | .one i p, K => by rw [Plan.force, Plan.force_eq p]
  | .two i p j q, K => by rw [Plan.force, Plan.force_eq p, Plan.force_eq q]
  | .x js as p, K => by rw [Plan.force, forceN_eq, forceN_eq, Plan.force_eq p]
  | .h T p, K => by rw [Plan.force, Plan.force_eq p]
  | .s1 i is p, K => by rw [Plan.force, Plan.force_eq p]
  | .s2 i is p j js q, K => by rw [Plan.force, Plan.force_eq p, Plan.force_eq q]
  | .s3 i is p j js q k ks r, K => by rw [Plan.force, Plan.force_eq p, Plan.force_eq q, Plan.force_eq r]
theorem Wk.draw {id : Nat} {ops : Array Oper} (hp' : (planOf X.pl X.E id ops.toList).top ops.toList.toArray = true) (hnd : allB noDef ops.toList = true) (h : ∀ K : Plan → Prop, (∀ p, Wk X r Q (.rg ops.toList [] p :: t) ds fr hp → K p) → (planOf X.pl X.E id ops.toList).force K) : Wk X r Q (.c (.region id ops true) :: t) ds fr hp := by
  have h := h _ fun _ h => h
  rw [Plan.force_eq] at h
  refine ⟨fun w0 a w hf hw => ?_⟩
  obtain ⟨l, rfl⟩ : ∃ l : List Oper, ops = l.toArray := ⟨ops.toList, by simp⟩
  simp only at h hp' hnd
  simp only [Plan.top, Bool.and_eq_true] at hp'
  refine wpIn_region_draw fun s => ?_
  have h0 := h.out w0 a _ hf hw.drew hp'.1 (show Down l.toArray (listedOf l.toArray.size []) from Down.start) hp'.2
  refine ops_fw r (fun i o ho => allB_mem hnd o (List.mem_of_getElem? (by simpa using ho))) (noOut w0 t) _ _ _ ?_
  simp only [Region.schedule, X.hm, Bool.true_or, if_true]
  unfold RG at h0
  simp only [List.length_nil, Nat.sub_zero] at h0
  have := wpAny_sound (P := P) (Q := contQ X r w0 t (Q.q w0)) (ops := l.toArray) (md := .any) l.toArray.size s _ a _ h0
  simpa [Region.linearise, listedOf] using this

/-- The next step by a plan. -/
theorem Wk.rgDone {full : List Oper} {ls : List Nat} (h : Wk X r Q t ds fr hp) : Wk X r Q (.rg full ls .done :: t) ds fr hp :=
  ⟨fun w0 a w hf hw _ _ hok => RG_done hok (h.out w0 a w hf hw)⟩
theorem ready_of {ops : Array Oper} {ls : List Nat} {rs : List Nat} {i : Nat} (h : (Region.ready .any ops (listedOf ops.size ls) == rs) = true) (hi : i ∈ rs) : i ∈ Region.ready .any ops (listedOf ops.size ls) := by
  rw [show Region.ready .any ops (listedOf ops.size ls) = rs by simpa using h]; exact hi
/-- What one operation of such a region comes to. -/
def rgOp (X : Env P) (full : List Oper) (i : Nat) (fr : List (Nat × SV)) (hp : List HB) (K' : List (Nat × SV) → List HB → Prop) : Prop :=
  match full[i]? with
  | some o => guardB full o fr (fun fr => evE X.T X.G X.E o.op fr hp fun v hp => putS X.N o.dst v fr fun fr => K' fr hp) (fun fr => putS X.N o.dst .und fr fun fr => K' fr hp)
  | none => False
theorem Wk.rgOne {full : List Oper} {ls : List Nat} {i : Nat} {p : Plan}
    (h : ∀ K' : List (Nat × SV) → List HB → Prop, (∀ fr hp, Wk X r Q (.rg full (ls ++ [i]) p :: t) ds fr hp → K' fr hp) → rgOp X full i fr hp K') : Wk X r Q (.rg full ls (.one i p) :: t) ds fr hp := by
  have h := h _ fun _ _ h => h
  unfold rgOp at h
  split at h
  case h_2 => exact h.elim
  rename_i o ho
  refine ⟨fun w0 a w hf hw hsel hd hok => ?_⟩
  simp only [Plan.ok, Bool.and_eq_true, decide_eq_true_eq] at hok
  obtain ⟨h1, h2, h3⟩ := hok
  refine RG_all h1 (by simpa using h2) (by simp) fun j hj => ?_
  rw [List.mem_singleton] at hj; subst hj
  exact wpOp_one (by simpa using ho) hf hw h fun fr hp a w hk hf hw => hk.out w0 a w hf hw hsel (down_add hd (ready_of h2 (by simp))) h3
theorem Wk.rgTwo {full : List Oper} {ls : List Nat} {i j : Nat} {p q : Plan}
    (h1 : ∀ K' : List (Nat × SV) → List HB → Prop, (∀ fr hp, Wk X r Q (.rg full (ls ++ [i]) p :: t) ds fr hp → K' fr hp) → rgOp X full i fr hp K')
    (h2 : ∀ K' : List (Nat × SV) → List HB → Prop, (∀ fr hp, Wk X r Q (.rg full (ls ++ [j]) q :: t) ds fr hp → K' fr hp) → rgOp X full j fr hp K') : Wk X r Q (.rg full ls (.two i p j q) :: t) ds fr hp := by
  have h1 := h1 _ fun _ _ h => h
  have h2 := h2 _ fun _ _ h => h
  unfold rgOp at h1 h2
  split at h1
  case h_2 => exact h1.elim
  rename_i o ho
  split at h2
  case h_2 => exact h2.elim
  rename_i o' ho'
  refine ⟨fun w0 a w hf hw hsel hd hok => ?_⟩
  simp only [Plan.ok, Bool.and_eq_true, decide_eq_true_eq] at hok
  obtain ⟨q1, q2, q3, q4⟩ := hok
  refine RG_all q1 (by simpa using q2) (by simp) fun k hk => ?_
  simp only [List.mem_cons, List.not_mem_nil, or_false] at hk
  rcases hk with rfl | rfl
  · exact wpOp_one (by simpa using ho) hf hw h1 fun fr hp a w hk hf hw => hk.out w0 a w hf hw hsel (down_add hd (ready_of q2 (by simp))) q3
  · exact wpOp_one (by simpa using ho') hf hw h2 fun fr hp a w hk hf hw => hk.out w0 a w hf hw hsel (down_add hd (ready_of q2 (by simp))) q4
theorem Wk.rgPure {full : List Oper} {ls : List Nat} {i : Nat} {p : Plan}
    (h : ∀ K' : List (Nat × SV) → Prop, (∀ fr, Wk X r Q (.rg full (ls ++ [i]) p :: t) ds fr hp → K' fr) → match full[i]? with
      | some o => guardB full o fr (fun fr => evP X.T o.op fr fun v => putS X.N o.dst v fr K') (fun fr => putS X.N o.dst .und fr K')
      | none => False) : Wk X r Q (.rg full ls (.pure i p) :: t) ds fr hp := by
  have h := h _ fun _ h => h
  split at h
  case h_2 => exact h.elim
  rename_i o ho
  refine ⟨fun w0 a w hf hw hsel hd hok => ?_⟩
  have hok' := hok
  simp only [Plan.ok, Bool.and_eq_true, decide_eq_true_eq] at hok
  obtain ⟨q1, q2, q3, q4⟩ := hok
  have hin : i ∈ Region.ready .any full.toArray (listedOf full.toArray.size ls) := by simpa using q2
  obtain ⟨fr', b, h, hb⟩ := guardB_sound (N := X.N) (ds := ds) h
  obtain ⟨hf', hwant⟩ := hb a hf
  have fin : ∀ {v : Value}, Go.Yields P full.toArray o v a → RGc P full (contQ X r w0 t (Q.q w0)) (ls ++ [i]) p (a.put o.dst v) w → RG P full.toArray (contQ X r w0 t (Q.q w0)) ls a w := fun {v} hy hr =>
    RG_pure hsel (fun c a w => noPanic w0 t c a w) hok' (by simpa using ho) hy (hr hsel (down_add hd hin) q4)
  cases b with
  | true =>
    simp only [if_true] at h
    obtain ⟨v, hv, hy⟩ := evP_sound (P := P) (N := X.N) (ds := ds) X.hT h
    obtain ⟨fr'', h1, hput⟩ := putS_sound (ds := ds) hv
    exact fin (v := den v) (.inl ⟨hwant, hy a hf'⟩) (h1.out w0 _ _ (hput a hf') hw)
  | false =>
    simp only [Bool.false_eq_true, if_false] at h
    obtain ⟨fr'', h1, hput⟩ := putS_sound (ds := ds) h
    exact fin (v := undef) (.inr ⟨hwant, rfl⟩) (h1.out w0 _ _ (hput a hf') hw)
theorem down_head {ops : Array Oper} : ∀ {js ls : List Nat}, headOk ops ls js = true → Down ops (listedOf ops.size ls) → Down ops (listedOf ops.size (ls ++ js))
  | [], ls, _, hd => by rw [List.append_nil]; exact hd
  | j :: js, ls, h, hd => by
    simp only [headOk, Bool.and_eq_true] at h
    have := down_head h.2.2 (down_add hd (by simpa using h.1))
    simpa using this
theorem down_alloc {ops : Array Oper} : ∀ {as ls : List Nat}, (∀ i ∈ as, isAlloc ops i = true) → Down ops (listedOf ops.size ls) → Down ops (listedOf ops.size (ls ++ as))
  | [], ls, _, hd => by rw [List.append_nil]; exact hd
  | i :: as, ls, h, hd => by
    have hi := h i (by simp)
    have h1 : Down ops (listedOf ops.size (ls ++ [i])) := by
      rw [← listedOf_set]
      refine ⟨by simpa using hd.1, fun j o ho hj e he hb => getD_set_true ?_⟩
      by_cases hij : i = j
      · subst hij
        unfold isAlloc at hi
        split at hi
        · rename_i dst ty t pos after ho'
          rw [ho] at ho'; cases ho'
          have := Array.all_eq_true_iff_forall_mem.1 hi e he
          rw [hb] at this; cases this
        · cases hi
      · rw [getD_set_ne false hij] at hj
        exact hd.2 j o ho hj e he hb
    have := down_alloc (as := as) (fun j hj => h j (by simp [hj])) h1
    simpa using this
def asOf (T : List (Nat × TyI)) (ops : Array Oper) (as : List Nat) : Option (List (Nat × TypeId × Cts)) := as.mapM fun i => (akOf T ops i).map fun x => (i, x)
theorem Wk.rgX {full : List Oper} {ls js as : List Nat} {p : Plan}
    (h : ∀ K' : List (Nat × TypeId × Cts) → Prop, (∀ as', Wk X r Q (.xq full (ls ++ js ++ as) js as' hp p :: t) ds fr hp → K' as') → match asOf X.T full.toArray as with | some as' => K' as' | none => False) : Wk X r Q (.rg full ls (.x js as p) :: t) ds fr hp := by
  have h := h _ fun _ h => h
  split at h
  case h_2 => exact h.elim
  rename_i as' has
  refine ⟨fun w0 a w hf hw hsel hd hok => ?_⟩
  have hok' := hok
  simp only [Plan.ok, Bool.and_eq_true, decide_eq_true_eq] at hok
  obtain ⟨_, _, h3, h4, _, hp'⟩ := hok
  have hdn := down_alloc (fun i hi => by have := List.all_eq_true.1 h4 i hi; simp only [Bool.and_eq_true] at this; exact this.1) (down_head h3 hd)
  refine RG_x X.hT (fun c a w => noPanic w0 t c a w) hsel hd hok' hw has ?_
  have h0 := h.out w0 a w hf hw
  have mono : ∀ {F F' : List HB → Act → Prop}, (∀ hp a, F hp a → F' hp a) → ∀ (as : List (Nat × TypeId × Cts)) (hp : List HB) (a : Act), FA full.toArray F as hp a → FA full.toArray F' as hp a := fun {F F'} hF as => by
    induction as with
    | nil => exact fun hp a h => hF hp a h
    | cons x as ih => exact fun hp a h g => ih _ _ (h g)
  have monoC : ∀ {F F' : List HB → Act → Prop}, (∀ hp a, F hp a → F' hp a) → ∀ (js : List Nat) (a : Act), Can P full.toArray F as' hp js a → Can P full.toArray F' as' hp js a := fun {F F'} hF js => by
    induction js with
    | nil => exact fun a h => mono hF _ _ _ h
    | cons j js ih => exact fun a ⟨o, v, h1, h2, h3⟩ => ⟨o, v, h1, h2, ih _ h3⟩
  exact monoC (fun hp a hF w hw => hF w hw hsel hdn hp') js a h0

/-- A quiet operation of the head. -/
theorem Wk.xqOp {full : List Oper} {lsF js : List Nat} {j : Nat} {as : List (Nat × TypeId × Cts)} {hq : List HB} {p : Plan}
    (h : ∀ K' : List (Nat × SV) → Prop, (∀ fr, Wk X r Q (.xq full lsF js as hq p :: t) ds fr hp → K' fr) → match full[j]? with
      | some o => guardB full o fr (fun fr => evQ X.T X.G o.op fr hq fun v => putS X.N o.dst v fr K') (fun fr => putS X.N o.dst .und fr K')
      | none => False) : Wk X r Q (.xq full lsF (j :: js) as hq p :: t) ds fr hp := by
  have h := h _ fun _ h => h
  split at h
  case h_2 => exact h.elim
  rename_i o ho
  refine ⟨fun w0 a w hf hw => ?_⟩
  obtain ⟨fr', b, h, hb⟩ := guardB_sound (N := X.N) (ds := ds) h
  obtain ⟨hf', hwant⟩ := hb a hf
  cases b with
  | true =>
    simp only [if_true] at h
    obtain ⟨v, hv, hy⟩ := evQ_sound (N := X.N) (ds := ds) X.hT X.hG h
    obtain ⟨fr'', h1, hput⟩ := putS_sound (ds := ds) hv
    exact ⟨o, den v, by simpa using ho, .inl ⟨hwant, fun w hw => hy a w hf' hw⟩, h1.out w0 _ w (hput a hf') hw⟩
  | false =>
    simp only [Bool.false_eq_true, if_false] at h
    obtain ⟨fr'', h1, hput⟩ := putS_sound (ds := ds) h
    exact ⟨o, undef, by simpa using ho, .inr ⟨hwant, rfl⟩, h1.out w0 _ w (hput a hf') hw⟩
/-- A new variable of the head. -/
theorem Wk.xqNew {full : List Oper} {lsF : List Nat} {i : Nat} {ty : TypeId} {c : Cts} {as : List (Nat × TypeId × Cts)} {hq : List HB} {p : Plan}
    (h : ∀ K' : List (Nat × SV) → List HB → Prop, (∀ fr hq, Wk X r Q (.xq full lsF [] as hq p :: t) ds fr hp → K' fr hq) →
      ∀ g : Nat, lenK hq 0 fun n => appK hq ⟨some ⟨g, 0⟩, true, .wr ty c.n, c⟩ fun hq' => putS X.N ((full[i]?).bind (·.dst)) (.ptr n ⟨g, 0⟩ 0 0 0) fr fun fr => K' fr hq') : Wk X r Q (.xq full lsF [] ((i, ty, c) :: as) hq p :: t) ds fr hp := by
  have h := h _ fun _ _ h => h
  refine ⟨fun w0 a w hf hw => ?_⟩
  intro g
  have h := h g
  rw [lenK_eq, appK_eq] at h
  obtain ⟨fr'', h1, hput⟩ := putS_sound (ds := ds) h
  have := h1.out w0 _ w (hput a hf) hw
  have e1 : dstOf full.toArray i = (full[i]?).bind (·.dst) := by simp [dstOf]
  have e2 : den (.ptr (0 + hq.length) ⟨g, 0⟩ 0 0 0) = aptr g := by simp [den, aptr]
  rw [e1, ← e2]
  exact this
theorem Wk.xqEnd {full : List Oper} {lsF : List Nat} {hq : List HB} {p : Plan} (h : Wk X r Q (.rg full lsF p :: t) ds fr hq) : Wk X r Q (.xq full lsF [] [] hq p :: t) ds fr hp :=
  ⟨fun w0 a w hf _ w' hw' => h.out w0 a w' hf hw'⟩

/-! ### Regions where loads are taken first -/
theorem Wk.rgH {full : List Oper} {ls T : List Nat} {p : Plan} (hT : p.takes T = true) (h : Wk X r Q (.rs full T [] ls p :: t) ds fr hp) : Wk X r Q (.rg full ls (.h T p) :: t) ds fr hp :=
  ⟨fun w0 a w hf hw hsel hd hok => RG_of_RS (h.out w0 a w hf hw hsel hd hok hT fun x hx => by cases hx)⟩
theorem Wk.rsDone {full : List Oper} {T ls : List Nat} {H : List (Nat × Option (Nat × HB))} (h : Wk X r Q t ds fr hp) : Wk X r Q (.rs full T H ls .done :: t) ds fr hp :=
  ⟨fun w0 a w hf hw _ _ hok _ _ => RS_done hok (h.out w0 a w hf hw)⟩
def onlyB : Nat → HB → List HB
  | 0, b => [b]
  | n + 1, b => ⟨none, false, .ro, .l []⟩ :: onlyB n b
theorem onlyB_ok {b : HB} {w : World} (h : b.ok w) : ∀ (n : Nat), ∀ x ∈ onlyB n b, x.ok w
  | 0, x, hx => by rw [onlyB, List.mem_singleton] at hx; subst hx; exact h
  | n + 1, x, hx => by
    rcases List.mem_cons.1 hx with rfl | hx
    · exact rfl
    · exact onlyB_ok h n x hx
/-- What is taken first: a load out of a block, or what looks at no memory. -/
def takeB (X : Env P) (o : Oper) (fr : List (Nat × SV)) (hp : List HB) (K : Option (Nat × HB) → SV → Prop) : Prop :=
  match o.op with
  | .load t x => withV (ev fr x) fun x => match x with
    | .ptr i nm k s d => match hp[i]? with
      | some b => evLoad X.T t (onlyB i b) (.ptr i nm k s d) fun v => K (some (i, b)) v
      | none => False
    | _ => False
  | op => evP X.T op fr fun v => K none v
theorem takeB_sound {o : Oper} {hp : List HB} {fr : List (Nat × SV)} {K : Option (Nat × HB) → SV → Prop} (h : takeB X o fr hp K) : ∃ ob v, K ob v ∧ (∀ i b, ob = some (i, b) → hp[i]? = some b) ∧
    ∀ a, FrOk X.N ds fr a → ∀ w, (∀ b ∈ obL ob, b.ok w) → (execOp a.eval o).run P w = .ok (.value (den v)) w := by
  unfold takeB at h
  split at h
  · rename_i t x hop
    obtain ⟨y, hy, h⟩ := withV_iff h
    split at h
    case h_2 => exact h.elim
    rename_i i nm k s d
    split at h
    case h_2 => exact h.elim
    rename_i b hb
    obtain ⟨v, hv, hr⟩ := evLoad_sound (P := P) X.hT h
    refine ⟨some (i, b), v, hv, fun i' b' e => (by cases e; exact hb), fun a hf w hw => ?_⟩
    have := hr w (onlyB_ok (hw b (by simp [obL])) i)
    obtain ⟨d', op, ty, pos, af, g⟩ := o
    simp only at hop
    subst hop
    simp [execOp, ev_sound hf hy, this]
  · obtain ⟨v, hv, hy⟩ := evP_sound (P := P) (N := X.N) (ds := ds) X.hT h
    exact ⟨none, v, hv, fun _ _ e => (by cases e), fun a hf w _ => hy a hf w⟩
theorem Wk.rsTake {full : List Oper} {T ls : List Nat} {H : List (Nat × Option (Nat × HB))} {i : Nat} {p : Plan}
    (h : ∀ K' : Option (Nat × HB) → List (Nat × SV) → Prop, (∀ ob fr, Wk X r Q (.rs full T ((i, ob) :: H) (ls ++ [i]) p :: t) ds fr hp → K' ob fr) → match full[i]? with
      | some o => guardB full o fr (fun fr => takeB X o fr hp fun ob v => putS X.N o.dst v fr fun fr => K' ob fr) (fun fr => putS X.N o.dst .und fr fun fr => K' none fr)
      | none => False) : Wk X r Q (.rs full T H ls (.pure i p) :: t) ds fr hp := by
  have h := h _ fun _ _ h => h
  split at h
  case h_2 => exact h.elim
  rename_i o ho
  refine ⟨fun w0 a w hf hw hsel hd hok hT hS => ?_⟩
  have hok' := hok
  simp only [Plan.ok, Bool.and_eq_true, decide_eq_true_eq] at hok
  obtain ⟨q1, q2, q3, q4⟩ := hok
  simp only [Plan.takes, Bool.and_eq_true] at hT
  have hin : i ∈ Region.ready .any full.toArray (listedOf full.toArray.size ls) := by simpa using q2
  obtain ⟨fr', b, h, hb⟩ := guardB_sound (N := X.N) (ds := ds) h
  obtain ⟨hf', hwant⟩ := hb a hf
  have hQ : ∀ c a w, ¬ contQ X r w0 t (Q.q w0) (.panic c) a w := fun c a w => noPanic w0 t c a w
  cases b with
  | true =>
    simp only [if_true] at h
    obtain ⟨ob, v, hv, hbk, hy⟩ := takeB_sound (ds := ds) h
    obtain ⟨fr'', h1, hput⟩ := putS_sound (ds := ds) hv
    have hC : ∀ b ∈ obL ob, b.ok w := fun b hb => by
      cases ob with
      | none => cases hb
      | some x =>
        have hb : b ∈ [x.2] := hb
        rw [List.mem_singleton] at hb; subst hb
        exact hw.blk _ (List.mem_of_getElem? (hbk x.1 x.2 rfl))
    refine RS_take (v := den v) hT.1 hsel hQ hd hok' (by simpa using ho) (.inl ⟨hwant, fun w hw => hy a hf' w hw⟩) hC hS fun hS' => ?_
    exact h1.out w0 _ _ (hput a hf') hw hsel (down_add hd hin) q4 hT.2 hS'
  | false =>
    simp only [Bool.false_eq_true, if_false] at h
    obtain ⟨fr'', h1, hput⟩ := putS_sound (ds := ds) h
    refine RS_take (v := undef) (hps := []) hT.1 hsel hQ hd hok' (by simpa using ho) (.inr ⟨hwant, rfl⟩) (fun _ h => by cases h) hS fun hS' => ?_
    exact h1.out w0 _ _ (hput a hf') hw hsel (down_add hd hin) q4 hT.2 hS'
def dropH (is : List Nat) : List (Nat × Option (Nat × HB)) → List (Nat × Option (Nat × HB))
  | [] => []
  | x :: r => match is.contains x.1 with
    | true => dropH is r
    | false => x :: dropH is r
theorem dropH_mem {is : List Nat} : ∀ {H : List (Nat × Option (Nat × HB))} {x : Nat × Option (Nat × HB)}, x ∈ H → x ∈ dropH is H ∨ is.contains x.1 = true
  | y :: r, x, hx => by
    unfold dropH
    rcases List.mem_cons.1 hx with rfl | hx
    · cases hc : is.contains x.1 with
      | true => exact .inr rfl
      | false => exact .inl (List.mem_cons_self ..)
    · rcases dropH_mem (is := is) hx with h | h
      · refine .inl ?_
        split
        · exact h
        · exact List.mem_cons_of_mem _ h
      · exact .inr h
/-- Something that waits for each of these has come. -/
def dropOk (full : List Oper) (T ls is : List Nat) : Bool :=
  is.all fun i => ls.any fun k => decide (k < full.toArray.size) && (!T.contains k && ((msks full []).getD k 0).testBit i)
/-- What was taken first still lies there. -/
def heldC (hp : List HB) : List (Nat × Option (Nat × HB)) → Prop
  | [] => True
  | (_, none) :: r => heldC hp r
  | (_, some (j, b)) :: r => hp[j]? = some b ∧ heldC hp r
theorem heldC_mem {hp : List HB} : ∀ {H : List (Nat × Option (Nat × HB))}, heldC hp H → ∀ i j b, (i, some (j, b)) ∈ H → b ∈ hp
  | (_, none) :: r, h, i, j, b, hm => by
    rcases List.mem_cons.1 hm with e | hm
    · cases e
    · exact heldC_mem (H := r) h i j b hm
  | (_, some (j', b')) :: r, h, i, j, b, hm => by
    rcases List.mem_cons.1 hm with e | hm
    · cases e; exact List.mem_of_getElem? h.1
    · exact heldC_mem (H := r) h.2 i j b hm
theorem rs_after {full : List Oper} {T ls is : List Nat} {H : List (Nat × Option (Nat × HB))} {hp : List HB} {p : Plan} {w0 : World} {a : Act} {w : World} (hdr : dropOk full T ls is = true) (hh : heldC hp (dropH is H)) (hw : Holds w0 w hp)
    {QQ : Exit → Act → World → Prop} (hr : SS full.toArray T (toH (dropH is H)) (listedOf full.toArray.size ls) w → RS P full.toArray QQ T (toH (dropH is H)) ls a w) :
    SS full.toArray T (toH H) (listedOf full.toArray.size ls) w ∧ RS P full.toArray QQ T (toH H) ls a w := by
  have hd : ∀ x ∈ toH H, x ∈ toH (dropH is H) ∨ ∃ k, k < full.toArray.size ∧ (listedOf full.toArray.size ls).getD k false = true ∧ T.contains k = false ∧ ((msks full.toArray.toList []).getD k 0).testBit x.1 = true := fun x hx => by
    obtain ⟨y, hy, rfl⟩ := List.mem_map.1 hx
    rcases dropH_mem (is := is) hy with h | h
    · exact .inl (List.mem_map.2 ⟨y, h, rfl⟩)
    · have := List.all_eq_true.1 hdr y.1 (by simpa using h)
      obtain ⟨k, hk, hkk⟩ := List.any_eq_true.1 this
      simp only [Bool.and_eq_true, decide_eq_true_eq, Bool.not_eq_true'] at hkk
      exact .inr ⟨k, hkk.1, by rw [listedOf_getD _ _ _ _ hkk.1]; simpa using hk, hkk.2.1, hkk.2.2⟩
  have hS : SS full.toArray T (toH (dropH is H)) (listedOf full.toArray.size ls) w := fun x hx _ b hb => by
    obtain ⟨⟨i, ob⟩, hy, rfl⟩ := List.mem_map.1 hx
    cases ob with
    | none => cases hb
    | some jb =>
      have hb : b ∈ [jb.2] := hb
      rw [List.mem_singleton] at hb; subst hb
      exact hw.blk _ (heldC_mem hh i jb.1 jb.2 hy)
  exact ⟨SS.grow hd hS, wpAnyS.grow _ _ _ _ hd (hr hS)⟩
theorem Wk.rsOne {full : List Oper} {T ls is : List Nat} {H : List (Nat × Option (Nat × HB))} {i : Nat} {p : Plan} (hdr : dropOk full T (ls ++ [i]) is = true)
    (h : ∀ K' : List (Nat × SV) → List HB → Prop, (∀ fr hp, Wk X r Q (.rs full T (dropH is H) (ls ++ [i]) p :: t) ds fr hp → heldC hp (dropH is H) → K' fr hp) → rgOp X full i fr hp K') : Wk X r Q (.rs full T H ls (.s1 i is p) :: t) ds fr hp := by
  have h := h (fun fr hp => Wk X r Q (.rs full T (dropH is H) (ls ++ [i]) p :: t) ds fr hp ∧ heldC hp (dropH is H)) fun _ _ h1 h2 => ⟨h1, h2⟩
  unfold rgOp at h
  split at h
  case h_2 => exact h.elim
  rename_i o ho
  refine ⟨fun w0 a w hf hw hsel hd hok hT hS => ?_⟩
  simp only [Plan.ok, Bool.and_eq_true, decide_eq_true_eq] at hok
  obtain ⟨h1, h2, h3⟩ := hok
  refine RS_all h1 (by simpa using h2) (by simp) fun j hj => ?_
  rw [List.mem_singleton] at hj; subst hj
  exact wpOp_one (by simpa using ho) hf hw h fun fr hp a w hk hf hw => rs_after (p := p) hdr hk.2 hw fun hS => hk.1.out w0 a w hf hw hsel (down_add hd (ready_of h2 (by simp))) h3 hT hS
theorem Wk.rsTwo {full : List Oper} {T ls is js : List Nat} {H : List (Nat × Option (Nat × HB))} {i j : Nat} {p q : Plan} (hdr1 : dropOk full T (ls ++ [i]) is = true) (hdr2 : dropOk full T (ls ++ [j]) js = true)
    (h1 : ∀ K' : List (Nat × SV) → List HB → Prop, (∀ fr hp, Wk X r Q (.rs full T (dropH is H) (ls ++ [i]) p :: t) ds fr hp → heldC hp (dropH is H) → K' fr hp) → rgOp X full i fr hp K')
    (h2 : ∀ K' : List (Nat × SV) → List HB → Prop, (∀ fr hp, Wk X r Q (.rs full T (dropH js H) (ls ++ [j]) q :: t) ds fr hp → heldC hp (dropH js H) → K' fr hp) → rgOp X full j fr hp K') : Wk X r Q (.rs full T H ls (.s2 i is p j js q) :: t) ds fr hp := by
  have h1 := h1 (fun fr hp => Wk X r Q (.rs full T (dropH is H) (ls ++ [i]) p :: t) ds fr hp ∧ heldC hp (dropH is H)) fun _ _ h1 h2 => ⟨h1, h2⟩
  have h2 := h2 (fun fr hp => Wk X r Q (.rs full T (dropH js H) (ls ++ [j]) q :: t) ds fr hp ∧ heldC hp (dropH js H)) fun _ _ h1 h2 => ⟨h1, h2⟩
  unfold rgOp at h1 h2
  split at h1
  case h_2 => exact h1.elim
  rename_i o ho
  split at h2
  case h_2 => exact h2.elim
  rename_i o' ho'
  refine ⟨fun w0 a w hf hw hsel hd hok hT hS => ?_⟩
  simp only [Plan.ok, Bool.and_eq_true, decide_eq_true_eq] at hok
  obtain ⟨q1, q2, q3, q4⟩ := hok
  simp only [Plan.takes, Bool.and_eq_true] at hT
  refine RS_all q1 (by simpa using q2) (by simp) fun k hk => ?_
  simp only [List.mem_cons, List.not_mem_nil, or_false] at hk
  rcases hk with rfl | rfl
  · exact wpOp_one (by simpa using ho) hf hw h1 fun fr hp a w hk hf hw => rs_after (p := p) hdr1 hk.2 hw fun hS => hk.1.out w0 a w hf hw hsel (down_add hd (ready_of q2 (by simp))) q3 hT.1 hS
  · exact wpOp_one (by simpa using ho') hf hw h2 fun fr hp a w hk hf hw => rs_after (p := q) hdr2 hk.2 hw fun hS => hk.1.out w0 a w hf hw hsel (down_add hd (ready_of q2 (by simp))) q4 hT.2 hS

/-! ### Tests, loops -/
def condB (fr : List (Nat × SV)) (c : Operand) (KT KF : List (Nat × SV) → Prop) : Prop :=
  match c with
  | .tmp s => match lookN fr s with
    | some (.bool .tt) => KT fr
    | some (.bool .ff) => KF fr
    | some (.bool f) => (f.H true → KT ((s, .bool .tt) :: fr)) ∧ (f.H false → KF ((s, .bool .ff) :: fr))
    | _ => False
  | .const (.bool true) => KT fr
  | .const (.bool false) => KF fr
  | _ => False
theorem Wk.rsThree {full : List Oper} {T ls is js ks : List Nat} {H : List (Nat × Option (Nat × HB))} {i j k : Nat} {p q u : Plan} (hdr1 : dropOk full T (ls ++ [i]) is = true) (hdr2 : dropOk full T (ls ++ [j]) js = true) (hdr3 : dropOk full T (ls ++ [k]) ks = true)
    (h1 : ∀ K' : List (Nat × SV) → List HB → Prop, (∀ fr hp, Wk X r Q (.rs full T (dropH is H) (ls ++ [i]) p :: t) ds fr hp → heldC hp (dropH is H) → K' fr hp) → rgOp X full i fr hp K')
    (h2 : ∀ K' : List (Nat × SV) → List HB → Prop, (∀ fr hp, Wk X r Q (.rs full T (dropH js H) (ls ++ [j]) q :: t) ds fr hp → heldC hp (dropH js H) → K' fr hp) → rgOp X full j fr hp K')
    (h3 : ∀ K' : List (Nat × SV) → List HB → Prop, (∀ fr hp, Wk X r Q (.rs full T (dropH ks H) (ls ++ [k]) u :: t) ds fr hp → heldC hp (dropH ks H) → K' fr hp) → rgOp X full k fr hp K') : Wk X r Q (.rs full T H ls (.s3 i is p j js q k ks u) :: t) ds fr hp := by
  have h1 := h1 (fun fr hp => Wk X r Q (.rs full T (dropH is H) (ls ++ [i]) p :: t) ds fr hp ∧ heldC hp (dropH is H)) fun _ _ h1 h2 => ⟨h1, h2⟩
  have h2 := h2 (fun fr hp => Wk X r Q (.rs full T (dropH js H) (ls ++ [j]) q :: t) ds fr hp ∧ heldC hp (dropH js H)) fun _ _ h1 h2 => ⟨h1, h2⟩
  have h3 := h3 (fun fr hp => Wk X r Q (.rs full T (dropH ks H) (ls ++ [k]) u :: t) ds fr hp ∧ heldC hp (dropH ks H)) fun _ _ h1 h2 => ⟨h1, h2⟩
  unfold rgOp at h1 h2 h3
  split at h1
  case h_2 => exact h1.elim
  rename_i o ho
  split at h2
  case h_2 => exact h2.elim
  rename_i o' ho'
  split at h3
  case h_2 => exact h3.elim
  rename_i o2 ho2
  refine ⟨fun w0 a w hf hw hsel hd hok hT hS => ?_⟩
  simp only [Plan.ok, Bool.and_eq_true, decide_eq_true_eq] at hok
  obtain ⟨q1, q2, q3, q4, q5⟩ := hok
  simp only [Plan.takes, Bool.and_eq_true] at hT
  refine RS_all q1 (by simpa using q2) (by simp) fun k' hk => ?_
  simp only [List.mem_cons, List.not_mem_nil, or_false] at hk
  rcases hk with rfl | rfl | rfl
  · exact wpOp_one (by simpa using ho) hf hw h1 fun fr hp a w hk hf hw => rs_after (p := p) hdr1 hk.2 hw fun hS => hk.1.out w0 a w hf hw hsel (down_add hd (ready_of q2 (by simp))) q3 hT.1 hS
  · exact wpOp_one (by simpa using ho') hf hw h2 fun fr hp a w hk hf hw => rs_after (p := q) hdr2 hk.2 hw fun hS => hk.1.out w0 a w hf hw hsel (down_add hd (ready_of q2 (by simp))) q4 hT.2.1 hS
  · exact wpOp_one (by simpa using ho2) hf hw h3 fun fr hp a w hk hf hw => rs_after (p := u) hdr3 hk.2 hw fun hS => hk.1.out w0 a w hf hw hsel (down_add hd (ready_of q2 (by simp))) q5 hT.2.2 hS
theorem Wk.cond {c : Operand} {x y : Code} (h : ∀ KT KF : List (Nat × SV) → Prop, (∀ fr, Wk X r Q (.c x :: t) ds fr hp → KT fr) → (∀ fr, Wk X r Q (.c y :: t) ds fr hp → KF fr) → condB fr c KT KF) : Wk X r Q (.c (.cond c x y) :: t) ds fr hp := by
  have h := h _ _ (fun _ h => h) fun _ h => h
  refine ⟨fun w0 a w hf hw => ?_⟩
  have at_ : ∀ {s : Nat} {v : SV}, lookN fr s = some v → a.eval (.tmp s) = den v := fun hs => ev_sound hf (x := .tmp _) hs
  unfold condB at h
  split at h
  · rename_i s
    split at h
    · rename_i hs; exact wpIn_cond_true (at_ hs) (h.out w0 a w hf hw)
    · rename_i hs; exact wpIn_cond_false (at_ hs) (h.out w0 a w hf hw)
    · rename_i f _ _ hs
      refine wpIn_cond_split (at_ hs) (fun hb => ?_) (fun hb => ?_)
      · exact (h.1 ((BF.H_iff f true).2 hb)).out w0 a w (hf.refine hs (by simp [den, hb, BF.b])) hw
      · exact (h.2 ((BF.H_iff f false).2 hb)).out w0 a w (hf.refine hs (by simp [den, hb, BF.b])) hw
    · exact h.elim
  · exact wpIn_cond_true rfl (h.out w0 a w hf hw)
  · exact wpIn_cond_false rfl (h.out w0 a w hf hw)
  · exact h.elim

/-- A loop, so many rounds. -/
theorem Wk.rounds {x : Code} (n : Nat) (h : Wk X r Q (.lp n x :: t) ds fr hp) : Wk X r Q (.c (.loop x) :: t) ds fr hp := ⟨fun w0 a w hf hw => wpIn_loop_rounds n (h.out w0 a w hf hw)⟩

theorem rounds_more {c : Code} {Q : Exit → Act → World → Prop} : ∀ {n m : Nat} {a : Act} {w : World}, Code.roundsIn (fw r) 0 P c Q n a w → n ≤ m → Code.roundsIn (fw r) 0 P c Q m a w
  | 0, _, _, _, h, _ => h.elim
  | n + 1, 0, _, _, _, hm => by omega
  | n + 1, m + 1, a, w, h, hm => by
    rw [roundsIn_succ] at h ⊢
    refine wpIn_mono h (fun e a w hq => ?_)
    cases e with
    | normal => exact rounds_more hq (by omega)
    | _ => exact hq

/-- A loop by what holds at its head. -/
theorem Wk.inv0 {x : Code} {ι : Type} (I : ι → Prop) (F : ι → List (Nat × SV)) (H : ι → List HB) (μ : ι → Nat) (h0 : ∃ i, I i ∧ fsub fr (F i) ∧ hsel (H i) hp)
    (hr : ∀ i, I i → Wk X r Q (.c x :: .k ds (fun fr' hp' => ∃ j, I j ∧ μ j < μ i ∧ fsub fr' (F j) ∧ hsel (H j) hp') :: t) ds (F i) (H i)) : Wk X r Q (.c (.loop x) :: t) ds fr hp := by
  refine ⟨fun w0 a w hf hw => ?_⟩
  obtain ⟨i, hi, hfs, hhs⟩ := h0
  have key : ∀ (m : Nat) (i : ι) (a : Act) (w : World), μ i = m → I i → FrOk X.N ds (F i) a → Holds w0 w (H i) → Code.roundsIn (fw r) 0 P x (contQ X r w0 t (Q.q w0)) (m + 1) a w := by
    intro m
    induction m using Nat.strongRecOn with
    | _ m ih =>
      intro i a w hm hi hf hw
      rw [roundsIn_succ]
      refine wpIn_mono ((hr i hi).out w0 a w hf hw) (fun e a' w' hK => ?_)
      cases e with
      | normal =>
        obtain ⟨fr', hp', ⟨j, hj, hlt, hfs, hhs⟩, hf', hw'⟩ := hK
        exact rounds_more (ih (μ j) (hm ▸ hlt) j a' w' rfl hj (fsub_sound hf' hfs) (hw'.sel hhs)) (by omega)
      | _ => exact hK
  exact wpIn_loop_rounds _ (key (μ i) i a w rfl hi (fsub_sound hf hfs) (hw.sel hhs))

/-- The slots that are kept, brought to light. -/
def keepK : List Nat → List (Nat × SV) → (List (Nat × SV) → Prop) → Prop
  | [], _, K => K []
  | t :: ts, fr, K => withV (lookN fr t) fun v => keepK ts fr fun kf => K ((t, v) :: kf)
theorem keepK_iff : ∀ {ts : List Nat} {fr : List (Nat × SV)} {K : List (Nat × SV) → Prop}, keepK ts fr K → ∃ kf, K kf
  | [], _, _, h => ⟨[], h⟩
  | t :: ts, fr, K, h => by
    obtain ⟨v, _, h⟩ := withV_iff h
    obtain ⟨kf, h⟩ := keepK_iff (K := fun kf => K ((t, v) :: kf)) h
    exact ⟨_, h⟩
/-- Blocks told anew. -/
def updL : List HB → List (Nat × (HB → HB)) → List HB
  | hp, [] => hp
  | hp, (i, f) :: us => match hp[i]? with
    | some b => updL (hp.set i (f b)) us
    | none => updL hp us
/-- The same block with other contents. -/
def HB.withC (b : HB) (c : Cts) : HB :=
  match b with
  | ⟨nm, own, kd, _⟩ => ⟨nm, own, kd, c⟩
def HB.force (b : HB) (K : HB → Prop) : Prop :=
  match b with
  | ⟨nm, own, kd, cts⟩ => match kd with
    | .ro => K ⟨nm, own, .ro, cts⟩
    | .wr t c => K ⟨nm, own, .wr t c, cts⟩
    | .ob o => K ⟨nm, own, .ob o, cts⟩
    | .mk ds => K ⟨nm, own, .mk ds, cts⟩
    | .gh J k => K ⟨nm, own, .gh J k, cts⟩
    | .bn ds => K ⟨nm, own, .bn ds, cts⟩
theorem HB.force_eq (b : HB) (K : HB → Prop) : b.force K = K b := by
  obtain ⟨nm, own, kd, cts⟩ := b
  cases kd <;> rfl
def updK : List HB → List (Nat × (HB → HB)) → (List HB → Prop) → Prop
  | hp, [], K => K hp
  | hp, (i, f) :: us, K => match hp[i]? with
    | some b => (f b).force fun b' => setHK hp i b' fun hp' => updK hp' us K
    | none => updK hp us K
theorem updK_eq : ∀ (us : List (Nat × (HB → HB))) (hp : List HB) (K : List HB → Prop), updK hp us K = K (updL hp us)
  | [], hp, K => rfl
  | (i, f) :: us, hp, K => by
    unfold updK updL
    split
    · rename_i b hb
      rw [HB.force_eq, setHK_eq, updK_eq us]
    · rename_i hb
      exact updK_eq us hp K
/-- A loop by what holds at its head: some slots told anew (U), some kept, some blocks told anew (V). -/
theorem Wk.inv {x : Code} {ι : Type} (I : ι → Prop) (keep : List Nat) (U : ι → List (Nat × SV)) (V : ι → List (Nat × (HB → HB))) (μ : ι → Nat)
    (h : ∀ (K : List (Nat × SV) → Prop), (∀ kf, (∃ i, I i ∧ fsub fr (U i ++ kf) ∧ hsel (updL hp (V i)) hp) →
      (∀ i, I i → updK hp (V i) fun H => Wk X r Q (.c x :: .k ds (fun fr' hp' => ∃ j, I j ∧ μ j < μ i ∧ fsub fr' (U j ++ kf) ∧ hsel (updL hp (V j)) hp') :: t) ds (U i ++ kf) H) → K kf) → keepK keep fr K) : Wk X r Q (.c (.loop x) :: t) ds fr hp := by
  obtain ⟨kf, h0, hr⟩ := keepK_iff (h (fun kf => (∃ i, I i ∧ fsub fr (U i ++ kf) ∧ hsel (updL hp (V i)) hp) ∧
      (∀ i, I i → updK hp (V i) fun H => Wk X r Q (.c x :: .k ds (fun fr' hp' => ∃ j, I j ∧ μ j < μ i ∧ fsub fr' (U j ++ kf) ∧ hsel (updL hp (V j)) hp') :: t) ds (U i ++ kf) H)) fun kf h0 hr => ⟨h0, hr⟩)
  exact Wk.inv0 I (fun i => U i ++ kf) (fun i => updL hp (V i)) μ h0 fun i hi => by have := hr i hi; rw [updK_eq] at this; exact this
/-- .. whose rounds may leave marks: the block of marks lies at m. -/
theorem Wk.kd {K : List Nat → List (Nat × SV) → List HB → Prop} (h : K ds fr hp) : Wk X r Q (.kd K :: t) ds fr hp := ⟨fun _ _ _ hf hw => ⟨ds, fr, hp, h, hf, hw⟩⟩
theorem Wk.invD0 {x : Code} {ι : Type} (I : ι → Prop) (F : ι → List (Nat × SV)) (H : ι → List Nat → List HB) (μ : ι → Nat) (h0 : ∃ i, I i ∧ fsub fr (F i) ∧ hsel (H i ds) hp)
    (hr : ∀ i D, I i → Wk X r Q (.c x :: .kd (fun D' fr' hp' => ∃ j, I j ∧ μ j < μ i ∧ fsub fr' (F j) ∧ hsel (H j D') hp') :: t) D (F i) (H i D)) : Wk X r Q (.c (.loop x) :: t) ds fr hp := by
  refine ⟨fun w0 a w hf hw => ?_⟩
  obtain ⟨i, hi, hfs, hhs⟩ := h0
  have key : ∀ (m : Nat) (i : ι) (D : List Nat) (a : Act) (w : World), μ i = m → I i → FrOk X.N D (F i) a → Holds w0 w (H i D) → Code.roundsIn (fw r) 0 P x (contQ X r w0 t (Q.q w0)) (m + 1) a w := by
    intro m
    induction m using Nat.strongRecOn with
    | _ m ih =>
      intro i D a w hm hi hf hw
      rw [roundsIn_succ]
      refine wpIn_mono ((hr i D hi).out w0 a w hf hw) (fun e a' w' hK => ?_)
      cases e with
      | normal =>
        obtain ⟨D', fr', hp', ⟨j, hj, hlt, hfs, hhs⟩, hf', hw'⟩ := hK
        exact rounds_more (ih (μ j) (hm ▸ hlt) j D' a' w' rfl hj (fsub_sound hf' hfs) (hw'.sel hhs)) (by omega)
      | _ => exact hK
  exact wpIn_loop_rounds _ (key (μ i) i ds a w rfl hi (fsub_sound hf hfs) (hw.sel hhs))
theorem Wk.invD {x : Code} {ι : Type} (I : ι → Prop) (keep : List Nat) (U : ι → List (Nat × SV)) (V : ι → List Nat → List (Nat × (HB → HB))) (μ : ι → Nat)
    (h : ∀ (K : List (Nat × SV) → Prop), (∀ kf, (∃ i, I i ∧ fsub fr (U i ++ kf) ∧ hsel (updL hp (V i ds)) hp) →
      (∀ i D, I i → updK hp (V i D) fun H => Wk X r Q (.c x :: .kd (fun D' fr' hp' => ∃ j, I j ∧ μ j < μ i ∧ fsub fr' (U j ++ kf) ∧ hsel (updL hp (V j D')) hp') :: t) D (U i ++ kf) H) → K kf) → keepK keep fr K) : Wk X r Q (.c (.loop x) :: t) ds fr hp := by
  obtain ⟨kf, h0, hr⟩ := keepK_iff (h (fun kf => (∃ i, I i ∧ fsub fr (U i ++ kf) ∧ hsel (updL hp (V i ds)) hp) ∧
      (∀ i D, I i → updK hp (V i D) fun H => Wk X r Q (.c x :: .kd (fun D' fr' hp' => ∃ j, I j ∧ μ j < μ i ∧ fsub fr' (U j ++ kf) ∧ hsel (updL hp (V j D')) hp') :: t) D (U i ++ kf) H)) fun kf h0 hr => ⟨h0, hr⟩)
  exact Wk.invD0 I (fun i => U i ++ kf) (fun i D => updL hp (V i D)) μ h0 fun i D hi => by have := hr i D hi; rw [updK_eq] at this; exact this
/-- All ways through a piece of code come together: some slots told anew, some kept, some blocks told anew. -/
theorem Wk.join {x : Code} {ι : Type} (I : ι → Prop) (keep : List Nat) (U : ι → List (Nat × SV)) (V : ι → List (Nat × (HB → HB)))
    (h : ∀ (K : List (Nat × SV) → Prop), (∀ kf, Wk X r Q (.c x :: .k ds (fun fr' hp' => ∃ j, I j ∧ fsub fr' (U j ++ kf) ∧ hsel (updL hp (V j)) hp') :: t) ds fr hp →
      (∀ i, I i → updK hp (V i) fun H => Wk X r Q t ds (U i ++ kf) H) → K kf) → keepK keep fr K) : Wk X r Q (.c x :: t) ds fr hp := by
  obtain ⟨kf, h1, h2⟩ := keepK_iff (h (fun kf => Wk X r Q (.c x :: .k ds (fun fr' hp' => ∃ j, I j ∧ fsub fr' (U j ++ kf) ∧ hsel (updL hp (V j)) hp') :: t) ds fr hp ∧
      (∀ i, I i → updK hp (V i) fun H => Wk X r Q t ds (U i ++ kf) H)) fun kf h1 h2 => ⟨h1, h2⟩)
  refine ⟨fun w0 a w hf hw => wpIn_mono (h1.out w0 a w hf hw) fun e a' w' hq => ?_⟩
  cases e with
  | normal =>
    obtain ⟨fr', hp', ⟨j, hj, hfs, hhs⟩, hf', hw'⟩ := hq
    have := h2 j hj
    rw [updK_eq] at this
    exact this.out w0 a' w' (fsub_sound hf' hfs) (hw'.sel hhs)
  | _ => exact hq
theorem like_cts {nm : Option Nm} {own : Bool} {kd : BK} {c c' : Cts} (h : c = c') : HB.like ⟨nm, own, kd, c⟩ ⟨nm, own, kd, c'⟩ := by subst h; exact .refl _
theorem spare_own {b : HB} (h : b.own = true) (hg : b.isGh = false) : b.spare := ⟨.inl h, hg⟩
theorem spare_ro {nm : Option Nm} {own : Bool} {c : Cts} : HB.spare ⟨nm, own, .ro, c⟩ := ⟨.inr fun _ h => h, rfl⟩
/-- An empty list that lies nowhere yet. -/
theorem Wk.nil (e : TypeId) (c : Cts) (hc : c.n = 0) (h : Wk X r Q t ds fr (hp ++ [⟨none, true, .wr e 0, c⟩])) : Wk X r Q t ds fr hp :=
  ⟨fun w0 a w hf hw => h.out w0 a w hf (hw.push ⟨hc, rfl⟩ rfl (fun _ g hg => hg.elim) (fun g hg => hg.elim) (fun g hg => by simp [HB.touch, HB.cl, HB.rd] at hg))⟩
/-- The place where marks are kept. -/
theorem Wk.mk0 (h : Wk X r Q t ds fr (hp ++ [⟨none, true, .mk [], .l []⟩])) : Wk X r Q t ds fr hp :=
  ⟨fun w0 a w hf hw => h.out w0 a w hf (hw.push ⟨List.nodup_nil, fun D hD => by cases hD⟩ rfl (fun _ g hg => by cases hg) (fun g hg => by cases hg) (fun g hg => by simp [HB.touch, HB.cl, HB.rd] at hg))⟩
end
end Go.Sy
