/- The types' table, callees' contracts, and the operations that leave the world alone. -/
import Derived.Test.YtcagdjbinkadpaaSxA
set_option linter.unusedSimpArgs false
set_option linter.unusedVariables false
namespace Go.Sx
open Go.RowKit

inductive TK where
  | scal
  | bool
  | arr (n e esz : Nat)
  | str (flds : List (Nat × Nat)) (tys : List Nat)
  | sli (e esz : Nat)
  | strg
  | int (k : IntKind)

structure TyI where
  k : TK
  size : Nat
  zero : List SV
  eqi : Bool

def TK.agg : TK → Bool
  | .arr .. | .str .. => true
  | _ => false

def SzOk (P : Program) (e s : Nat) : Prop := ∃ i, P.info? e = some i ∧ i.size = s

def FldsOk (P : Program) : List Field → List (Nat × Nat) → Prop
  | [], [] => True
  | f :: fs, p :: ps => f.offset = p.1 ∧ SzOk P f.type p.2 ∧ FldsOk P fs ps
  | _, _ => False

def KOk (P : Program) (t : TypeId) : TK → Prop
  | .scal => ∃ d, P.underlying t = some d ∧ (match d with | .array .. | .struct _ => False | _ => True)
  | .bool => P.underlying t = some .bool
  | .arr n e esz => P.underlying t = some (.array n e) ∧ SzOk P e esz
  | .str fl ts => ∃ fs, P.underlying t = some (.struct fs) ∧ FldsOk P fs.toList fl ∧ fs.toList.map (·.type) = ts
  | .sli e esz => P.underlying t = some (.slice e) ∧ SzOk P e esz
  | .strg => P.underlying t = some .string
  | .int k => P.underlying t = some (.int k)

def ints (xs : List Int) : Array Value := (xs.map (Value.int .i64)).toArray

structure TyOk (P : Program) (t : TypeId) (i : TyI) : Prop where
  info : ∃ f z, P.info? t = some f ∧ f.size = i.size ∧ f.zero = some z ∧ z.cells.toList = denL i.zero
  und : KOk P t i.k
  eqi : i.eqi = true → P.eqGuardType P.depth t = false ∧ ∀ xs ys : List Int, xs.length = i.size → ys.length = i.size → ∀ w, (Op.equalIn 10000 t (.agg (ints xs)) (.agg (ints ys))).run P w = .ok (xs == ys) w

def lookN {α : Type} : List (Nat × α) → Nat → Option α
  | [], _ => none
  | (k, v) :: r, t => if Nat.beq k t then some v else lookN r t

def TOk (P : Program) (T : List (Nat × TyI)) : Prop := ∀ t i, lookN T t = some i → TyOk P t i

theorem TOk.nil (P : Program) : TOk P [] := fun _ _ h => by simp [lookN] at h
theorem TOk.cons {P : Program} {T : List (Nat × TyI)} {t : Nat} {i : TyI} (h : TyOk P t i) (hT : TOk P T) : TOk P ((t, i) :: T) := fun u j hj => by
  unfold lookN at hj
  split at hj
  · rename_i he
    have : t = u := Nat.eq_of_beq_eq_true he
    subst this
    cases hj
    exact h
  · exact hT u j hj

/-- A contract: it leaves all that was there as it was; what it hands back is known ahead. -/
abbrev Ctr := List SV → List HB → (SV → Prop) → Prop
def CtrOk (P : Program) (f : FuncId) (c : Ctr) : Prop :=
  ∀ (args : List SV) (hp : List HB) (K : SV → Prop), c args hp K → ∃ v, K v ∧ ∀ w0 w, Holds w0 w hp → Calls P f (denL args).toArray w fun e w' => e = .returned (den v) ∧ Below w.heap.size w w'
def GOk (P : Program) (G : List (Nat × Ctr)) : Prop := ∀ f c, lookN G f = some c → CtrOk P f c
theorem GOk.nil (P : Program) : GOk P [] := fun _ _ h => by simp [lookN] at h
theorem GOk.cons {P : Program} {G : List (Nat × Ctr)} {f : Nat} {c : Ctr} (h : CtrOk P f c) (hG : GOk P G) : GOk P ((f, c) :: G) := fun u j hj => by
  unfold lookN at hj
  split at hj
  · rename_i he
    have : f = u := Nat.eq_of_beq_eq_true he
    subst this
    cases hj
    exact h
  · exact hG u j hj

/-- The frame: what its slots hold, as far as it is told. -/
structure FrOk (N : Nat) (fr : List (Nat × SV)) (a : Act) : Prop where
  size : a.tmps.size = N
  defers : a.defers = []
  slot : ∀ t v, lookN fr t = some v → a.tmps[t]? = some (den v)

def ofConst : Value → SV
  | .int .i64 n => .lit n
  | .int k n => .int k n
  | .bool true => .bool .tt
  | .bool false => .bool .ff
  | .string s => .str s
  | .slice none 0 0 => .nilsl
  | v => .val v
theorem den_ofConst (v : Value) : den (ofConst v) = v := by
  unfold ofConst
  split <;> rfl

def ev (fr : List (Nat × SV)) : Operand → Option SV
  | .tmp t => lookN fr t
  | .const v => some (ofConst v)
  | .func f => some (.fn f [] [])
  | .global _ => none
theorem ev_sound {N : Nat} {fr : List (Nat × SV)} {a : Act} (h : FrOk N fr a) {x : Operand} {v : SV} (hx : ev fr x = some v) : a.eval x = den v := by
  cases x with
  | tmp t => have := h.slot t v hx; simp [Act.eval, Array.getD_eq_getD_getElem?, this]
  | const c => cases hx; exact (den_ofConst c).symm
  | func f => cases hx; simp [Act.eval, den, denL]
  | global g => cases hx

def withV (o : Option SV) (K : SV → Prop) : Prop :=
  match o with
  | some v => K v
  | none => False
theorem withV_iff {o : Option SV} {K : SV → Prop} (h : withV o K) : ∃ v, o = some v ∧ K v := by
  cases o with
  | none => exact h.elim
  | some v => exact ⟨v, rfl, h⟩
def withVs (fr : List (Nat × SV)) : List Operand → (List SV → Prop) → Prop
  | [], K => K []
  | x :: xs, K => withV (ev fr x) fun v => withVs fr xs fun vs => K (v :: vs)
theorem withVs_iff {fr : List (Nat × SV)} : ∀ {xs : List Operand} {K : List SV → Prop}, withVs fr xs K → ∃ vs, K vs ∧ ∀ {N : Nat} {a : Act}, FrOk N fr a → xs.map a.eval = denL vs
  | [], K, h => ⟨[], h, fun _ => rfl⟩
  | x :: xs, K, h => by
    obtain ⟨v, hv, h⟩ := withV_iff h
    obtain ⟨vs, hK, hvs⟩ := withVs_iff h
    exact ⟨v :: vs, hK, fun hf => by simp [denL, ev_sound hf hv, hvs hf]⟩

/-- The constructor comes to light. -/
def SV.force (v : SV) (K : SV → Prop) : Prop :=
  match v with
  | .und => K .und
  | .bool f => K (.bool f)
  | .int k n => K (.int k n)
  | .lit n => K (.lit n)
  | .str s => K (.str s)
  | .ptr i nm o => K (.ptr i nm o)
  | .sl i a o l c => K (.sl i a o l c)
  | .nilsl => K .nilsl
  | .agg xs => K (.agg xs)
  | .tup xs => K (.tup xs)
  | .fn f a b => K (.fn f a b)
  | .val v => K (.val v)
theorem SV.force_eq (v : SV) (K : SV → Prop) : v.force K = K v := by cases v <;> rfl
def forceL : List SV → (List SV → Prop) → Prop
  | [], K => K []
  | v :: vs, K => v.force fun v => forceL vs fun vs => K (v :: vs)
theorem forceL_eq : ∀ (vs : List SV) (K : List SV → Prop), forceL vs K = K vs
  | [], _ => rfl
  | v :: vs, K => by rw [forceL, SV.force_eq, forceL_eq vs]

/-! ### Numbers -/
def I64 (n : Int) : Prop := -9223372036854775808 ≤ n ∧ n ≤ 9223372036854775807
theorem I64.wrap {n : Int} (h : I64 n) : IntKind.i64.wrap n = n := IntWalk.i64_in n h

def SV.num : SV → Option (IntKind × Int)
  | .int k n => some (k, n)
  | .lit n => some (.i64, n)
  | _ => none
theorem SV.num_den {v : SV} {k : IntKind} {n : Int} (h : v.num = some (k, n)) : den v = .int k n := by
  cases v <;> simp [SV.num] at h
  · obtain ⟨rfl, rfl⟩ := h; rfl
  · obtain ⟨rfl, rfl⟩ := h; rfl
def SV.isLit : SV → Bool
  | .lit _ => true
  | _ => false

def rng (k : IntKind) (v : Int) (K : SV → Prop) : Prop :=
  match k with
  | .i64 => I64 v ∧ K (.int .i64 v)
  | k => K (.int k (k.wrap v))
theorem rng_sound {k : IntKind} {v : Int} {K : SV → Prop} (h : rng k v K) : ∃ u, K u ∧ Value.int k (k.wrap v) = den u := by
  unfold rng at h
  split at h
  · exact ⟨_, h.2, by simp [den, h.1.wrap]⟩
  · exact ⟨_, h, rfl⟩

def bfOf : Bool → BF
  | true => .tt
  | false => .ff
theorem bfOf_b (b : Bool) : (bfOf b).b = b := by cases b <;> rfl

def evInt (op : BinOp) (k : IntKind) (m n : Int) (K : SV → Prop) : Prop :=
  match op with
  | .add => rng k (m + n) K
  | .sub => rng k (m - n) K
  | .mul => rng k (m * n) K
  | .quo => n ≠ 0 ∧ rng k (m.tdiv n) K
  | .rem => n ≠ 0 ∧ K (.int k (m.tmod n))
  | .lss => K (.bool (.lt m n))
  | .leq => K (.bool (.le m n))
  | .gtr => K (.bool (.lt n m))
  | .geq => K (.bool (.le n m))
  | .eql => K (.bool (.eq m n))
  | .neq => K (.bool (.not (.eq m n)))
  | .and => K (.int k (bits .and k m n))
  | .or => K (.int k (bits .or k m n))
  | .xor => K (.int k (bits .xor k m n))
  | _ => False
/-- Both known: what comes of it is known. -/
def evLit (op : BinOp) (m n : Int) (K : SV → Prop) : Prop :=
  match op with
  | .add => I64 (m + n) ∧ K (.lit (m + n))
  | .sub => I64 (m - n) ∧ K (.lit (m - n))
  | .mul => I64 (m * n) ∧ K (.lit (m * n))
  | .lss => K (.bool (bfOf (decide (m < n))))
  | .leq => K (.bool (bfOf (decide (m ≤ n))))
  | .gtr => K (.bool (bfOf (decide (n < m))))
  | .geq => K (.bool (bfOf (decide (n ≤ m))))
  | .eql => K (.bool (bfOf (decide (m = n))))
  | .neq => K (.bool (bfOf (!decide (m = n))))
  | op => evInt op .i64 m n K

theorem evInt_sound {P : Program} {op : BinOp} {k : IntKind} {m n : Int} {K : SV → Prop} (t : TypeId) (h : evInt op k m n K) :
    ∃ v, K v ∧ ∀ w x y, ((do eqGuard op t x y (.int k m) (.int k n); binOp op t (.int k m) (.int k n) : Sem Value)).run P w = .ok (den v) w := by
  cases op <;> simp only [evInt] at h
  case add => obtain ⟨v, hv, e⟩ := rng_sound h; exact ⟨v, hv, fun w x y => by simp [go_sem, ← e]⟩
  case sub => obtain ⟨v, hv, e⟩ := rng_sound h; exact ⟨v, hv, fun w x y => by simp [go_sem, ← e]⟩
  case mul => obtain ⟨v, hv, e⟩ := rng_sound h; exact ⟨v, hv, fun w x y => by simp [go_sem, ← e]⟩
  case quo => obtain ⟨v, hv, e⟩ := rng_sound h.2; exact ⟨v, hv, fun w x y => by simp [go_sem, Op.intDiv, h.1, ← e]⟩
  case rem => exact ⟨_, h.2, fun w x y => by simp [go_sem, Op.intDiv, h.1, den]⟩
  case lss => exact ⟨_, h, fun w x y => by simp [go_sem, den, BF.b]⟩
  case leq => exact ⟨_, h, fun w x y => by simp [go_sem, den, BF.b]⟩
  case gtr => exact ⟨_, h, fun w x y => by simp [go_sem, den, BF.b]⟩
  case geq => exact ⟨_, h, fun w x y => by simp [go_sem, den, BF.b]⟩
  case eql => exact ⟨_, h, fun w x y => by simp [go_sem, den, BF.b, BEq.beq]⟩
  case neq => exact ⟨_, h, fun w x y => by simp [go_sem, den, BF.b, bne, BEq.beq]⟩
  case and => exact ⟨_, h, fun w x y => by simp [go_sem, den]⟩
  case or => exact ⟨_, h, fun w x y => by simp [go_sem, den]⟩
  case xor => exact ⟨_, h, fun w x y => by simp [go_sem, den]⟩
theorem evLit_sound {P : Program} {op : BinOp} {m n : Int} {K : SV → Prop} (t : TypeId) (h : evLit op m n K) :
    ∃ v, K v ∧ ∀ w x y, ((do eqGuard op t x y (.int .i64 m) (.int .i64 n); binOp op t (.int .i64 m) (.int .i64 n) : Sem Value)).run P w = .ok (den v) w := by
  cases op <;> simp only [evLit] at h <;> first
    | exact evInt_sound t h
    | exact ⟨_, h.2, fun w x y => by simp [go_sem, h.1.wrap, den]⟩
    | exact ⟨_, h, fun w x y => by simp [go_sem, den, bfOf_b, bne, BEq.beq]⟩

def aggBF : List SV → List SV → Option BF
  | [], [] => some .tt
  | x :: xs, y :: ys =>
    match x.num, y.num with
    | some (.i64, m), some (.i64, n) => (aggBF xs ys).map fun f => match f with | .tt => .eq m n | f => .and (.eq m n) f
    | _, _ => none
  | _, _ => none
theorem aggBF_sound : ∀ {xs ys : List SV} {f : BF}, aggBF xs ys = some f → ∃ ms ns : List Int, denL xs = ms.map (Value.int .i64) ∧ denL ys = ns.map (Value.int .i64) ∧ f.b = (ms == ns) ∧ ms.length = xs.length ∧ ns.length = ys.length
  | [], [], f, h => by cases h; exact ⟨[], [], rfl, rfl, rfl, rfl, rfl⟩
  | x :: xs, y :: ys, f, h => by
    unfold aggBF at h
    split at h
    · rename_i m n hx hy
      cases hg : aggBF xs ys with
      | none => simp [hg] at h
      | some g =>
        obtain ⟨ms, ns, h1, h2, h3, h4, h5⟩ := aggBF_sound hg
        refine ⟨m :: ms, n :: ns, by simp [denL, SV.num_den hx, h1], by simp [denL, SV.num_den hy, h2], ?_, by simp [h4], by simp [h5]⟩
        simp only [hg, Option.map_some, Option.some.injEq] at h
        subst h
        have hb : ((m :: ms) == (n :: ns)) = (decide (m = n) && (ms == ns)) := by
          by_cases hmn : m = n <;> simp [List.cons_beq_cons, hmn]
        rw [hb, ← h3]
        split
        · simp [BF.b]
        · simp [BF.b]
    · cases h
  | [], _ :: _, f, h => by simp [aggBF] at h
  | _ :: _, [], f, h => by simp [aggBF] at h

def evBin (T : List (Nat × TyI)) (op : BinOp) (t : TypeId) (x y : SV) (K : SV → Prop) : Prop :=
  match x.num, y.num with
  | some (k, m), some (k', n) => if x.isLit && y.isLit then evLit op m n K else if k = k' then evInt op k m n K else False
  | _, _ =>
    match x, y with
    | .str a, .str b =>
      match op with
      | .eql => K (.bool (.atom (a == b)))
      | .neq => K (.bool (.not (.atom (a == b))))
      | .add => a.size + b.size ≤ 9223372036854775807 ∧ K (.str (a ++ b))
      | _ => False
    | .bool f, .bool g =>
      match lookN T t with
      | some ⟨.bool, _, _, _⟩ =>
        match op with
        | .eql => K (.bool (.atom (f.b == g.b)))
        | .neq => K (.bool (.not (.atom (f.b == g.b))))
        | _ => False
      | _ => False
    | .agg xs, .agg ys =>
      match lookN T t with
      | some i =>
        i.eqi = true ∧ Nat.beq xs.length i.size = true ∧ Nat.beq ys.length i.size = true ∧
        match aggBF xs ys with
        | some f =>
          match op with
          | .eql => K (.bool f)
          | .neq => K (.bool (.not f))
          | _ => False
        | none => False
      | none => False
    | _, _ => False

theorem SV.lit_num {v : SV} {k : IntKind} {n : Int} (h : v.num = some (k, n)) (hl : v.isLit = true) : k = .i64 := by
  cases v <;> simp [SV.isLit] at hl
  simp [SV.num] at h; exact h.1.symm

theorem evBin_sound {P : Program} {T : List (Nat × TyI)} (hT : TOk P T) {op : BinOp} {t : TypeId} {u v : SV} {K : SV → Prop} (h : evBin T op t u v K) :
    ∃ r, K r ∧ ∀ w x y, ((do eqGuard op t x y (den u) (den v); binOp op t (den u) (den v) : Sem Value)).run P w = .ok (den r) w := by
  unfold evBin at h
  split at h
  · rename_i k m k' n hm hn
    rw [SV.num_den hm, SV.num_den hn]
    split at h
    · rename_i hl
      simp only [Bool.and_eq_true] at hl
      cases SV.lit_num hm hl.1
      cases SV.lit_num hn hl.2
      exact evLit_sound t h
    · split at h
      · rename_i hk; subst hk; exact evInt_sound t h
      · exact h.elim
  · split at h
    · rename_i a b
      cases op <;> simp only at h
      case add => exact ⟨_, h.2, fun w x y => by simp [go_sem, den, binOp, Op.stringOp]; have := h.1; omega⟩
      case eql => exact ⟨_, h, fun w x y => by simp [go_sem, den, binOp, Op.stringOp, BF.b, beq_toListBytes]⟩
      case neq => exact ⟨_, h, fun w x y => by simp [go_sem, den, binOp, Op.stringOp, BF.b, bne, beq_toListBytes]⟩
    · rename_i f g
      split at h
      · rename_i s z q hi
        have hu : P.underlying t = some .bool := (hT _ _ hi).und
        have he : ∀ (p q : Bool) w, (Op.equalIn 10000 t (.bool p) (.bool q)).run P w = .ok (p == q) w := fun p q w => run_equalIn_bool w 9999 t _ _ hu
        cases op <;> simp only at h
        case eql => exact ⟨_, h, fun w x y => by simp [go_sem, den, binOp, Op.equal, Op.maxDepth, BF.b, he]⟩
        case neq => exact ⟨_, h, fun w x y => by simp [go_sem, den, binOp, Op.equal, Op.maxDepth, BF.b, he]⟩
      · exact h.elim
    · rename_i xs ys
      split at h
      · rename_i i hi
        obtain ⟨he, hx, hy, h⟩ := h
        split at h
        · rename_i f hf
          obtain ⟨ms, ns, h1, h2, h3, h4, h5⟩ := aggBF_sound hf
          obtain ⟨hg, hq⟩ := (hT _ _ hi).eqi he
          have hq := hq ms ns (h4.trans (Nat.eq_of_beq_eq_true hx)) (h5.trans (Nat.eq_of_beq_eq_true hy))
          cases op <;> simp only at h
          case eql => exact ⟨_, h, fun w x y => by
            simp only [den, h1, h2, Sem.run_bind]
            rw [run_eqGuard_agg _ _ _ _ _ _ _ hg, Result.andThen_ok, run_eql_struct]
            have := hq w; unfold ints at this; rw [this, h3]; rfl⟩
          case neq => exact ⟨_, h, fun w x y => by
            simp only [den, h1, h2, Sem.run_bind]
            rw [run_eqGuard_agg _ _ _ _ _ _ _ hg, Result.andThen_ok, run_neq_struct]
            have := hq w; unfold ints at this; rw [this, BF.b, h3]; rfl⟩
        · exact h.elim
      · exact h.elim
    · exact h.elim
end Go.Sx
