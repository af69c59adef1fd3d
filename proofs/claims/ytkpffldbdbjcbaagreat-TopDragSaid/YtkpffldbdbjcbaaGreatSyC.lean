/- The types' table, and the operations that leave the world alone. -/
import Derived.Test.YtkpffldbdbjcbaaGreatSyB
set_option linter.unusedSimpArgs false
set_option linter.unusedVariables false
namespace Go.Sy
open Go.RowKit

/-- Maps from whole numbers: to truth values; to a number with a truth value; to numbers. -/
inductive MK where
  | ib | im | ii
def MK.zero : MK → Value
  | .ib => .bool false
  | .im => .agg #[.int .i64 0, .bool false]
  | .ii => .int .i64 0
def MK.Ok (P : Program) (t : TypeId) (m : MK) : Prop := ∃ k e i, P.underlying t = some (.map k e) ∧ P.underlying k = some (.int .i64) ∧ P.info? e = some i ∧ i.zero = some m.zero
theorem MK.Ok.mk' {P : Program} {t k e : TypeId} {m : MK} (h1 : P.underlying t = some (.map k e)) (h2 : P.underlying k = some (.int .i64)) (h3 : (P.info? e).map (·.zero) = some (some m.zero)) : m.Ok P t := by
  cases hi : P.info? e with
  | none => rw [hi] at h3; cases h3
  | some i => rw [hi] at h3; exact ⟨k, e, i, h1, h2, hi, Option.some.inj h3⟩
inductive TK where
  | scal
  | bool
  | arr (n e esz : Nat)
  | str (flds : List (Nat × Nat)) (tys : List Nat)
  | sli (e esz : Nat)
  | strg
  | int (k : IntKind)
  | map (m : MK)
  | ptr (e : Nat)
  | uptr

/-- Of which kind the parts of a list are. -/
inductive ET where
  | no | int | cel | rul | gau | rat | pnt | bool | str | u8 | mrk | slc
def ET.zrow : ET → List SV
  | .no => []
  | .int => [.lit 0]
  | .cel => [.lit 0, .lit 0, .lit 0, .lit 0]
  | .rul | .rat | .pnt => [.lit 0, .lit 0]
  | .gau => [.lit 0, .lit 0, .lit 0, .lit 0, .lit 0, .lit 0, .lit 0, .lit 0, .lit 0, .lit 0]
  | .bool => [.bool .ff]
  | .str => [.str ⟨#[]⟩]
  | .u8 => [.int .u8 0]
  | .mrk => [.lit 0, .bool .ff]
  | .slc => [.nilsl]
structure TX where
  eqi : Bool
  bytes : Nat
  et : ET
structure TyI where
  k : TK
  size : Nat
  zero : List SV
  x : TX

def TK.agg : TK → Bool
  | .arr .. | .str .. => true
  | _ => false

def SzOk (P : Program) (e s : Nat) : Prop := ∃ i, P.info? e = some i ∧ i.size = s

def FldsOk (P : Program) : List Field → List (Nat × Nat) → Prop
  | [], [] => True
  | f :: fs, p :: ps => f.offset = p.1 ∧ SzOk P f.type p.2 ∧ FldsOk P fs ps
  | _, _ => False

def KOk (P : Program) (t : TypeId) : TK → Prop
  | .scal => ∃ d, P.underlying t = some d ∧ (match d with | .array .. | .struct _ => False | _ => True)
  | .bool => P.underlying t = some .bool
  | .arr n e esz => P.underlying t = some (.array n e) ∧ SzOk P e esz
  | .str fl ts => ∃ fs, P.underlying t = some (.struct fs) ∧ FldsOk P fs.toList fl ∧ fs.toList.map (·.type) = ts
  | .sli e esz => P.underlying t = some (.slice e) ∧ SzOk P e esz
  | .strg => P.underlying t = some .string
  | .int k => P.underlying t = some (.int k)
  | .map m => m.Ok P t
  | .ptr e => P.underlying t = some (.pointer e) ∧ ∃ j, P.info? e = some j ∧ j.size ≠ 0 ∧ liesAt P P.depth e (j.size / P.cellsOf e) 0 e 1 = true
  | .uptr => P.underlying t = some .unsafePointer

def ints (xs : List Int) : Array Value := (xs.map (Value.int .i64)).toArray

structure TyOk (P : Program) (t : TypeId) (i : TyI) : Prop where
  info : ∃ f z, P.info? t = some f ∧ f.size = i.size ∧ f.zero = some z ∧ z.cells.toList = denL i.zero
  und : KOk P t i.k
  by_ : (P.info? t).map (·.bytes) = some i.x.bytes
  et : match i.x.et with | .no => True | e => denL i.zero = denL e.zrow
  eqi : i.x.eqi = true → P.eqGuardType P.depth t = false ∧ ∀ xs ys : List Int, xs.length = i.size → ys.length = i.size → ∀ w, (Op.equalIn 10000 t (.agg (ints xs)) (.agg (ints ys))).run P w = .ok (xs == ys) w
  eqm : i.x.et = .mrk → P.eqGuardType P.depth t = false ∧ ∀ (x y : Int) (p q : Bool) w, (Op.equalIn 10000 t (.agg #[.int .i64 x, .bool p]) (.agg #[.int .i64 y, .bool q])).run P w = .ok (x == y && p == q) w

theorem TyOk.bytes {P : Program} {t : TypeId} {i : TyI} (h : TyOk P t i) {f : TypeInfo} (hf : P.info? t = some f) : f.bytes = i.x.bytes := by
  have := h.by_; rw [hf] at this; simpa using this
def lookN {α : Type} : List (Nat × α) → Nat → Option α
  | [], _ => none
  | (k, v) :: r, t => if Nat.beq k t then some v else lookN r t

def TOk (P : Program) (T : List (Nat × TyI)) : Prop := ∀ t i, lookN T t = some i → TyOk P t i

theorem TOk.nil (P : Program) : TOk P [] := fun _ _ h => by simp [lookN] at h
theorem TOk.cons {P : Program} {T : List (Nat × TyI)} {t : Nat} {i : TyI} (h : TyOk P t i) (hT : TOk P T) : TOk P ((t, i) :: T) := fun u j hj => by
  unfold lookN at hj
  split at hj
  · rename_i he
    have : t = u := Nat.eq_of_beq_eq_true he
    subst this
    cases hj
    exact h
  · exact hT u j hj

/-- A mark of a loop over a function, among the deferred calls. -/
def mark (D : Nat) : Deferred := { target := .collected D, args := #[] }
/-- The frame: what its slots hold, as far as it is told. -/
structure FrOk (N : Nat) (ds : List Nat) (fr : List (Nat × SV)) (a : Act) : Prop where
  size : a.tmps.size = N
  defers : a.defers = ds.map mark
  slot : ∀ t v, lookN fr t = some v → a.tmps[t]? = some (den v)

def ofConst : Value → SV
  | .int .i64 n => .lit n
  | .int k n => .int k n
  | .bool true => .bool .tt
  | .bool false => .bool .ff
  | .string s => .str s
  | .slice none 0 0 => .nilsl
  | v => .val v
theorem den_ofConst (v : Value) : den (ofConst v) = v := by
  unfold ofConst
  split <;> rfl

def ev (fr : List (Nat × SV)) : Operand → Option SV
  | .tmp t => lookN fr t
  | .const v => some (ofConst v)
  | .func f => some (.fn f [] [])
  | .global _ => none
theorem ev_sound {N : Nat} {ds : List Nat} {fr : List (Nat × SV)} {a : Act} (h : FrOk N ds fr a) {x : Operand} {v : SV} (hx : ev fr x = some v) : a.eval x = den v := by
  cases x with
  | tmp t => have := h.slot t v hx; simp [Act.eval, Array.getD_eq_getD_getElem?, this]
  | const c => cases hx; exact (den_ofConst c).symm
  | func f => cases hx; simp [Act.eval, den, denL]
  | global g => cases hx

def withV (o : Option SV) (K : SV → Prop) : Prop :=
  match o with
  | some v => K v
  | none => False
theorem withV_iff {o : Option SV} {K : SV → Prop} (h : withV o K) : ∃ v, o = some v ∧ K v := by
  cases o with
  | none => exact h.elim
  | some v => exact ⟨v, rfl, h⟩
def withVs (fr : List (Nat × SV)) : List Operand → (List SV → Prop) → Prop
  | [], K => K []
  | x :: xs, K => withV (ev fr x) fun v => withVs fr xs fun vs => K (v :: vs)
theorem withVs_iff {fr : List (Nat × SV)} : ∀ {xs : List Operand} {K : List SV → Prop}, withVs fr xs K → ∃ vs, K vs ∧ ∀ {N : Nat} {ds : List Nat} {a : Act}, FrOk N ds fr a → xs.map a.eval = denL vs
  | [], K, h => ⟨[], h, fun _ => rfl⟩
  | x :: xs, K, h => by
    obtain ⟨v, hv, h⟩ := withV_iff h
    obtain ⟨vs, hK, hvs⟩ := withVs_iff h
    exact ⟨v :: vs, hK, fun hf => by simp [denL, ev_sound hf hv, hvs hf]⟩

/-- The constructor comes to light. -/
def SV.force (v : SV) (K : SV → Prop) : Prop :=
  match v with
  | .und => K .und
  | .bool f => K (.bool f)
  | .int k n => K (.int k n)
  | .lit n => K (.lit n)
  | .str s => K (.str s)
  | .ptr i nm k s d => K (.ptr i nm k s d)
  | .sl i a k s l c => K (.sl i a k s l c)
  | .sub i nm k s d l c => K (.sub i nm k s d l c)
  | .map i g => K (.map i g)
  | .yld l => K (.yld l)
  | .nilsl => K .nilsl
  | .agg xs => K (.agg xs)
  | .tup xs => K (.tup xs)
  | .fn f a b => K (.fn f a b)
  | .val v => K (.val v)
theorem SV.force_eq (v : SV) (K : SV → Prop) : v.force K = K v := by cases v <;> rfl
def forceL : List SV → (List SV → Prop) → Prop
  | [], K => K []
  | v :: vs, K => v.force fun v => forceL vs fun vs => K (v :: vs)
theorem forceL_eq : ∀ (vs : List SV) (K : List SV → Prop), forceL vs K = K vs
  | [], _ => rfl
  | v :: vs, K => by rw [forceL, SV.force_eq, forceL_eq vs]

/-! ### Numbers -/
def I64 (n : Int) : Prop := -9223372036854775808 ≤ n ∧ n ≤ 9223372036854775807
theorem I64.wrap {n : Int} (h : I64 n) : IntKind.i64.wrap n = n := IntWalk.i64_in n h

def SV.isLit : SV → Bool
  | .lit _ => true
  | _ => false

def rng (k : IntKind) (v : Int) (K : SV → Prop) : Prop :=
  match k with
  | .i64 => I64 v ∧ K (.int .i64 v)
  | k => K (.int k (k.wrap v))
theorem rng_sound {k : IntKind} {v : Int} {K : SV → Prop} (h : rng k v K) : ∃ u, K u ∧ Value.int k (k.wrap v) = den u := by
  unfold rng at h
  split at h
  · exact ⟨_, h.2, by simp [den, h.1.wrap]⟩
  · exact ⟨_, h, rfl⟩

def bfOf : Bool → BF
  | true => .tt
  | false => .ff
theorem bfOf_b (b : Bool) : (bfOf b).b = b := by cases b <;> rfl

def evInt (op : BinOp) (k : IntKind) (m n : Int) (K : SV → Prop) : Prop :=
  match op with
  | .add => rng k (m + n) K
  | .sub => rng k (m - n) K
  | .mul => rng k (m * n) K
  | .quo => n ≠ 0 ∧ rng k (m.tdiv n) K
  | .rem => n ≠ 0 ∧ K (.int k (m.tmod n))
  | .lss => K (.bool (.lt m n))
  | .leq => K (.bool (.le m n))
  | .gtr => K (.bool (.lt n m))
  | .geq => K (.bool (.le n m))
  | .eql => K (.bool (.eq m n))
  | .neq => K (.bool (.not (.eq m n)))
  | .and => K (.int k (bits .and k m n))
  | .or => K (.int k (bits .or k m n))
  | .xor => K (.int k (bits .xor k m n))
  | _ => False
/-- Both known: what comes of it is known. -/
def evLit (op : BinOp) (m n : Int) (K : SV → Prop) : Prop :=
  match op with
  | .add => I64 (m + n) ∧ K (.lit (m + n))
  | .sub => I64 (m - n) ∧ K (.lit (m - n))
  | .mul => I64 (m * n) ∧ K (.lit (m * n))
  | .lss => K (.bool (bfOf (decide (m < n))))
  | .leq => K (.bool (bfOf (decide (m ≤ n))))
  | .gtr => K (.bool (bfOf (decide (n < m))))
  | .geq => K (.bool (bfOf (decide (n ≤ m))))
  | .eql => K (.bool (bfOf (decide (m = n))))
  | .neq => K (.bool (bfOf (!decide (m = n))))
  | op => evInt op .i64 m n K

theorem evInt_sound {P : Program} {op : BinOp} {k : IntKind} {m n : Int} {K : SV → Prop} (t : TypeId) (h : evInt op k m n K) :
    ∃ v, K v ∧ ∀ w x y, ((do eqGuard op t x y (.int k m) (.int k n); binOp op t (.int k m) (.int k n) : Sem Value)).run P w = .ok (den v) w := by
  cases op <;> simp only [evInt] at h
  case add => obtain ⟨v, hv, e⟩ := rng_sound h; exact ⟨v, hv, fun w x y => by simp [go_sem, ← e]⟩
  case sub => obtain ⟨v, hv, e⟩ := rng_sound h; exact ⟨v, hv, fun w x y => by simp [go_sem, ← e]⟩
  case mul => obtain ⟨v, hv, e⟩ := rng_sound h; exact ⟨v, hv, fun w x y => by simp [go_sem, ← e]⟩
  case quo => obtain ⟨v, hv, e⟩ := rng_sound h.2; exact ⟨v, hv, fun w x y => by simp [go_sem, Op.intDiv, h.1, ← e]⟩
  case rem => exact ⟨_, h.2, fun w x y => by simp [go_sem, Op.intDiv, h.1, den]⟩
  case lss => exact ⟨_, h, fun w x y => by simp [go_sem, den, BF.b]⟩
  case leq => exact ⟨_, h, fun w x y => by simp [go_sem, den, BF.b]⟩
  case gtr => exact ⟨_, h, fun w x y => by simp [go_sem, den, BF.b]⟩
  case geq => exact ⟨_, h, fun w x y => by simp [go_sem, den, BF.b]⟩
  case eql => exact ⟨_, h, fun w x y => by simp [go_sem, den, BF.b, BEq.beq]⟩
  case neq => exact ⟨_, h, fun w x y => by simp [go_sem, den, BF.b, bne, BEq.beq]⟩
  case and => exact ⟨_, h, fun w x y => by simp [go_sem, den]⟩
  case or => exact ⟨_, h, fun w x y => by simp [go_sem, den]⟩
  case xor => exact ⟨_, h, fun w x y => by simp [go_sem, den]⟩
theorem evLit_sound {P : Program} {op : BinOp} {m n : Int} {K : SV → Prop} (t : TypeId) (h : evLit op m n K) :
    ∃ v, K v ∧ ∀ w x y, ((do eqGuard op t x y (.int .i64 m) (.int .i64 n); binOp op t (.int .i64 m) (.int .i64 n) : Sem Value)).run P w = .ok (den v) w := by
  cases op <;> simp only [evLit] at h <;> first
    | exact evInt_sound t h
    | exact ⟨_, h.2, fun w x y => by simp [go_sem, h.1.wrap, den]⟩
    | exact ⟨_, h, fun w x y => by simp [go_sem, den, bfOf_b, bne, BEq.beq]⟩

/-- A number and a truth value, held against another two. -/
def bfEq (f g : BF) : BF := match g with
  | .tt => f
  | .ff => .not f
  | g => .atom (f.b == g.b)
theorem bfEq_b (f g : BF) : (bfEq f g).b = (f.b == g.b) := by
  unfold bfEq
  split
  · cases h : f.b <;> simp [BF.b]
  · cases h : f.b <;> simp [BF.b, h]
  · simp [BF.b]
def mrkEq (xs ys : List SV) (K : BF → Prop) : Prop :=
  match xs, ys with
  | [x, .bool f], [y, .bool g] => match x.num, y.num with
    | some (.i64, m), some (.i64, n) => K (.and (.eq m n) (bfEq f g))
    | _, _ => False
  | _, _ => False
theorem mrkEq_sound {xs ys : List SV} {K : BF → Prop} (h : mrkEq xs ys K) : ∃ f m n p q, K f ∧ (denL xs).toArray = #[Value.int .i64 m, .bool p] ∧ (denL ys).toArray = #[Value.int .i64 n, .bool q] ∧ f.b = (m == n && p == q) := by
  unfold mrkEq at h
  split at h
  · rename_i x f y g
    split at h
    · rename_i m n hx hy
      refine ⟨_, m, n, f.b, g.b, h, by simp [denL, den, SV.num_den hx], by simp [denL, den, SV.num_den hy], ?_⟩
      simp only [BF.b, bfEq_b]
      rw [Bool.eq_iff_iff]; simp
    · exact h.elim
  · exact h.elim
def aggBF : List SV → List SV → Option BF
  | [], [] => some .tt
  | x :: xs, y :: ys =>
    match x.num, y.num with
    | some (.i64, m), some (.i64, n) => (aggBF xs ys).map fun f => match f with | .tt => .eq m n | f => .and (.eq m n) f
    | _, _ => none
  | _, _ => none
theorem aggBF_sound : ∀ {xs ys : List SV} {f : BF}, aggBF xs ys = some f → ∃ ms ns : List Int, denL xs = ms.map (Value.int .i64) ∧ denL ys = ns.map (Value.int .i64) ∧ f.b = (ms == ns) ∧ ms.length = xs.length ∧ ns.length = ys.length
  | [], [], f, h => by cases h; exact ⟨[], [], rfl, rfl, rfl, rfl, rfl⟩
  | x :: xs, y :: ys, f, h => by
    unfold aggBF at h
    split at h
    · rename_i m n hx hy
      cases hg : aggBF xs ys with
      | none => simp [hg] at h
      | some g =>
        obtain ⟨ms, ns, h1, h2, h3, h4, h5⟩ := aggBF_sound hg
        refine ⟨m :: ms, n :: ns, by simp [denL, SV.num_den hx, h1], by simp [denL, SV.num_den hy, h2], ?_, by simp [h4], by simp [h5]⟩
        simp only [hg, Option.map_some, Option.some.injEq] at h
        subst h
        have hb : ((m :: ms) == (n :: ns)) = (decide (m = n) && (ms == ns)) := by
          by_cases hmn : m = n <;> simp [List.cons_beq_cons, hmn]
        rw [hb, ← h3]
        split
        · simp [BF.b]
        · simp [BF.b]
    · cases h
  | [], _ :: _, f, h => by simp [aggBF] at h
  | _ :: _, [], f, h => by simp [aggBF] at h

def evBin (T : List (Nat × TyI)) (op : BinOp) (t : TypeId) (x y : SV) (K : SV → Prop) : Prop :=
  match x.num, y.num with
  | some (k, m), some (k', n) => if x.isLit && y.isLit then evLit op m n K else if k = k' then evInt op k m n K else False
  | _, _ =>
    match x, y with
    | .str a, .str b =>
      match op with
      | .eql => K (.bool (.atom (a == b)))
      | .neq => K (.bool (.not (.atom (a == b))))
      | .add => a.size + b.size ≤ 9223372036854775807 ∧ K (.str (a ++ b))
      | _ => False
    | .bool f, .bool g =>
      match lookN T t with
      | some ⟨.bool, _, _, _⟩ =>
        match op with
        | .eql => K (.bool (.atom (f.b == g.b)))
        | .neq => K (.bool (.not (.atom (f.b == g.b))))
        | _ => False
      | _ => False
    | .agg xs, .agg ys =>
      match lookN T t with
      | some i => match i.x.et with
        | .mrk => mrkEq xs ys fun f =>
          match op with
          | .eql => K (.bool f)
          | .neq => K (.bool (.not f))
          | _ => False
        | _ =>
        i.x.eqi = true ∧ Nat.beq xs.length i.size = true ∧ Nat.beq ys.length i.size = true ∧
        match aggBF xs ys with
        | some f =>
          match op with
          | .eql => K (.bool f)
          | .neq => K (.bool (.not f))
          | _ => False
        | none => False
      | none => False
    | .sl _ a _ _ _ _, .nilsl =>
      match lookN T t with
      | some ⟨.sli _ _, _, _, _⟩ => match op with
        | .eql => K (.bool (.atom a.isNone))
        | .neq => K (.bool (.not (.atom a.isNone)))
        | _ => False
      | _ => False
    | .nilsl, .nilsl =>
      match lookN T t with
      | some ⟨.sli _ _, _, _, _⟩ => match op with
        | .eql => K (.bool .tt)
        | .neq => K (.bool .ff)
        | _ => False
      | _ => False
    | .ptr .., .val (.pointer none) =>
      match lookN T t with
      | some ⟨.ptr _, _, _, _⟩ => match op with
        | .eql => K (.bool .ff)
        | .neq => K (.bool .tt)
        | _ => False
      | _ => False
    | .val (.pointer none), .val (.pointer none) =>
      match lookN T t with
      | some ⟨.ptr _, _, _, _⟩ => match op with
        | .eql => K (.bool .tt)
        | .neq => K (.bool .ff)
        | _ => False
      | _ => False
    | .ptr _ nm k s d, .ptr _ nm' k' s' d' =>
      match lookN T t with
      | some ⟨.ptr _, _, _, _⟩ => (nm = nm' ∧ k * s + d = k' * s' + d') ∧ match op with
        | .eql => K (.bool .tt)
        | .neq => K (.bool .ff)
        | _ => False
      | _ => False
    | _, _ => False

theorem equal_pn {P : Program} {T : List (Nat × TyI)} (hT : TOk P T) {t e sz : Nat} {z : List SV} {x : TX} (hi : lookN T t = some ⟨.ptr e, sz, z, x⟩) (a : Option Addr) (w : World) :
    (Op.equal t (.pointer a) (.pointer none)).run P w = .ok a.isNone w := by
  obtain ⟨hu, _⟩ := (hT _ _ hi).und
  unfold Op.equal
  show (Op.equalIn (_ + 1) t (.pointer a) (.pointer none)).run P w = _
  rw [Op.equalIn]
  simp only [Sem.run_bind, run_underlying hu, Result.andThen_ok]
  cases a <;> simp
theorem equal_pp {P : Program} {T : List (Nat × TyI)} (hT : TOk P T) {t e sz : Nat} {z : List SV} {x : TX} (hi : lookN T t = some ⟨.ptr e, sz, z, x⟩) (a : Addr) (w : World) :
    (Op.equal t (.pointer (some a)) (.pointer (some a))).run P w = .ok true w := by
  obtain ⟨hu, j, hj, hn, _⟩ := (hT _ _ hi).und
  unfold Op.equal
  show (Op.equalIn (_ + 1) t (.pointer (some a)) (.pointer (some a))).run P w = _
  rw [Op.equalIn]
  simp only [Sem.run_bind, run_underlying hu, Result.andThen_ok]
  simp [sizeOf, typeInfo, hj, hn, sameAddr]
theorem equal_sl {P : Program} {T : List (Nat × TyI)} (hT : TOk P T) {t e s sz : Nat} {z : List SV} {x : TX} (hi : lookN T t = some ⟨.sli e s, sz, z, x⟩) (a : Option Addr) (l c : Nat) (w : World) :
    (Op.equal t (.slice a l c) (.slice none 0 0)).run P w = .ok a.isNone w := by
  obtain ⟨hu, _⟩ := (hT _ _ hi).und
  unfold Op.equal
  show (Op.equalIn (_ + 1) t (.slice a l c) (.slice none 0 0)).run P w = _
  rw [Op.equalIn]
  simp only [Sem.run_bind, run_underlying hu, Result.andThen_ok]
  cases a <;> simp
theorem SV.lit_num {v : SV} {k : IntKind} {n : Int} (h : v.num = some (k, n)) (hl : v.isLit = true) : k = .i64 := by
  cases v <;> simp [SV.isLit] at hl
  simp [SV.num] at h; exact h.1.symm

theorem evBin_sound {P : Program} {T : List (Nat × TyI)} (hT : TOk P T) {op : BinOp} {t : TypeId} {u v : SV} {K : SV → Prop} (h : evBin T op t u v K) :
    ∃ r, K r ∧ ∀ w x y, ((do eqGuard op t x y (den u) (den v); binOp op t (den u) (den v) : Sem Value)).run P w = .ok (den r) w := by
  unfold evBin at h
  split at h
  · rename_i k m k' n hm hn
    rw [SV.num_den hm, SV.num_den hn]
    split at h
    · rename_i hl
      simp only [Bool.and_eq_true] at hl
      cases SV.lit_num hm hl.1
      cases SV.lit_num hn hl.2
      exact evLit_sound t h
    · split at h
      · rename_i hk; subst hk; exact evInt_sound t h
      · exact h.elim
  · split at h
    · rename_i a b
      cases op <;> simp only at h
      case add => exact ⟨_, h.2, fun w x y => by simp [go_sem, den, binOp, Op.stringOp]; have := h.1; omega⟩
      case eql => exact ⟨_, h, fun w x y => by simp [go_sem, den, binOp, Op.stringOp, BF.b, beq_toListBytes]⟩
      case neq => exact ⟨_, h, fun w x y => by simp [go_sem, den, binOp, Op.stringOp, BF.b, bne, beq_toListBytes]⟩
    · rename_i f g
      split at h
      · rename_i s z q hi
        have hu : P.underlying t = some .bool := (hT _ _ hi).und
        have he : ∀ (p q : Bool) w, (Op.equalIn 10000 t (.bool p) (.bool q)).run P w = .ok (p == q) w := fun p q w => run_equalIn_bool w 9999 t _ _ hu
        cases op <;> simp only at h
        case eql => exact ⟨_, h, fun w x y => by simp [go_sem, den, binOp, Op.equal, Op.maxDepth, BF.b, he]⟩
        case neq => exact ⟨_, h, fun w x y => by simp [go_sem, den, binOp, Op.equal, Op.maxDepth, BF.b, he]⟩
      · exact h.elim
    · rename_i xs ys
      split at h
      · rename_i i hi
        split at h
        · rename_i hm
          obtain ⟨hg, hq⟩ := (hT _ _ hi).eqm hm
          obtain ⟨f, m, n, p, q, h, h1, h2, h3⟩ := mrkEq_sound h
          have hq := hq m n p q
          cases op <;> simp only at h
          case eql => exact ⟨_, h, fun w x y => by
            simp only [den, h1, h2, Sem.run_bind]
            rw [run_eqGuard_agg _ _ _ _ _ _ _ hg, Result.andThen_ok, run_eql_struct, hq w, h3]; rfl⟩
          case neq => exact ⟨_, h, fun w x y => by
            simp only [den, h1, h2, Sem.run_bind]
            rw [run_eqGuard_agg _ _ _ _ _ _ _ hg, Result.andThen_ok, run_neq_struct, hq w, BF.b, h3]; rfl⟩
        obtain ⟨he, hx, hy, h⟩ := h
        split at h
        · rename_i f hf
          obtain ⟨ms, ns, h1, h2, h3, h4, h5⟩ := aggBF_sound hf
          obtain ⟨hg, hq⟩ := (hT _ _ hi).eqi he
          have hq := hq ms ns (h4.trans (Nat.eq_of_beq_eq_true hx)) (h5.trans (Nat.eq_of_beq_eq_true hy))
          cases op <;> simp only at h
          case eql => exact ⟨_, h, fun w x y => by
            simp only [den, h1, h2, Sem.run_bind]
            rw [run_eqGuard_agg _ _ _ _ _ _ _ hg, Result.andThen_ok, run_eql_struct]
            have := hq w; unfold ints at this; rw [this, h3]; rfl⟩
          case neq => exact ⟨_, h, fun w x y => by
            simp only [den, h1, h2, Sem.run_bind]
            rw [run_eqGuard_agg _ _ _ _ _ _ _ hg, Result.andThen_ok, run_neq_struct]
            have := hq w; unfold ints at this; rw [this, BF.b, h3]; rfl⟩
        · exact h.elim
      · exact h.elim
    · rename_i j a k s len cap _
      split at h
      · rename_i hi
        have he := fun w => equal_sl hT hi (a.map fun nm => ⟨nm.g, nm.b + k * s, none⟩) len cap w
        have hn : (a.map fun nm : Nm => (⟨nm.g, nm.b + k * s, none⟩ : Addr)).isNone = a.isNone := by cases a <;> rfl
        cases op <;> simp only at h
        case eql => exact ⟨_, h, fun w x y => by simp [den, eqGuard, binOp, he, hn, BF.b]⟩
        case neq => exact ⟨_, h, fun w x y => by simp [den, eqGuard, binOp, he, hn, BF.b]⟩
      · exact h.elim
    · split at h
      · rename_i hi
        have he := fun w => equal_sl hT hi none 0 0 w
        cases op <;> simp only at h
        case eql => exact ⟨_, h, fun w x y => by simp [den, eqGuard, binOp, he, BF.b]⟩
        case neq => exact ⟨_, h, fun w x y => by simp [den, eqGuard, binOp, he, BF.b]⟩
      · exact h.elim
    · split at h
      · rename_i hi
        have he := fun a w => equal_pn hT hi a w
        cases op <;> simp only at h
        case eql => exact ⟨_, h, fun w x y => by simp [den, eqGuard, binOp, he, BF.b]⟩
        case neq => exact ⟨_, h, fun w x y => by simp [den, eqGuard, binOp, he, BF.b]⟩
      · exact h.elim
    · split at h
      · rename_i hi
        have he := fun a w => equal_pn hT hi a w
        cases op <;> simp only at h
        case eql => exact ⟨_, h, fun w x y => by simp [den, eqGuard, binOp, he, BF.b]⟩
        case neq => exact ⟨_, h, fun w x y => by simp [den, eqGuard, binOp, he, BF.b]⟩
      · exact h.elim
    · rename_i nm k s d _ nm' k' s' d' _
      split at h
      · rename_i hi
        obtain ⟨⟨rfl, ho⟩, h⟩ := h
        have he := fun w => equal_pp hT hi ⟨nm.g, nm.b + (k' * s' + d'), none⟩ w
        cases op <;> simp only at h
        case eql => exact ⟨_, h, fun w x y => by simp [den, ho, eqGuard, binOp, he, BF.b]⟩
        case neq => exact ⟨_, h, fun w x y => by simp [den, ho, eqGuard, binOp, he, BF.b]⟩
      · exact h.elim
    · exact h.elim
def evPick (c : SV) (x y : Option SV) (K : SV → Prop) : Prop :=
  match c with
  | .bool .tt => withV x K
  | .bool .ff => withV y K
  | .bool f => (f.H true → withV x K) ∧ (f.H false → withV y K)
  | _ => False
theorem evPick_sound {c : SV} {x y : Option SV} {K : SV → Prop} (h : evPick c x y K) : ∃ v b, K v ∧ den c = .bool b ∧ (if b then x else y) = some v := by
  unfold evPick at h
  split at h
  · obtain ⟨v, hv, h⟩ := withV_iff h; exact ⟨v, true, h, rfl, hv⟩
  · obtain ⟨v, hv, h⟩ := withV_iff h; exact ⟨v, false, h, rfl, hv⟩
  · rename_i f _ _
    cases hb : f.b with
    | true => obtain ⟨v, hv, h⟩ := withV_iff (h.1 ((BF.H_iff f true).2 hb)); exact ⟨v, true, h, by simp [den, hb], hv⟩
    | false => obtain ⟨v, hv, h⟩ := withV_iff (h.2 ((BF.H_iff f false).2 hb)); exact ⟨v, false, h, by simp [den, hb], hv⟩
  · exact h.elim

def evUn (op : UnOp) (x : SV) (K : SV → Prop) : Prop :=
  match op, x with
  | .not, .bool .tt => K (.bool .ff)
  | .not, .bool .ff => K (.bool .tt)
  | .not, .bool f => K (.bool (.not f))
  | .neg, .lit n => I64 (0 - n) ∧ K (.lit (0 - n))
  | .neg, .int k n => rng k (0 - n) K
  | _, _ => False
theorem evUn_sound {P : Program} {op : UnOp} {x : SV} {K : SV → Prop} (h : evUn op x K) : ∃ v, K v ∧ ∀ w, (Op.unary op (den x)).run P w = .ok (den v) w := by
  unfold evUn at h
  split at h
  · exact ⟨_, h, fun w => by simp [Op.unary, den, BF.b]⟩
  · exact ⟨_, h, fun w => by simp [Op.unary, den, BF.b]⟩
  · exact ⟨_, h, fun w => by simp [Op.unary, den, BF.b]⟩
  · exact ⟨_, h.2, fun w => by simp only [Op.unary, den, Op.intArith]; rw [h.1.wrap]; rfl⟩
  · obtain ⟨v, hv, e⟩ := rng_sound h
    exact ⟨v, hv, fun w => by simp only [Op.unary, den, Op.intArith]; rw [e]; rfl⟩
  · exact h.elim

/-- The cells of a value that may be stored, or be a part. -/
def SV.row : SV → Option (List SV)
  | .agg xs => if xs.all SV.one then some xs else none
  | v => if v.one then some [v] else none
theorem SV.row_sound {v : SV} {xs : List SV} (h : v.row = some xs) : (den v).cells = (denL xs).toArray ∧ ∀ u ∈ denL xs, u.oneCell' = true := by
  unfold SV.row at h
  split at h
  · rename_i ys
    split at h
    · rename_i hall
      cases h
      refine ⟨by simp [den, Value.cells], fun u hu => ?_⟩
      rw [denL_map, List.mem_map] at hu
      obtain ⟨x, hx, rfl⟩ := hu
      exact SV.one_cell (List.all_eq_true.1 hall x hx)
    · cases h
  · split at h
    · rename_i h1
      cases h
      refine ⟨by rw [SV.one_cells h1]; simp [denL], fun u hu => ?_⟩
      simp only [denL, List.mem_singleton] at hu
      subst hu; exact SV.one_cell h1
    · cases h

/-- Cells from o on. -/
def rangeL (xs : List SV) : Nat → Nat → List SV
  | _, 0 => []
  | o, n + 1 => xs.getD o .und :: rangeL xs (o + 1) n
theorem rangeL_eq (xs : List SV) : ∀ n o, rangeL xs o n = (List.range n).map fun j => xs.getD (o + j) .und
  | 0, o => rfl
  | n + 1, o => by
    rw [rangeL, rangeL_eq xs n (o + 1), List.range_succ_eq_map]
    simp [Function.comp_def, Nat.add_assoc, Nat.add_comm 1]

/-- A block of cells. -/
def HB.isC (b : HB) : Bool :=
  match b.kd with
  | .ro | .wr .. => true
  | _ => false
theorem HB.isC_kd {b : HB} (h : b.isC = true) : match b.kd with | .ro | .wr .. => True | _ => False := by
  unfold HB.isC at h
  revert h
  cases b.kd <;> simp

def evLoad (T : List (Nat × TyI)) (t : TypeId) (hp : List HB) (x : SV) (K : SV → Prop) : Prop :=
  match x with
  | .ptr i nm k s d =>
    match hp[i]?, lookN T t with
    | some b, some ty =>
      match b.isC with
      | true => b.nm = some nm ∧
        match b.cts with
        | .l xs => match Nat.ble (k * s + d + ty.size) xs.length && Nat.ble 1 ty.size with
          | true => if ty.k.agg then forceL (rangeL xs (k * s + d) ty.size) fun vs => K (.agg vs) else (xs.getD (k * s + d) .und).force K
          | false => False
        | c => match Nat.beq c.s s && (Nat.ble (d + ty.size) c.s && Nat.ble 1 ty.size) with
          | true => k < c.len ∧ if ty.k.agg then forceL (rangeL (c.row k) d ty.size) fun vs => K (.agg vs) else ((c.row k).getD d .und).force K
          | false => False
      | false => False
    | _, _ => False
  | _ => False

theorem run_isAgg {P : Program} {t : TypeId} {k : TK} (h : KOk P t k) (w : World) : (isAgg t).run P w = .ok k.agg w := by
  unfold isAgg
  cases k with
  | scal =>
    obtain ⟨d, hu, hd⟩ := h
    rw [Sem.run_bind, run_underlying hu]
    cases d <;> first | exact hd.elim | rfl
  | bool => rw [Sem.run_bind, run_underlying h]; rfl
  | arr n e s => rw [Sem.run_bind, run_underlying h.1]; rfl
  | str fl => obtain ⟨fs, hu, _⟩ := h; rw [Sem.run_bind, run_underlying hu]; rfl
  | sli e s => rw [Sem.run_bind, run_underlying h.1]; rfl
  | strg => rw [Sem.run_bind, run_underlying h]; rfl
  | int k => rw [Sem.run_bind, run_underlying h]; rfl
  | map m => obtain ⟨k, e, i, hu, _⟩ := h; rw [Sem.run_bind, run_underlying hu]; rfl
  | ptr e => rw [Sem.run_bind, run_underlying h.1]; rfl
  | uptr => rw [Sem.run_bind, run_underlying h]; rfl
theorem run_sizeOf {P : Program} {e s : Nat} (h : SzOk P e s) (w : World) : (sizeOf e).run P w = .ok s w := by
  obtain ⟨i, hi, hs⟩ := h
  simp [sizeOf, typeInfo, hi, hs]
theorem TyOk.sz {P : Program} {t : TypeId} {i : TyI} (h : TyOk P t i) : SzOk P t i.size := by
  obtain ⟨f, z, h1, h2, _⟩ := h.info
  exact ⟨f, h1, h2⟩

theorem run_loadCells_in (P : Program) (w : World) (g b n : Nat) (get : Nat → Value) (h : ∀ o, o < n → w.cell? ⟨g, b + o, none⟩ = some (get o)) :
    (loadCells ⟨g, b, none⟩ n).run P w = .ok ((List.range n).map get).toArray w := by
  have := run_loadCells (P := P) (w := w) ⟨g, b, none⟩ n get (fun j hj => by rw [Addr.add_lit]; exact h j hj)
  rw [this]
/-- So many cells of a block, in a row. -/
theorem load_sound {P : Program} {T : List (Nat × TyI)} (hT : TOk P T) {t : TypeId} {ty : TyI} (hty : lookN T t = some ty) {b : HB} {nm : Nm} (hC : b.isC = true) (hnm : b.nm = some nm) {k s d : Nat} {xs : List SV} {e : Nat} {K : SV → Prop}
    (hsz : 1 ≤ ty.size) (hn : k * s + d + ty.size ≤ b.cts.n) (he : ∀ j, j < ty.size → b.cts.get (k * s + d + j) = xs.getD (e + j) .und)
    (h : if ty.k.agg then forceL (rangeL xs e ty.size) fun vs => K (.agg vs) else (xs.getD e .und).force K) (i : Nat) :
    ∃ v, K v ∧ ∀ w, b.ok w → (Instr.loadAt t (den (.ptr i nm k s d))).run P w = .ok (den v) w := by
  have hty := hT _ _ hty
  split at h
  · rename_i hagg
    rw [forceL_eq] at h
    refine ⟨_, h, fun w hbk => ?_⟩
    simp only [Instr.loadAt, den, Instr.sureAddr, Sem.run_bind, Sem.run_pure, Result.andThen_ok, loadVar, run_isAgg hty.und, hagg, if_true, run_sizeOf hty.sz]
    rw [run_loadCells_in P w nm.g (nm.b + (k * s + d)) ty.size (fun j => den (xs.getD (e + j) .und)) (fun j hj => by rw [Nat.add_assoc, hbk.cell hnm (by omega) (HB.isC_kd hC), he j hj])]
    simp [denL_map, rangeL_eq, Function.comp_def]
  · rename_i hagg
    rw [SV.force_eq] at h
    refine ⟨_, h, fun w hbk => ?_⟩
    simp only [Instr.loadAt, den, Instr.sureAddr, Sem.run_bind, Sem.run_pure, Result.andThen_ok, loadVar, run_isAgg hty.und, hagg]
    have hc := hbk.cell hnm (o := k * s + d) (by omega) (HB.isC_kd hC)
    have h0 := he 0 (by omega)
    simp only [Nat.add_zero] at h0
    rw [h0] at hc
    simp [hc]
theorem evLoad_sound {P : Program} {T : List (Nat × TyI)} (hT : TOk P T) {t : TypeId} {hp : List HB} {x : SV} {K : SV → Prop} (h : evLoad T t hp x K) :
    ∃ v, K v ∧ ∀ w, (∀ b ∈ hp, b.ok w) → (Instr.loadAt t (den x)).run P w = .ok (den v) w := by
  unfold evLoad at h
  split at h
  · rename_i i nm k s d
    split at h
    · rename_i b ty hb hty
      split at h
      · rename_i hC
        obtain ⟨hnm, h⟩ := h
        split at h
        · rename_i xs hx
          split at h
          · rename_i hb1
            simp only [Bool.and_eq_true] at hb1
            have h1 := Nat.le_of_ble_eq_true hb1.1
            obtain ⟨v, hv, hr⟩ := load_sound hT hty hC hnm (k := k) (s := s) (d := d) (xs := xs) (e := k * s + d) (Nat.le_of_ble_eq_true hb1.2) (by rw [hx, Cts.l_n]; exact h1) (fun j hj => by rw [hx, Cts.l_get]) h i
            exact ⟨v, hv, fun w hw => hr w (hw b (List.mem_of_getElem? hb))⟩
          · exact h.elim
        · split at h
          · rename_i hb1
            simp only [Bool.and_eq_true] at hb1
            have h0 := Nat.eq_of_beq_eq_true hb1.1
            have h1 := Nat.le_of_ble_eq_true hb1.2.1
            subst h0
            obtain ⟨hk, h⟩ := h
            have hn : k * b.cts.s + d + ty.size ≤ b.cts.n := by
              have := b.cts.at_lt hk (d := d + ty.size - 1) (by have := Nat.le_of_ble_eq_true hb1.2.2; omega)
              have := Nat.le_of_ble_eq_true hb1.2.2
              omega
            obtain ⟨v, hv, hr⟩ := load_sound hT hty hC hnm (k := k) (s := b.cts.s) (d := d) (xs := b.cts.row k) (e := d) (Nat.le_of_ble_eq_true hb1.2.2) hn (fun j hj => by rw [Nat.add_assoc]; exact b.cts.get_at (by omega)) h i
            exact ⟨v, hv, fun w hw => hr w (hw b (List.mem_of_getElem? hb))⟩
          · exact h.elim
      · exact h.elim
    · exact h.elim
  · exact h.elim

/-- One of so few. -/
def splitN (ix : Int) : Nat → Nat → (Nat → Prop) → Prop
  | 0, _, _ => True
  | n + 1, j, K => (ix = (j : Int) → K j) ∧ splitN ix n (j + 1) K
theorem splitN_sound {ix : Int} : ∀ {n j : Nat} {K : Nat → Prop}, splitN ix n j K → (j : Int) ≤ ix → ix < (j + n : Nat) → K ix.toNat
  | 0, j, K, _, h1, h2 => by omega
  | n + 1, j, K, h, h1, h2 => by
    by_cases he : ix = (j : Int)
    · have := h.1 he; rw [he]; simpa using this
    · exact splitN_sound h.2 (by omega) (by omega)

def litIn (k : Int) (n : Nat) : Option Nat :=
  match k with
  | .ofNat j => match Nat.blt j n with
    | true => some j
    | false => none
  | .negSucc _ => none
theorem litIn_sound {k : Int} {n j : Nat} (h : litIn k n = some j) : k = (j : Int) ∧ j < n := by
  unfold litIn at h
  split at h
  · split at h
    · rename_i j' hb
      cases h
      exact ⟨rfl, Nat.le_of_ble_eq_true hb⟩
    · cases h
  · cases h

/-- An index below n: known, one of few, or by its bounds. -/
def evIx (ix : SV) (n : Nat) (few : Bool) (K : Nat → Prop) : Prop :=
  match ix with
  | .lit k => match litIn k n with
    | some j => K j
    | none => False
  | .int _ k => if few then (0 ≤ k ∧ k < (n : Int)) ∧ splitN k n 0 K else (0 ≤ k ∧ k < (n : Int)) ∧ K k.toNat
  | _ => False
theorem evIx_sound {ix : SV} {n : Nat} {few : Bool} {K : Nat → Prop} (h : evIx ix n few K) : ∃ (k : IntKind) (i : Int), den ix = .int k i ∧ 0 ≤ i ∧ i < (n : Int) ∧ K i.toNat := by
  unfold evIx at h
  split at h
  · rename_i k
    split at h
    · rename_i j hj
      obtain ⟨rfl, hlt⟩ := litIn_sound hj
      exact ⟨.i64, _, rfl, by omega, by omega, by simpa using h⟩
    · exact h.elim
  · rename_i q k
    split at h
    · exact ⟨q, k, rfl, h.1.1, h.1.2, splitN_sound h.2 (by simpa using h.1.1) (by simpa using h.1.2)⟩
    · exact ⟨q, k, rfl, h.1.1, h.1.2, h.2⟩
  · exact h.elim

def evIndexAddr (T : List (Nat × TyI)) (t : TypeId) (x ix : SV) (K : SV → Prop) : Prop :=
  match lookN T t, x with
  | some ⟨.arr n _ e, _, _, _⟩, .ptr i nm k s d => evIx ix n (Nat.ble n 4) fun j => K (.ptr i nm k s (d + j * e))
  | some ⟨.sli _ e, _, _, _⟩, .sl i a k s len _ => match Nat.beq e s with
    | true => evIx ix len false fun j => a.isSome = true ∧ K (.ptr i (a.getD ⟨0, 0⟩) (j + k) s 0)
    | false => False
  | some ⟨.sli _ e, _, _, _⟩, .sub i nm k s d len _ => match Nat.beq e 1 with
    | true => evIx ix len (Nat.ble len 10) fun j => K (.ptr i nm k s (d + j))
    | false => False
  | _, _ => False
theorem addr_add (g b n : Nat) : (⟨g, b, none⟩ : Addr).add n = ⟨g, b + n, none⟩ := Addr.add_lit g b n
theorem evIndexAddr_sound {P : Program} {T : List (Nat × TyI)} (hT : TOk P T) {t : TypeId} {x ix : SV} {K : SV → Prop} (h : evIndexAddr T t x ix K) :
    ∃ v, K v ∧ ∀ w, (Instr.indexAt t (den x) (den ix)).run P w = .ok (den v) w := by
  unfold evIndexAddr at h
  split at h
  · rename_i n e es _ _ _ i nm k s d hi
    obtain ⟨hu, hs⟩ := (hT _ _ hi).und
    obtain ⟨q, j, hq, h1, h2, h⟩ := evIx_sound h
    refine ⟨_, h, fun w => ?_⟩
    rw [hq]
    simp only [Instr.indexAt, den, asIntOf, Sem.run_bind, Sem.run_pure, Result.andThen_ok, run_underlying hu, Instr.sureAddr, if_pos (And.intro h1 h2), run_sizeOf hs, addr_add, Nat.add_assoc]
  · rename_i e es _ _ _ i a k s len cap hi
    obtain ⟨hu, hs⟩ := (hT _ _ hi).und
    split at h
    · rename_i hes
      have := Nat.eq_of_beq_eq_true hes
      subst this
      obtain ⟨q, j, hq, h1, h2, ha, h⟩ := evIx_sound h
      refine ⟨_, h, fun w => ?_⟩
      rw [hq]
      obtain ⟨nm, rfl⟩ := Option.isSome_iff_exists.1 ha
      have e1 : nm.b + k * es + j.toNat * es = nm.b + ((j.toNat + k) * es + 0) := by rw [Nat.add_mul]; omega
      simp only [Instr.indexAt, den, Option.map_some, Option.getD_some, asIntOf, Sem.run_bind, Sem.run_pure, Result.andThen_ok, run_underlying hu, if_pos (And.intro h1 h2), run_sizeOf hs, addr_add, e1]
    · exact h.elim
  · rename_i e es _ _ _ i nm k s d len cap hi
    obtain ⟨hu, hs⟩ := (hT _ _ hi).und
    split at h
    · rename_i hes
      have := Nat.eq_of_beq_eq_true hes
      subst this
      obtain ⟨q, j, hq, h1, h2, h⟩ := evIx_sound h
      refine ⟨_, h, fun w => ?_⟩
      rw [hq]
      simp only [Instr.indexAt, den, asIntOf, Sem.run_bind, Sem.run_pure, Result.andThen_ok, run_underlying hu, if_pos (And.intro h1 h2), run_sizeOf hs, addr_add, Nat.add_assoc, Nat.mul_one]
    · exact h.elim
  · exact h.elim

theorem FldsOk.get {P : Program} : ∀ {fs : List Field} {fl : List (Nat × Nat)}, FldsOk P fs fl → ∀ {j : Nat} {p : Nat × Nat}, fl[j]? = some p → ∃ f, fs[j]? = some f ∧ f.offset = p.1 ∧ SzOk P f.type p.2
  | [], [], _, j, p, h => by simp at h
  | f :: fs, q :: fl, hf, j, p, h => by
    cases j with
    | zero => simp at h; subst h; exact ⟨f, rfl, hf.1, hf.2.1⟩
    | succ j => simp at h; obtain ⟨g, hg, h1⟩ := FldsOk.get hf.2.2 h; exact ⟨g, by simpa using hg, h1⟩
  | [], _ :: _, h, _, _, _ => h.elim
  | _ :: _, [], h, _, _, _ => h.elim

def evFieldAddr (T : List (Nat × TyI)) (t : TypeId) (x : SV) (f : Nat) (K : SV → Prop) : Prop :=
  match lookN T t, x with
  | some ⟨.str fl _, _, _, _⟩, .ptr i nm k s d =>
    match fl[f]? with
    | some (off, z) => match z with
      | 0 => False
      | _ + 1 => K (.ptr i nm k s (d + off))
    | none => False
  | _, _ => False
theorem evFieldAddr_sound {P : Program} {T : List (Nat × TyI)} (hT : TOk P T) {t : TypeId} {x : SV} {f : Nat} {K : SV → Prop} (h : evFieldAddr T t x f K) :
    ∃ v, K v ∧ ∀ w, (Instr.fieldAt t (den x) f).run P w = .ok (den v) w := by
  unfold evFieldAddr at h
  split at h
  · rename_i fl _ _ _ _ i nm k s d hi
    obtain ⟨fs, hu, hfl, _⟩ := (hT _ _ hi).und
    split at h
    · rename_i off z hfs
      obtain ⟨fd, hfd, h1, h2⟩ := hfl.get hfs
      split at h
      · exact h.elim
      · rename_i s'
        refine ⟨_, h, fun w => ?_⟩
        have hfd' : fs[f]? = some fd := by simpa using hfd
        simp only [Instr.fieldAt, Sem.run_bind, run_underlying hu, Result.andThen_ok, hfd', den, Instr.sureAddr, Sem.run_pure, fieldPlace, run_sizeOf h2, Nat.succ_ne_zero, if_false, addr_add, Nat.add_assoc, h1, Sem.run_ite]
    · exact h.elim
  · exact h.elim

/-- Bounds of a slice of a row of so many. -/
def evBound (v : Option SV) (dflt n : Nat) (K : Nat → Prop) : Prop :=
  match v with
  | none => K dflt
  | some (.lit k) => (0 ≤ k ∧ k ≤ (n : Int)) ∧ K k.toNat
  | some (.int _ k) => (0 ≤ k ∧ k ≤ (n : Int)) ∧ K k.toNat
  | _ => False
theorem evBound_sound {v : SV} {d n : Nat} {K : Nat → Prop} (h : evBound (some v) d n K) : ∃ (k : IntKind) (i : Int), den v = .int k i ∧ 0 ≤ i ∧ i ≤ (n : Int) ∧ K i.toNat := by
  unfold evBound at h
  split at h
  · rename_i he; cases he
  · rename_i k he; cases he; exact ⟨.i64, k, rfl, h.1.1, h.1.2, h.2⟩
  · rename_i q k he; cases he; exact ⟨q, k, rfl, h.1.1, h.1.2, h.2⟩
  · exact h.elim
theorem run_sliceBound {P : Program} {k : IntKind} {i : Int} {n : Nat} {c : BoundsCode} (h0 : 0 ≤ i) (h1 : i ≤ (n : Int)) (w : World) : (Instr.sliceBound (.int k i) n c).run P w = .ok i.toNat w := by
  simp only [Instr.sliceBound, asIntOf, Sem.run_bind, Sem.run_pure, Result.andThen_ok, if_pos (And.intro h0 h1)]

/-- l, h, m of 'x[l:h:m]', of a row of 'len' in 'cap'. -/
def evBounds (lo hi mx : Option SV) (len cap : Nat) (K : Nat → Nat → Nat → Prop) : Prop :=
  match mx with
  | none => match hi with
    | none => evBound lo 0 len fun l => K l len cap
    | some h => evBound (some h) 0 cap fun h => evBound lo 0 h fun l => K l h cap
  | some m => match hi with
    | none => False
    | some h => evBound (some m) 0 cap fun m => evBound (some h) 0 m fun h => evBound lo 0 h fun l => K l h m
theorem evBounds_sound {P : Program} {lo hi mx : Option SV} {len cap : Nat} {K : Nat → Nat → Nat → Prop} (h : evBounds lo hi mx len cap K) :
    ∃ l x m, K l x m ∧ ∀ isS w, (Instr.sliceBounds isS len cap (lo.map den) (hi.map den) (mx.map den)).run P w = .ok (l, x, m) w := by
  unfold evBounds at h
  split at h
  · split at h
    · cases lo with
      | none => exact ⟨_, _, _, h, fun s w => by simp [Instr.sliceBounds]⟩
      | some l =>
        obtain ⟨k, i, e, h0, h1, h⟩ := evBound_sound h
        exact ⟨_, _, _, h, fun s w => by simp [Instr.sliceBounds, e, run_sliceBound h0 h1]⟩
    · rename_i x
      obtain ⟨k, i, e, h0, h1, h⟩ := evBound_sound h
      cases lo with
      | none => exact ⟨_, _, _, h, fun s w => by simp [Instr.sliceBounds, e, run_sliceBound h0 h1]⟩
      | some l =>
        obtain ⟨k', i', e', h0', h1', h⟩ := evBound_sound h
        exact ⟨_, _, _, h, fun s w => by simp [Instr.sliceBounds, e, e', run_sliceBound h0 h1, run_sliceBound h0' h1']⟩
  · rename_i m
    split at h
    · exact h.elim
    · rename_i x
      obtain ⟨k2, i2, e2, h02, h12, h⟩ := evBound_sound h
      obtain ⟨k, i, e, h0, h1, h⟩ := evBound_sound h
      cases lo with
      | none => exact ⟨_, _, _, h, fun s w => by simp [Instr.sliceBounds, e, e2, run_sliceBound h0 h1, run_sliceBound h02 h12]⟩
      | some l =>
        obtain ⟨k', i', e', h0', h1', h⟩ := evBound_sound h
        exact ⟨_, _, _, h, fun s w => by simp [Instr.sliceBounds, e, e2, e', run_sliceBound h0 h1, run_sliceBound h02 h12, run_sliceBound h0' h1']⟩

def evSlice (T : List (Nat × TyI)) (t : TypeId) (x : SV) (lo hi mx : Option SV) (K : SV → Prop) : Prop :=
  match lookN T t, x with
  | some ⟨.arr n _ e, _, _, _⟩, .ptr i nm k s d => match mx with
    | some _ => False
    | none => match Nat.beq e 1 with
      | true => evBounds lo hi none n n fun l h m => l < m ∧ K (.sub i nm k s (d + l) (h - l) (m - l))
      | false => False
  | some ⟨.sli _ e, _, _, _⟩, .sl i a k s len cap => match Nat.beq e s with
    | true => match lo with
      | none => evBounds none hi mx len cap fun l h m => K (.sl i a k s (h - l) (m - l))
      | some lo => evBounds (some lo) hi mx len cap fun l h m => (m = l → K (.sl i a k s (h - l) (m - l))) ∧ (m ≠ l → K (.sl i a (l + k) s (h - l) (m - l)))
    | false => False
  | some ⟨.strg, _, _, _⟩, .str b => match mx with
    | some _ => False
    | none => evBounds lo hi none b.size b.size fun l h _ => K (.str (b.extract l h))
  | _, _ => False
theorem evBounds_none {P : Program} {hi mx : Option SV} {len cap : Nat} {K : Nat → Nat → Nat → Prop} (h : evBounds none hi mx len cap K) :
    ∃ l x m, l = 0 ∧ K l x m ∧ ∀ isS w, (Instr.sliceBounds isS len cap none (hi.map den) (mx.map den)).run P w = .ok (l, x, m) w := by
  have h' : evBounds none hi mx len cap (fun l x m => l = 0 ∧ K l x m) := by
    unfold evBounds evBound at h ⊢
    (repeat' split at h) <;> simp_all
  obtain ⟨l, x, m, ⟨h1, h2⟩, h3⟩ := evBounds_sound (P := P) h'
  exact ⟨l, x, m, h1, h2, h3⟩
theorem evSlice_sound {P : Program} {T : List (Nat × TyI)} (hT : TOk P T) {t : TypeId} {x : SV} {lo hi mx : Option SV} {K : SV → Prop} (h : evSlice T t x lo hi mx K) :
    ∃ v, K v ∧ ∀ w, (Instr.sliceAt t (den x) (lo.map den) (hi.map den) (mx.map den)).run P w = .ok (den v) w := by
  unfold evSlice at h
  split at h
  · rename_i n e es _ _ _ i nm k s d hi'
    obtain ⟨hu, hs⟩ := (hT _ _ hi').und
    split at h
    · exact h.elim
    · split at h
      · rename_i hes
        have := Nat.eq_of_beq_eq_true hes
        subst this
        obtain ⟨l, x, m, ⟨hml, h⟩, hr⟩ := evBounds_sound (P := P) h
        refine ⟨_, h, fun w => ?_⟩
        have hr := hr false w
        simp only [Option.map_none] at hr ⊢
        simp only [Instr.sliceAt, Sem.run_bind, run_underlying hu, Result.andThen_ok, den, Instr.sureAddr, Sem.run_pure, hr, run_sizeOf hs, addr_add, Nat.add_assoc, Nat.mul_one, if_neg (show ¬ m = l by omega), Option.map_some]
      · exact h.elim
  · rename_i e es _ _ _ i a k s len cap hi'
    obtain ⟨hu, hs⟩ := (hT _ _ hi').und
    split at h
    · rename_i hes
      have := Nat.eq_of_beq_eq_true hes
      subst this
      split at h
      · obtain ⟨l, x, m, hl0, h, hr⟩ := evBounds_none (P := P) h
        subst hl0
        refine ⟨_, h, fun w => ?_⟩
        have hr := hr true w
        cases a with
        | none => simp [Instr.sliceAt, Instr.slice, run_underlying hu, den, hr, run_sizeOf hs]
        | some nm =>
          by_cases hm : m = 0
          · simp [Instr.sliceAt, Instr.slice, run_underlying hu, den, hr, run_sizeOf hs, hm]
          · simp [Instr.sliceAt, Instr.slice, run_underlying hu, den, hr, run_sizeOf hs, hm, addr_add]
      · obtain ⟨l, x, m, ⟨hml, h⟩, hr⟩ := evBounds_sound (P := P) h
        by_cases hm : m = l
        · refine ⟨_, hml hm, fun w => ?_⟩
          have hr := hr true w
          simp only [Option.map_some] at hr
          simp only [Instr.sliceAt, Instr.slice, Sem.run_bind, run_underlying hu, Result.andThen_ok, den, hr, run_sizeOf hs, addr_add, Sem.run_pure, Option.map_some, if_pos hm]
        · refine ⟨_, h hm, fun w => ?_⟩
          have hr := hr true w
          simp only [Option.map_some] at hr
          have e1 : ∀ b : Nat, b + k * es + l * es = b + (l + k) * es := fun b => by rw [Nat.add_mul]; omega
          simp only [Instr.sliceAt, Instr.slice, Sem.run_bind, run_underlying hu, Result.andThen_ok, den, hr, run_sizeOf hs, addr_add, Sem.run_pure, Option.map_some, if_neg hm, Option.map_map, Function.comp_def, addr_add, e1]
    · exact h.elim
  · rename_i b hi'
    have hu : P.underlying t = some .string := (hT _ _ hi').und
    split at h
    · exact h.elim
    · obtain ⟨l, x, m, h, hr⟩ := evBounds_sound (P := P) h
      refine ⟨_, h, fun w => ?_⟩
      have hr := hr false w
      simp only [Option.map_none] at hr ⊢
      simp only [Instr.sliceAt, Instr.slice, Sem.run_bind, run_underlying hu, Result.andThen_ok, den, hr, Sem.run_pure, Option.isSome_none, Bool.false_eq_true, if_false]
  · exact h.elim

/-- A part of a row of cells. -/
def evPart (T : List (Nat × TyI)) (t : TypeId) (xs : List SV) (off : Nat) (K : SV → Prop) : Prop :=
  match lookN T t with
  | some ty => if ty.k.agg then off + ty.size ≤ xs.length ∧ forceL (rangeL xs off ty.size) fun vs => K (.agg vs) else off < xs.length ∧ (xs.getD off .und).force K
  | none => False
theorem evPart_sound {P : Program} {T : List (Nat × TyI)} (hT : TOk P T) {t : TypeId} {xs : List SV} {off : Nat} {K : SV → Prop} (h : evPart T t xs off K) :
    ∃ v, K v ∧ ∀ w, (part t (denL xs).toArray off).run P w = .ok (den v) w := by
  unfold evPart at h
  split at h
  · rename_i ty hty
    have hty := hT _ _ hty
    split at h
    · rename_i hagg
      obtain ⟨hn, h⟩ := h
      rw [forceL_eq] at h
      refine ⟨_, h, fun w => ?_⟩
      simp only [part, Sem.run_bind, run_isAgg hty.und, hagg, Result.andThen_ok, if_true, run_sizeOf hty.sz, Sem.run_pure, den]
      congr 2
      apply Array.ext'
      simp only [denL_map, rangeL_eq, List.extract_toArray, List.extract_eq_take_drop, Nat.add_sub_cancel_left]
      apply List.ext_getElem
      · simp; omega
      · intro j h1 h2
        simp at h2
        rw [List.getElem_map, List.getElem_map, List.getElem_range]
        simp [List.getD_eq_getElem?_getD, List.getElem?_eq_getElem (show off + j < xs.length by omega)]
    · rename_i hagg
      obtain ⟨hn, h⟩ := h
      rw [SV.force_eq] at h
      refine ⟨_, h, fun w => ?_⟩
      have hx : (denL xs).toArray[off]? = some (den (xs.getD off .und)) := by
        simp [denL_map, hn]
      simp [part, run_isAgg hty.und, hagg, hx]
  · exact h.elim

def evIndex (T : List (Nat × TyI)) (t : TypeId) (x ix : SV) (K : SV → Prop) : Prop :=
  match lookN T t, x with
  | some ⟨.arr n e s, _, _, _⟩, .agg xs => evIx ix n (Nat.ble n 4) fun j => evPart T e xs (j * s) K
  | some ⟨.strg, _, _, _⟩, .str b => evIx ix b.size false fun j => K (.int .u8 ((b.data.toList.getD j 0).toNat))
  | _, _ => False
theorem evIndex_sound {P : Program} {T : List (Nat × TyI)} (hT : TOk P T) {t : TypeId} {x ix : SV} {K : SV → Prop} (h : evIndex T t x ix K) :
    ∃ v, K v ∧ ∀ w, (Instr.index t (den x) (den ix)).run P w = .ok (den v) w := by
  unfold evIndex at h
  split at h
  · rename_i n e s _ _ _ xs hi
    obtain ⟨hu, hs⟩ := (hT _ _ hi).und
    obtain ⟨k, q, hq, h1, h2, h⟩ := evIx_sound h
    obtain ⟨v, hv, hr⟩ := evPart_sound hT h
    refine ⟨v, hv, fun w => ?_⟩
    rw [hq]
    simp only [Instr.index, den, asIntOf, Sem.run_bind, Sem.run_pure, Result.andThen_ok, run_underlying hu, if_pos (And.intro h1 h2), run_sizeOf hs, hr]
  · rename_i b hi
    have hu : P.underlying t = some .string := (hT _ _ hi).und
    obtain ⟨k, q, hq, h1, h2, h⟩ := evIx_sound h
    refine ⟨_, h, fun w => ?_⟩
    rw [hq]
    have hlt : q.toNat < b.size := by omega
    simp only [Instr.index, den, asIntOf, Sem.run_bind, Sem.run_pure, Result.andThen_ok, run_underlying hu, if_pos h1]
    have hb : b[q.toNat]? = some (b.data.toList.getD q.toNat 0) := by
      rw [getElem?_pos b q.toNat hlt]
      have : q.toNat < b.data.toList.length := by simpa using hlt
      rw [List.getD_eq_getElem?_getD, List.getElem?_eq_getElem this]
      rfl
    rw [hb]; rfl
  · exact h.elim

def evField (T : List (Nat × TyI)) (t : TypeId) (x : SV) (f : Nat) (K : SV → Prop) : Prop :=
  match lookN T t, x with
  | some ⟨.str fl ts, _, _, _⟩, .agg xs =>
    match fl[f]?, ts[f]? with
    | some (off, _), some e => evPart T e xs off K
    | _, _ => False
  | _, _ => False
theorem evField_sound {P : Program} {T : List (Nat × TyI)} (hT : TOk P T) {t : TypeId} {x : SV} {f : Nat} {K : SV → Prop} (h : evField T t x f K) :
    ∃ v, K v ∧ ∀ w, (Instr.field t (den x) f).run P w = .ok (den v) w := by
  unfold evField at h
  split at h
  · rename_i fl ts _ _ _ xs hi
    obtain ⟨fs, hu, hfl, hts⟩ := (hT _ _ hi).und
    split at h
    · rename_i off s e hfs he
      obtain ⟨fd, hfd, h1, h2⟩ := hfl.get hfs
      have hfd' : fs[f]? = some fd := by simpa using hfd
      have hty : fd.type = e := by
        rw [← hts, List.getElem?_map, hfd] at he
        simpa using he
      obtain ⟨v, hv, hr⟩ := evPart_sound hT h
      refine ⟨v, hv, fun w => ?_⟩
      have := hr w
      simp only at h1
      simp only [Instr.field, Sem.run_bind, run_underlying hu, Result.andThen_ok, hfd', den, asAgg, Sem.run_pure, hty, h1, this]
    · exact h.elim
  · exact h.elim

def evExtract (x : SV) (j : Nat) (K : SV → Prop) : Prop :=
  match x with
  | .tup xs => withV xs[j]? K
  | _ => False
theorem evExtract_sound {P : Program} {x : SV} {j : Nat} {K : SV → Prop} (h : evExtract x j K) : ∃ v, K v ∧ ∀ w, (Instr.extract (den x) j).run P w = .ok (den v) w := by
  unfold evExtract at h
  split at h
  · rename_i xs
    obtain ⟨v, hv, h⟩ := withV_iff h
    refine ⟨v, h, fun w => ?_⟩
    have : (denL xs).toArray[j]? = some (den v) := by simp [denL_map, hv]
    simp [Instr.extract, den, this]
  · exact h.elim

def evConv (T : List (Nat × TyI)) (s d : TypeId) (x : SV) (K : SV → Prop) : Prop :=
  match lookN T s, lookN T d, x with
  | some _, some ⟨.int k, _, _, _⟩, .int _ n => rng k n K
  | some _, some ⟨.int .i64, _, _, _⟩, .lit n => I64 n ∧ K (.lit n)
  | some _, some ⟨.int k, _, _, _⟩, .lit n => K (.int k (k.wrap n))
  | some _, some ⟨.strg, _, _, _⟩, .str b => K (.str b)
  | _, _, _ => False
theorem KOk.some {P : Program} {t : TypeId} {k : TK} (h : KOk P t k) : ∃ d, P.underlying t = some d := by
  cases k with
  | scal => obtain ⟨d, h, _⟩ := h; exact ⟨d, h⟩
  | bool => exact ⟨_, h⟩
  | arr n e s => exact ⟨_, h.1⟩
  | str fl => obtain ⟨fs, h, _⟩ := h; exact ⟨_, h⟩
  | sli e s => exact ⟨_, h.1⟩
  | strg => exact ⟨_, h⟩
  | int k => exact ⟨_, h⟩
  | map m => obtain ⟨k, e, i, hu, _⟩ := h; exact ⟨_, hu⟩
  | ptr e => exact ⟨_, h.1⟩
  | uptr => exact ⟨_, h⟩
theorem evConv_sound {P : Program} {T : List (Nat × TyI)} (hT : TOk P T) {s d : TypeId} {x : SV} {K : SV → Prop} (h : evConv T s d x K) :
    ∃ v, K v ∧ ∀ w, (convert s d (den x)).run P w = .ok (den v) w := by
  unfold evConv at h
  split at h
  · rename_i hs hd
    obtain ⟨ds, hs⟩ := (hT _ _ hs).und.some
    have hd : P.underlying d = _ := (hT _ _ hd).und
    obtain ⟨v, hv, e⟩ := rng_sound h
    exact ⟨v, hv, fun w => by simp [convert, den, run_underlying hs, run_underlying hd, Conv.intToInt, ← e]⟩
  · rename_i hs hd
    obtain ⟨ds, hs⟩ := (hT _ _ hs).und.some
    have hd : P.underlying d = _ := (hT _ _ hd).und
    exact ⟨_, h.2, fun w => by simp [convert, den, run_underlying hs, run_underlying hd, Conv.intToInt, h.1.wrap]⟩
  · rename_i hs hd
    obtain ⟨ds, hs⟩ := (hT _ _ hs).und.some
    have hd : P.underlying d = _ := (hT _ _ hd).und
    exact ⟨_, h, fun w => by simp [convert, den, run_underlying hs, run_underlying hd, Conv.intToInt]⟩
  · rename_i hs hd
    obtain ⟨ds, hs⟩ := (hT _ _ hs).und.some
    have hd : P.underlying d = _ := (hT _ _ hd).und
    exact ⟨_, h, fun w => by cases ds <;> simp [convert, den, run_underlying hs, run_underlying hd]⟩
  · exact h.elim

def evLen (T : List (Nat × TyI)) (t : TypeId) (x : SV) (K : SV → Prop) : Prop :=
  match lookN T t, x with
  | some ⟨.strg, _, _, _⟩, .str b => K (.int .i64 (b.size : Int))
  | some ⟨.sli _ _, _, _, _⟩, .sl _ _ _ _ len _ => K (.int .i64 (len : Int))
  | some ⟨.sli _ _, _, _, _⟩, .sub _ _ _ _ _ len _ => K (.lit (len : Int))
  | some ⟨.sli _ _, _, _, _⟩, .nilsl => K (.lit 0)
  | some ⟨.arr n _ _, _, _, _⟩, _ => K (.lit (n : Int))
  | _, _ => False
theorem evLen_sound {P : Program} {T : List (Nat × TyI)} (hT : TOk P T) {t : TypeId} {x : SV} {K : SV → Prop} (h : evLen T t x K) :
    ∃ v, K v ∧ ∀ ty w, (Builtin.len_ #[t] ty #[den x]).run P w = .ok (den v) w := by
  unfold evLen at h
  split at h
  · rename_i hi
    have hu : P.underlying t = _ := (hT _ _ hi).und
    exact ⟨_, h, fun ty w => by simp [Builtin.len_, den, run_underlying hu, goInt]⟩
  · rename_i hi
    have hu := (hT _ _ hi).und.1
    exact ⟨_, h, fun ty w => by simp [Builtin.len_, den, run_underlying hu, goInt]⟩
  · rename_i hi
    have hu := (hT _ _ hi).und.1
    exact ⟨_, h, fun ty w => by simp [Builtin.len_, den, run_underlying hu, goInt]⟩
  · rename_i hi
    have hu := (hT _ _ hi).und.1
    exact ⟨_, h, fun ty w => by simp [Builtin.len_, den, run_underlying hu, goInt]⟩
  · rename_i hi
    have hu := (hT _ _ hi).und.1
    exact ⟨_, h, fun ty w => by simp [Builtin.len_, den, run_underlying hu, goInt]⟩
  · exact h.elim

def evMin (mx : Bool) : List SV → (SV → Prop) → Prop
  | [.lit a, .lit b], K => K (.lit (if mx then max a b else min a b))
  | [x, y], K => match x.num, y.num with
    | some (.i64, a), some (.i64, b) => K (.int .i64 (if mx then max a b else min a b))
    | _, _ => False
  | _, _ => False

theorem evMin_sound {P : Program} {mx : Bool} {xs : List SV} {K : SV → Prop} (h : evMin mx xs K) :
    ∃ v, K v ∧ ∀ ts ty w, ((if mx then Builtin.max_ else Builtin.min_) ts ty (denL xs).toArray).run P w = .ok (den v) w := by
  have hmin : ∀ a b : Int, (if b < a then b else a) = min a b := fun a b => by omega
  have hmax : ∀ a b : Int, (if b > a then b else a) = max a b := fun a b => by omega
  unfold evMin at h
  split at h
  · refine ⟨_, h, fun ts ty w => ?_⟩
    cases mx
    · simp [Builtin.min_, Builtin.min2, denL, den, hmin]
    · simp [Builtin.max_, Builtin.max2, denL, den]; omega
  · split at h
    · rename_i hx hy
      refine ⟨_, h, fun ts ty w => ?_⟩
      cases mx
      · simp [Builtin.min_, Builtin.min2, denL, den, SV.num_den hx, SV.num_den hy, hmin]
      · simp [Builtin.max_, Builtin.max2, denL, den, SV.num_den hx, SV.num_den hy]; omega
    · exact h.elim
  · exact h.elim
/-- The cells are stored one behind the other. -/
def setVs (cs : Array Value) : Nat → List Value → Array Value
  | _, [] => cs
  | o, v :: vs => setVs (cs.setIfInBounds o v) (o + 1) vs
theorem setVs_size : ∀ (vs : List Value) (cs : Array Value) (o : Nat), (setVs cs o vs).size = cs.size
  | [], _, _ => rfl
  | v :: vs, cs, o => by simp [setVs, setVs_size vs]
theorem setVs_get : ∀ (vs : List Value) (cs : Array Value) (o j : Nat), j < cs.size → (setVs cs o vs)[j]? = if o ≤ j ∧ j < o + vs.length then vs[j - o]? else cs[j]?
  | [], cs, o, j, hj => by simp [setVs]; intro h1 h2; omega
  | v :: vs, cs, o, j, hj => by
    rw [setVs, setVs_get vs _ (o + 1) j (by simpa using hj)]
    simp only [List.length_cons]
    by_cases h1 : o = j
    · subst h1
      rw [if_neg (by omega), if_pos (by omega)]
      simp [hj]
    · by_cases h2 : o + 1 ≤ j ∧ j < o + 1 + vs.length
      · rw [if_pos h2, if_pos (by omega)]
        rw [show j - o = (j - (o + 1)) + 1 by omega]
        simp
      · rw [if_neg h2, if_neg (by omega)]
        simp [h1]
def spliceL (xs : List SV) (o : Nat) (vs : List SV) : List SV := xs.take o ++ (vs ++ xs.drop (o + vs.length))
theorem setL_splice : ∀ (vs xs : List SV) (o : Nat), o + vs.length ≤ xs.length → setL xs o vs = spliceL xs o vs
  | [], xs, o, h => by simp [setL, spliceL]
  | v :: vs, xs, o, h => by
    simp only [List.length_cons] at h
    have h1 : o < xs.length := by omega
    rw [setL, setL_splice vs (xs.set o v) (o + 1) (by simp; omega)]
    unfold spliceL
    have e1 : (xs.set o v).take (o + 1) = xs.take o ++ [v] := by
      rw [List.take_add_one, List.getElem?_set]
      have e3 : (xs.set o v).take o = xs.take o := by apply List.ext_getElem?; intro j; rw [List.getElem?_take, List.getElem?_take]; split; (rw [List.getElem?_set, if_neg (by omega)]); rfl
      rw [e3]; simp [h1]
    have e2 : (xs.set o v).drop (o + 1 + vs.length) = xs.drop (o + (v :: vs).length) := by
      rw [List.drop_set_of_lt (by omega)]
      congr 1; simp; omega
    rw [e1, e2]
    simp
def fillS (place : Nat → Option (Nat × Nat)) : List SV → List (Nat × SV) → Option (List SV)
  | xs, [] => some xs
  | xs, (i, v) :: r =>
    match place i, v.row with
    | some (off, s), some vs => if Nat.beq vs.length s && Nat.ble (off + vs.length) xs.length then fillS place (spliceL xs off vs) r else none
    | _, _ => none

theorem denL_setL : ∀ (vs xs : List SV) (o : Nat), (denL (setL xs o vs)).toArray = setVs (denL xs).toArray o (denL vs)
  | [], xs, o => rfl
  | v :: vs, xs, o => by
    rw [setL, denL_setL vs (xs.set o v) (o + 1)]
    simp [denL, denL_map, setVs, List.map_set]
theorem foldl_setVs : ∀ (vs : List Value) (cs : Array Value) (off k : Nat), (vs.zipIdx k).foldl (fun cs x => cs.setIfInBounds (off + x.2) x.1) cs = setVs cs (off + k) vs
  | [], _, _, _ => rfl
  | v :: vs, cs, off, k => by
    simp only [List.zipIdx_cons, List.foldl_cons, setVs]
    rw [foldl_setVs vs _ off (k + 1)]; rfl

theorem fillS_sound {place : Nat → Option (Nat × Nat)} : ∀ {ps : List (Nat × SV)} {xs ys : List SV}, fillS place xs ps = some ys →
    Instr.fill place (denL xs).toArray (ps.map fun p => (p.1, den p.2)) = some (denL ys).toArray
  | [], xs, ys, h => by cases h; rfl
  | (i, v) :: r, xs, ys, h => by
    unfold fillS at h
    split at h
    · rename_i off s vs hp hv
      split at h
      · rename_i hb
        simp only [Bool.and_eq_true] at hb
        have h1 : vs.length = s := Nat.eq_of_beq_eq_true hb.1
        have h2 : off + vs.length ≤ xs.length := Nat.le_of_ble_eq_true hb.2
        rw [← setL_splice vs xs off h2] at h
        have hc := (SV.row_sound hv).1
        simp only [List.map_cons, Instr.fill, hp, hc]
        have hsz : (denL vs).toArray.size = vs.length := by simp [denL_map]
        have hsx : (denL xs).toArray.size = xs.length := by simp [denL_map]
        rw [if_neg (by rw [hsz, hsx]; simp; omega)]
        have := fillS_sound h
        rw [denL_setL] at this
        rw [← this]
        congr 1
        have hz := foldl_setVs (denL vs) (denL xs).toArray off 0
        rw [Nat.add_zero] at hz
        rw [← hz]
        simp
      · cases h
    · cases h

def withPs (fr : List (Nat × SV)) : List (Nat × Operand) → (List (Nat × SV) → Prop) → Prop
  | [], K => K []
  | (i, x) :: xs, K => withV (ev fr x) fun v => withPs fr xs fun vs => K ((i, v) :: vs)
theorem withPs_iff {fr : List (Nat × SV)} : ∀ {xs : List (Nat × Operand)} {K : List (Nat × SV) → Prop}, withPs fr xs K →
    ∃ vs, K vs ∧ ∀ {N : Nat} {ds : List Nat} {a : Act}, FrOk N ds fr a → xs.map (fun p => (p.1, a.eval p.2)) = vs.map fun p => (p.1, den p.2)
  | [], K, h => ⟨[], h, fun _ => rfl⟩
  | (i, x) :: xs, K, h => by
    obtain ⟨v, hv, h⟩ := withV_iff h
    obtain ⟨vs, hK, hvs⟩ := withPs_iff h
    exact ⟨(i, v) :: vs, hK, fun hf => by simp [ev_sound hf hv, hvs hf]⟩

def evBuild (T : List (Nat × TyI)) (t : TypeId) (ps : List (Nat × SV)) (K : SV → Prop) : Prop :=
  match lookN T t with
  | some ⟨.arr _ _ s, _, z, _⟩ => match fillS (fun i => some (i * s, s)) z ps with
    | some ys => forceL ys fun ys => K (.agg ys)
    | none => False
  | some ⟨.str fl _, _, z, _⟩ => match fillS (fun i => fl[i]?) z ps with
    | some ys => forceL ys fun ys => K (.agg ys)
    | none => False
  | _ => False
theorem mapM_flds {P : Program} : ∀ {fs : List Field} {fl : List (Nat × Nat)}, FldsOk P fs fl → fs.mapM (fun f => (P.info? f.type).map fun i => (f.offset, i.size)) = some fl
  | [], [], _ => rfl
  | f :: fs, p :: ps, h => by
    obtain ⟨h1, ⟨i, hi, hs⟩, h3⟩ := h
    simp [List.mapM_cons, hi, mapM_flds h3, h1, hs]
  | [], _ :: _, h => h.elim
  | _ :: _, [], h => h.elim
theorem evBuild_sound {P : Program} {T : List (Nat × TyI)} (hT : TOk P T) {t : TypeId} {ps : List (Nat × SV)} {K : SV → Prop} (h : evBuild T t ps K) :
    ∃ v, K v ∧ ∀ w, (Instr.build t (ps.map fun p => (p.1, den p.2)).toArray).run P w = .ok (den v) w := by
  unfold evBuild at h
  split at h
  · rename_i n e s sz z q hi
    have hty := hT _ _ hi
    obtain ⟨hu, ie, hie, hse⟩ := hty.und
    obtain ⟨it, zz, hit, _, hz, hzc⟩ := hty.info
    split at h
    · rename_i ys hf
      rw [forceL_eq] at h
      refine ⟨_, h, fun w => ?_⟩
      apply run_build
      have := fillS_sound hf
      have hc : zz.cells = (denL z).toArray := by rw [← hzc]
      simp only [Program.built, hit, hu, hz, hie, hc, hse]
      exact this
    · exact h.elim
  · rename_i fl _ sz z q hi
    have hty := hT _ _ hi
    obtain ⟨fs, hu, hfl, _⟩ := hty.und
    obtain ⟨it, zz, hit, _, hz, hzc⟩ := hty.info
    split at h
    · rename_i ys hf
      rw [forceL_eq] at h
      refine ⟨_, h, fun w => ?_⟩
      apply run_build
      have := fillS_sound hf
      have hc : zz.cells = (denL z).toArray := by rw [← hzc]
      simp only [Program.built, hit, hu, hz, hc, mapM_flds hfl]
      simpa using this
    · exact h.elim
  · exact h.elim

end Go.Sy
