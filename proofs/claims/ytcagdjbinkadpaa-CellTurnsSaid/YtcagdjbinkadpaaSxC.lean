/- The operations that leave the world alone: what each comes to, and that it does. -/
import Derived.Test.YtcagdjbinkadpaaSxB
set_option linter.unusedSimpArgs false
set_option linter.unusedVariables false
namespace Go.Sx
open Go.RowKit

/-- The value of one operation, whatever the world that holds the blocks. -/
def Yields (P : Program) (N : Nat) (fr : List (Nat × SV)) (hp : List HB) (o : Oper) (v : SV) : Prop :=
  ∀ a w0 w, FrOk N fr a → Holds w0 w hp → o.quietAt P a (fun w' => Holds w0 w' hp) w (den v)

theorem Yields.of_run {P : Program} {N : Nat} {fr : List (Nat × SV)} {hp : List HB} {o : Oper} {v : SV}
    (h : ∀ a w0 w, FrOk N fr a → Holds w0 w hp → (execOp a.eval o).run P w = .ok (.value (den v)) w) : Yields P N fr hp o v := fun a w0 w hf hw => by
  unfold Oper.quietAt
  rw [h a w0 w hf hw]
  exact ⟨rfl, rfl⟩

def evPick (c : SV) (x y : Option SV) (K : SV → Prop) : Prop :=
  match c with
  | .bool .tt => withV x K
  | .bool .ff => withV y K
  | .bool f => (f.H true → withV x K) ∧ (f.H false → withV y K)
  | _ => False
theorem evPick_sound {c : SV} {x y : Option SV} {K : SV → Prop} (h : evPick c x y K) : ∃ v b, K v ∧ den c = .bool b ∧ (if b then x else y) = some v := by
  unfold evPick at h
  split at h
  · obtain ⟨v, hv, h⟩ := withV_iff h; exact ⟨v, true, h, rfl, hv⟩
  · obtain ⟨v, hv, h⟩ := withV_iff h; exact ⟨v, false, h, rfl, hv⟩
  · rename_i f _ _
    cases hb : f.b with
    | true => obtain ⟨v, hv, h⟩ := withV_iff (h.1 ((BF.H_iff f true).2 hb)); exact ⟨v, true, h, by simp [den, hb], hv⟩
    | false => obtain ⟨v, hv, h⟩ := withV_iff (h.2 ((BF.H_iff f false).2 hb)); exact ⟨v, false, h, by simp [den, hb], hv⟩
  · exact h.elim

def evUn (op : UnOp) (x : SV) (K : SV → Prop) : Prop :=
  match op, x with
  | .not, .bool .tt => K (.bool .ff)
  | .not, .bool .ff => K (.bool .tt)
  | .not, .bool f => K (.bool (.not f))
  | .neg, .lit n => I64 (0 - n) ∧ K (.lit (0 - n))
  | .neg, .int k n => rng k (0 - n) K
  | _, _ => False
theorem evUn_sound {P : Program} {op : UnOp} {x : SV} {K : SV → Prop} (h : evUn op x K) : ∃ v, K v ∧ ∀ w, (Op.unary op (den x)).run P w = .ok (den v) w := by
  unfold evUn at h
  split at h
  · exact ⟨_, h, fun w => by simp [Op.unary, den, BF.b]⟩
  · exact ⟨_, h, fun w => by simp [Op.unary, den, BF.b]⟩
  · exact ⟨_, h, fun w => by simp [Op.unary, den, BF.b]⟩
  · exact ⟨_, h.2, fun w => by simp only [Op.unary, den, Op.intArith]; rw [h.1.wrap]; rfl⟩
  · obtain ⟨v, hv, e⟩ := rng_sound h
    exact ⟨v, hv, fun w => by simp only [Op.unary, den, Op.intArith]; rw [e]; rfl⟩
  · exact h.elim

/-- The cells of a value that may be stored, or be a part. -/
def SV.row : SV → Option (List SV)
  | .agg xs => if xs.all SV.one then some xs else none
  | v => if v.one then some [v] else none
theorem SV.row_sound {v : SV} {xs : List SV} (h : v.row = some xs) : (den v).cells = (denL xs).toArray ∧ ∀ u ∈ denL xs, u.oneCell' = true := by
  unfold SV.row at h
  split at h
  · rename_i ys
    split at h
    · rename_i hall
      cases h
      refine ⟨by simp [den, Value.cells], fun u hu => ?_⟩
      rw [denL_map, List.mem_map] at hu
      obtain ⟨x, hx, rfl⟩ := hu
      exact SV.one_cell (List.all_eq_true.1 hall x hx)
    · cases h
  · split at h
    · rename_i h1
      cases h
      refine ⟨by rw [SV.one_cells h1]; simp [denL], fun u hu => ?_⟩
      simp only [denL, List.mem_singleton] at hu
      subst hu; exact SV.one_cell h1
    · cases h

/-- Loads of a type. -/
def rangeFrom (c : Cts) : Nat → Nat → List SV
  | _, 0 => []
  | o, n + 1 => c.get o :: rangeFrom c (o + 1) n
theorem rangeFrom_eq (c : Cts) : ∀ n o, rangeFrom c o n = (List.range n).map fun j => c.get (o + j)
  | 0, o => rfl
  | n + 1, o => by
    rw [rangeFrom, rangeFrom_eq c n (o + 1), List.range_succ_eq_map]
    simp [Function.comp_def, Nat.add_assoc, Nat.add_comm 1]

def evLoad (T : List (Nat × TyI)) (t : TypeId) (hp : List HB) (x : SV) (K : SV → Prop) : Prop :=
  match x with
  | .ptr i nm o =>
    match hp[i]?, lookN T t with
    | some b, some ty =>
      b.nm = nm ∧
      if ty.k.agg then o + ty.size ≤ b.cts.n ∧ forceL (rangeFrom b.cts o ty.size) fun vs => K (.agg vs)
      else o < b.cts.n ∧ (b.cts.get o).force K
    | _, _ => False
  | _ => False

theorem run_isAgg {P : Program} {t : TypeId} {k : TK} (h : KOk P t k) (w : World) : (isAgg t).run P w = .ok k.agg w := by
  unfold isAgg
  cases k with
  | scal =>
    obtain ⟨d, hu, hd⟩ := h
    rw [Sem.run_bind, run_underlying hu]
    cases d <;> first | exact hd.elim | rfl
  | bool => rw [Sem.run_bind, run_underlying h]; rfl
  | arr n e s => rw [Sem.run_bind, run_underlying h.1]; rfl
  | str fl => obtain ⟨fs, hu, _⟩ := h; rw [Sem.run_bind, run_underlying hu]; rfl
  | sli e s => rw [Sem.run_bind, run_underlying h.1]; rfl
  | strg => rw [Sem.run_bind, run_underlying h]; rfl
  | int k => rw [Sem.run_bind, run_underlying h]; rfl
theorem run_sizeOf {P : Program} {e s : Nat} (h : SzOk P e s) (w : World) : (sizeOf e).run P w = .ok s w := by
  obtain ⟨i, hi, hs⟩ := h
  simp [sizeOf, typeInfo, hi, hs]
theorem TyOk.sz {P : Program} {t : TypeId} {i : TyI} (h : TyOk P t i) : SzOk P t i.size := by
  obtain ⟨f, z, h1, h2, _⟩ := h.info
  exact ⟨f, h1, h2⟩

theorem evLoad_sound {P : Program} {T : List (Nat × TyI)} (hT : TOk P T) {t : TypeId} {hp : List HB} {x : SV} {K : SV → Prop} (h : evLoad T t hp x K) :
    ∃ v, K v ∧ ∀ w0 w, Holds w0 w hp → (Instr.loadAt t (den x)).run P w = .ok (den v) w := by
  unfold evLoad at h
  split at h
  · rename_i i nm o
    split at h
    · rename_i b ty hb hty
      obtain ⟨rfl, h⟩ := h
      have hty := hT _ _ hty
      split at h
      · rename_i hagg
        obtain ⟨hn, h⟩ := h
        rw [forceL_eq] at h
        refine ⟨_, h, fun w0 w hw => ?_⟩
        have hbk := hw.blk b (List.mem_of_getElem? hb)
        simp only [Instr.loadAt, den, Instr.sureAddr, Sem.run_bind, Sem.run_pure, Result.andThen_ok, loadVar, run_isAgg hty.und, hagg, if_true, run_sizeOf hty.sz]
        rw [run_loadCells_in P w b.nm.g (b.nm.b + o) ty.size (fun j => den (b.cts.get (o + j))) (fun j hj => by rw [Nat.add_assoc]; exact hbk.cell (by omega))]
        simp [denL_map, rangeFrom_eq, Function.comp_def]
      · rename_i hagg
        obtain ⟨hn, h⟩ := h
        rw [SV.force_eq] at h
        refine ⟨_, h, fun w0 w hw => ?_⟩
        have hbk := hw.blk b (List.mem_of_getElem? hb)
        simp only [Instr.loadAt, den, Instr.sureAddr, Sem.run_bind, Sem.run_pure, Result.andThen_ok, loadVar, run_isAgg hty.und, hagg]
        simp [hbk.cell hn]
    · exact h.elim
  · exact h.elim

/-- One of so few. -/
def splitN (ix : Int) : Nat → Nat → (Nat → Prop) → Prop
  | 0, _, _ => True
  | n + 1, j, K => (ix = (j : Int) → K j) ∧ splitN ix n (j + 1) K
theorem splitN_sound {ix : Int} : ∀ {n j : Nat} {K : Nat → Prop}, splitN ix n j K → (j : Int) ≤ ix → ix < (j + n : Nat) → K ix.toNat
  | 0, j, K, _, h1, h2 => by omega
  | n + 1, j, K, h, h1, h2 => by
    by_cases he : ix = (j : Int)
    · have := h.1 he; rw [he]; simpa using this
    · exact splitN_sound h.2 (by omega) (by omega)

def litIn (k : Int) (n : Nat) : Option Nat :=
  match k with
  | .ofNat j => match Nat.blt j n with
    | true => some j
    | false => none
  | .negSucc _ => none
theorem litIn_sound {k : Int} {n j : Nat} (h : litIn k n = some j) : k = (j : Int) ∧ j < n := by
  unfold litIn at h
  split at h
  · split at h
    · rename_i j' hb
      cases h
      exact ⟨rfl, Nat.le_of_ble_eq_true hb⟩
    · cases h
  · cases h

/-- An index below n: known, one of few, or by its bounds. -/
def evIx (ix : SV) (n : Nat) (few : Bool) (K : Nat → Prop) : Prop :=
  match ix with
  | .lit k => match litIn k n with
    | some j => K j
    | none => False
  | .int _ k => if few then (0 ≤ k ∧ k < (n : Int)) ∧ splitN k n 0 K else (0 ≤ k ∧ k < (n : Int)) ∧ K k.toNat
  | _ => False
theorem evIx_sound {ix : SV} {n : Nat} {few : Bool} {K : Nat → Prop} (h : evIx ix n few K) : ∃ (k : IntKind) (i : Int), den ix = .int k i ∧ 0 ≤ i ∧ i < (n : Int) ∧ K i.toNat := by
  unfold evIx at h
  split at h
  · rename_i k
    split at h
    · rename_i j hj
      obtain ⟨rfl, hlt⟩ := litIn_sound hj
      exact ⟨.i64, _, rfl, by omega, by omega, by simpa using h⟩
    · exact h.elim
  · rename_i q k
    split at h
    · exact ⟨q, k, rfl, h.1.1, h.1.2, splitN_sound h.2 (by simpa using h.1.1) (by simpa using h.1.2)⟩
    · exact ⟨q, k, rfl, h.1.1, h.1.2, h.2⟩
  · exact h.elim

def evIndexAddr (T : List (Nat × TyI)) (t : TypeId) (x ix : SV) (K : SV → Prop) : Prop :=
  match lookN T t, x with
  | some ⟨.arr n _ s, _, _, _⟩, .ptr i nm o => evIx ix n (Nat.ble n 4) fun j => K (.ptr i nm (o + j * s))
  | some ⟨.sli _ s, _, _, _⟩, .sl i a o len _ => evIx ix len false fun j => a.isSome = true ∧ K (.ptr i (a.getD ⟨0, 0⟩) (o + j * s))
  | _, _ => False
theorem addr_add (g b n : Nat) : (⟨g, b, none⟩ : Addr).add n = ⟨g, b + n, none⟩ := Addr.add_lit g b n
theorem evIndexAddr_sound {P : Program} {T : List (Nat × TyI)} (hT : TOk P T) {t : TypeId} {x ix : SV} {K : SV → Prop} (h : evIndexAddr T t x ix K) :
    ∃ v, K v ∧ ∀ w, (Instr.indexAt t (den x) (den ix)).run P w = .ok (den v) w := by
  unfold evIndexAddr at h
  split at h
  · rename_i n e s _ _ _ i nm o hi
    obtain ⟨hu, hs⟩ := (hT _ _ hi).und
    obtain ⟨k, q, hq, h1, h2, h⟩ := evIx_sound h
    refine ⟨_, h, fun w => ?_⟩
    rw [hq]
    simp only [Instr.indexAt, den, asIntOf, Sem.run_bind, Sem.run_pure, Result.andThen_ok, run_underlying hu, Instr.sureAddr, if_pos (And.intro h1 h2), run_sizeOf hs, addr_add, Nat.add_assoc]
  · rename_i e s _ _ _ i a o len cap hi
    obtain ⟨hu, hs⟩ := (hT _ _ hi).und
    obtain ⟨k, q, hq, h1, h2, ha, h⟩ := evIx_sound h
    refine ⟨_, h, fun w => ?_⟩
    rw [hq]
    obtain ⟨nm, rfl⟩ := Option.isSome_iff_exists.1 ha
    simp only [Instr.indexAt, den, Option.map_some, Option.getD_some, asIntOf, Sem.run_bind, Sem.run_pure, Result.andThen_ok, run_underlying hu, if_pos (And.intro h1 h2), run_sizeOf hs, addr_add, Nat.add_assoc]
  · exact h.elim

theorem FldsOk.get {P : Program} : ∀ {fs : List Field} {fl : List (Nat × Nat)}, FldsOk P fs fl → ∀ {j : Nat} {p : Nat × Nat}, fl[j]? = some p → ∃ f, fs[j]? = some f ∧ f.offset = p.1 ∧ SzOk P f.type p.2
  | [], [], _, j, p, h => by simp at h
  | f :: fs, q :: fl, hf, j, p, h => by
    cases j with
    | zero => simp at h; subst h; exact ⟨f, rfl, hf.1, hf.2.1⟩
    | succ j => simp at h; obtain ⟨g, hg, h1⟩ := FldsOk.get hf.2.2 h; exact ⟨g, by simpa using hg, h1⟩
  | [], _ :: _, h, _, _, _ => h.elim
  | _ :: _, [], h, _, _, _ => h.elim

def evFieldAddr (T : List (Nat × TyI)) (t : TypeId) (x : SV) (f : Nat) (K : SV → Prop) : Prop :=
  match lookN T t, x with
  | some ⟨.str fl _, _, _, _⟩, .ptr i nm o =>
    match fl[f]? with
    | some (off, s) => match s with
      | 0 => False
      | _ + 1 => K (.ptr i nm (o + off))
    | none => False
  | _, _ => False
theorem evFieldAddr_sound {P : Program} {T : List (Nat × TyI)} (hT : TOk P T) {t : TypeId} {x : SV} {f : Nat} {K : SV → Prop} (h : evFieldAddr T t x f K) :
    ∃ v, K v ∧ ∀ w, (Instr.fieldAt t (den x) f).run P w = .ok (den v) w := by
  unfold evFieldAddr at h
  split at h
  · rename_i fl _ _ _ _ i nm o hi
    obtain ⟨fs, hu, hfl, _⟩ := (hT _ _ hi).und
    split at h
    · rename_i off s hfs
      obtain ⟨fd, hfd, h1, h2⟩ := hfl.get hfs
      split at h
      · exact h.elim
      · rename_i s'
        refine ⟨_, h, fun w => ?_⟩
        have hfd' : fs[f]? = some fd := by simpa using hfd
        simp only [Instr.fieldAt, Sem.run_bind, run_underlying hu, Result.andThen_ok, hfd', den, Instr.sureAddr, Sem.run_pure, fieldPlace, run_sizeOf h2, Nat.succ_ne_zero, if_false, addr_add, Nat.add_assoc, h1, Sem.run_ite]
    · exact h.elim
  · exact h.elim

/-- Bounds of a slice of a row of so many. -/
def evBound (v : Option SV) (dflt n : Nat) (K : Nat → Prop) : Prop :=
  match v with
  | none => K dflt
  | some (.lit k) => (0 ≤ k ∧ k ≤ (n : Int)) ∧ K k.toNat
  | some (.int _ k) => (0 ≤ k ∧ k ≤ (n : Int)) ∧ K k.toNat
  | _ => False
theorem evBound_sound {v : SV} {d n : Nat} {K : Nat → Prop} (h : evBound (some v) d n K) : ∃ (k : IntKind) (i : Int), den v = .int k i ∧ 0 ≤ i ∧ i ≤ (n : Int) ∧ K i.toNat := by
  unfold evBound at h
  split at h
  · rename_i he; cases he
  · rename_i k he; cases he; exact ⟨.i64, k, rfl, h.1.1, h.1.2, h.2⟩
  · rename_i q k he; cases he; exact ⟨q, k, rfl, h.1.1, h.1.2, h.2⟩
  · exact h.elim
theorem run_sliceBound {P : Program} {k : IntKind} {i : Int} {n : Nat} {c : BoundsCode} (h0 : 0 ≤ i) (h1 : i ≤ (n : Int)) (w : World) : (Instr.sliceBound (.int k i) n c).run P w = .ok i.toNat w := by
  simp only [Instr.sliceBound, asIntOf, Sem.run_bind, Sem.run_pure, Result.andThen_ok, if_pos (And.intro h0 h1)]

/-- l, h, m of 'x[l:h:m]', of a row of 'len' in 'cap'. -/
def evBounds (lo hi mx : Option SV) (len cap : Nat) (K : Nat → Nat → Nat → Prop) : Prop :=
  match mx with
  | none => match hi with
    | none => evBound lo 0 len fun l => K l len cap
    | some h => evBound (some h) 0 cap fun h => evBound lo 0 h fun l => K l h cap
  | some m => match hi with
    | none => False
    | some h => evBound (some m) 0 cap fun m => evBound (some h) 0 m fun h => evBound lo 0 h fun l => K l h m
theorem evBounds_sound {P : Program} {lo hi mx : Option SV} {len cap : Nat} {K : Nat → Nat → Nat → Prop} (h : evBounds lo hi mx len cap K) :
    ∃ l x m, K l x m ∧ ∀ isS w, (Instr.sliceBounds isS len cap (lo.map den) (hi.map den) (mx.map den)).run P w = .ok (l, x, m) w := by
  unfold evBounds at h
  split at h
  · split at h
    · cases lo with
      | none => exact ⟨_, _, _, h, fun s w => by simp [Instr.sliceBounds]⟩
      | some l =>
        obtain ⟨k, i, e, h0, h1, h⟩ := evBound_sound h
        exact ⟨_, _, _, h, fun s w => by simp [Instr.sliceBounds, e, run_sliceBound h0 h1]⟩
    · rename_i x
      obtain ⟨k, i, e, h0, h1, h⟩ := evBound_sound h
      cases lo with
      | none => exact ⟨_, _, _, h, fun s w => by simp [Instr.sliceBounds, e, run_sliceBound h0 h1]⟩
      | some l =>
        obtain ⟨k', i', e', h0', h1', h⟩ := evBound_sound h
        exact ⟨_, _, _, h, fun s w => by simp [Instr.sliceBounds, e, e', run_sliceBound h0 h1, run_sliceBound h0' h1']⟩
  · rename_i m
    split at h
    · exact h.elim
    · rename_i x
      obtain ⟨k2, i2, e2, h02, h12, h⟩ := evBound_sound h
      obtain ⟨k, i, e, h0, h1, h⟩ := evBound_sound h
      cases lo with
      | none => exact ⟨_, _, _, h, fun s w => by simp [Instr.sliceBounds, e, e2, run_sliceBound h0 h1, run_sliceBound h02 h12]⟩
      | some l =>
        obtain ⟨k', i', e', h0', h1', h⟩ := evBound_sound h
        exact ⟨_, _, _, h, fun s w => by simp [Instr.sliceBounds, e, e2, e', run_sliceBound h0 h1, run_sliceBound h02 h12, run_sliceBound h0' h1']⟩

def evSlice (T : List (Nat × TyI)) (t : TypeId) (x : SV) (lo hi mx : Option SV) (K : SV → Prop) : Prop :=
  match lookN T t, x with
  | some ⟨.arr n _ s, _, _, _⟩, .ptr i nm o => match mx with
    | some _ => False
    | none => evBounds lo hi none n n fun l h m => l < m ∧ K (.sl i (some nm) (o + l * s) (h - l) (m - l))
  | some ⟨.sli _ s, _, _, _⟩, .sl i a o len cap => evBounds lo hi mx len cap fun l h m => (m = l → K (.sl i a o (h - l) (m - l))) ∧ (m ≠ l → K (.sl i a (o + l * s) (h - l) (m - l)))
  | some ⟨.strg, _, _, _⟩, .str b => match mx with
    | some _ => False
    | none => evBounds lo hi none b.size b.size fun l h _ => K (.str (b.extract l h))
  | _, _ => False
theorem evSlice_sound {P : Program} {T : List (Nat × TyI)} (hT : TOk P T) {t : TypeId} {x : SV} {lo hi mx : Option SV} {K : SV → Prop} (h : evSlice T t x lo hi mx K) :
    ∃ v, K v ∧ ∀ w, (Instr.sliceAt t (den x) (lo.map den) (hi.map den) (mx.map den)).run P w = .ok (den v) w := by
  unfold evSlice at h
  split at h
  · rename_i n e s _ _ _ i nm o hi'
    obtain ⟨hu, hs⟩ := (hT _ _ hi').und
    split at h
    · exact h.elim
    · obtain ⟨l, x, m, ⟨hml, h⟩, hr⟩ := evBounds_sound (P := P) h
      refine ⟨_, h, fun w => ?_⟩
      have hr := hr false w
      simp only [Option.map_none] at hr ⊢
      simp only [Instr.sliceAt, Sem.run_bind, run_underlying hu, Result.andThen_ok, den, Instr.sureAddr, Sem.run_pure, hr, run_sizeOf hs, addr_add, Nat.add_assoc, if_neg (show ¬ m = l by omega), Option.map_some]
  · rename_i e s _ _ _ i nm o len cap hi'
    obtain ⟨hu, hs⟩ := (hT _ _ hi').und
    obtain ⟨l, x, m, ⟨hml, h⟩, hr⟩ := evBounds_sound (P := P) h
    by_cases hm : m = l
    · refine ⟨_, hml hm, fun w => ?_⟩
      have hr := hr true w
      simp only [Instr.sliceAt, Instr.slice, Sem.run_bind, run_underlying hu, Result.andThen_ok, den, hr, run_sizeOf hs, addr_add, Sem.run_pure, Option.map_some, if_pos hm]
    · refine ⟨_, h hm, fun w => ?_⟩
      have hr := hr true w
      simp only [Instr.sliceAt, Instr.slice, Sem.run_bind, run_underlying hu, Result.andThen_ok, den, hr, run_sizeOf hs, addr_add, Sem.run_pure, Option.map_some, if_neg hm, Option.map_map, Function.comp_def, addr_add, Nat.add_assoc]
  · rename_i b hi'
    have hu : P.underlying t = some .string := (hT _ _ hi').und
    split at h
    · exact h.elim
    · obtain ⟨l, x, m, h, hr⟩ := evBounds_sound (P := P) h
      refine ⟨_, h, fun w => ?_⟩
      have hr := hr false w
      simp only [Option.map_none] at hr ⊢
      simp only [Instr.sliceAt, Instr.slice, Sem.run_bind, run_underlying hu, Result.andThen_ok, den, hr, Sem.run_pure, Option.isSome_none, Bool.false_eq_true, if_false]
  · exact h.elim

/-- A part of a row of cells. -/
def evPart (T : List (Nat × TyI)) (t : TypeId) (xs : List SV) (off : Nat) (K : SV → Prop) : Prop :=
  match lookN T t with
  | some ty => if ty.k.agg then off + ty.size ≤ xs.length ∧ forceL (rangeFrom (.l xs) off ty.size) fun vs => K (.agg vs) else off < xs.length ∧ (xs.getD off .und).force K
  | none => False
theorem evPart_sound {P : Program} {T : List (Nat × TyI)} (hT : TOk P T) {t : TypeId} {xs : List SV} {off : Nat} {K : SV → Prop} (h : evPart T t xs off K) :
    ∃ v, K v ∧ ∀ w, (part t (denL xs).toArray off).run P w = .ok (den v) w := by
  unfold evPart at h
  split at h
  · rename_i ty hty
    have hty := hT _ _ hty
    split at h
    · rename_i hagg
      obtain ⟨hn, h⟩ := h
      rw [forceL_eq] at h
      refine ⟨_, h, fun w => ?_⟩
      simp only [part, Sem.run_bind, run_isAgg hty.und, hagg, Result.andThen_ok, if_true, run_sizeOf hty.sz, Sem.run_pure, den]
      congr 2
      apply Array.ext'
      simp only [denL_map, rangeFrom_eq, List.extract_toArray, List.extract_eq_take_drop, Nat.add_sub_cancel_left]
      apply List.ext_getElem
      · simp; omega
      · intro j h1 h2
        simp at h2
        simp [Cts.get]
        rw [List.getElem?_eq_getElem (by omega)]; rfl
    · rename_i hagg
      obtain ⟨hn, h⟩ := h
      rw [SV.force_eq] at h
      refine ⟨_, h, fun w => ?_⟩
      have hx : (denL xs).toArray[off]? = some (den (xs.getD off .und)) := by
        simp [denL_map, hn]
      simp [part, run_isAgg hty.und, hagg, hx]
  · exact h.elim

def evIndex (T : List (Nat × TyI)) (t : TypeId) (x ix : SV) (K : SV → Prop) : Prop :=
  match lookN T t, x with
  | some ⟨.arr n e s, _, _, _⟩, .agg xs => evIx ix n (Nat.ble n 4) fun j => evPart T e xs (j * s) K
  | some ⟨.strg, _, _, _⟩, .str b => evIx ix b.size false fun j => K (.int .u8 ((b.data.toList.getD j 0).toNat))
  | _, _ => False
theorem evIndex_sound {P : Program} {T : List (Nat × TyI)} (hT : TOk P T) {t : TypeId} {x ix : SV} {K : SV → Prop} (h : evIndex T t x ix K) :
    ∃ v, K v ∧ ∀ w, (Instr.index t (den x) (den ix)).run P w = .ok (den v) w := by
  unfold evIndex at h
  split at h
  · rename_i n e s _ _ _ xs hi
    obtain ⟨hu, hs⟩ := (hT _ _ hi).und
    obtain ⟨k, q, hq, h1, h2, h⟩ := evIx_sound h
    obtain ⟨v, hv, hr⟩ := evPart_sound hT h
    refine ⟨v, hv, fun w => ?_⟩
    rw [hq]
    simp only [Instr.index, den, asIntOf, Sem.run_bind, Sem.run_pure, Result.andThen_ok, run_underlying hu, if_pos (And.intro h1 h2), run_sizeOf hs, hr]
  · rename_i b hi
    have hu : P.underlying t = some .string := (hT _ _ hi).und
    obtain ⟨k, q, hq, h1, h2, h⟩ := evIx_sound h
    refine ⟨_, h, fun w => ?_⟩
    rw [hq]
    have hlt : q.toNat < b.size := by omega
    simp only [Instr.index, den, asIntOf, Sem.run_bind, Sem.run_pure, Result.andThen_ok, run_underlying hu, if_pos h1]
    have hb : b[q.toNat]? = some (b.data.toList.getD q.toNat 0) := by
      rw [getElem?_pos b q.toNat hlt]
      have : q.toNat < b.data.toList.length := by simpa using hlt
      rw [List.getD_eq_getElem?_getD, List.getElem?_eq_getElem this]
      rfl
    rw [hb]; rfl
  · exact h.elim

def evField (T : List (Nat × TyI)) (t : TypeId) (x : SV) (f : Nat) (K : SV → Prop) : Prop :=
  match lookN T t, x with
  | some ⟨.str fl ts, _, _, _⟩, .agg xs =>
    match fl[f]?, ts[f]? with
    | some (off, _), some e => evPart T e xs off K
    | _, _ => False
  | _, _ => False
theorem evField_sound {P : Program} {T : List (Nat × TyI)} (hT : TOk P T) {t : TypeId} {x : SV} {f : Nat} {K : SV → Prop} (h : evField T t x f K) :
    ∃ v, K v ∧ ∀ w, (Instr.field t (den x) f).run P w = .ok (den v) w := by
  unfold evField at h
  split at h
  · rename_i fl ts _ _ _ xs hi
    obtain ⟨fs, hu, hfl, hts⟩ := (hT _ _ hi).und
    split at h
    · rename_i off s e hfs he
      obtain ⟨fd, hfd, h1, h2⟩ := hfl.get hfs
      have hfd' : fs[f]? = some fd := by simpa using hfd
      have hty : fd.type = e := by
        rw [← hts, List.getElem?_map, hfd] at he
        simpa using he
      obtain ⟨v, hv, hr⟩ := evPart_sound hT h
      refine ⟨v, hv, fun w => ?_⟩
      have := hr w
      simp only at h1
      simp only [Instr.field, Sem.run_bind, run_underlying hu, Result.andThen_ok, hfd', den, asAgg, Sem.run_pure, hty, h1, this]
    · exact h.elim
  · exact h.elim

def evExtract (x : SV) (j : Nat) (K : SV → Prop) : Prop :=
  match x with
  | .tup xs => withV xs[j]? K
  | _ => False
theorem evExtract_sound {P : Program} {x : SV} {j : Nat} {K : SV → Prop} (h : evExtract x j K) : ∃ v, K v ∧ ∀ w, (Instr.extract (den x) j).run P w = .ok (den v) w := by
  unfold evExtract at h
  split at h
  · rename_i xs
    obtain ⟨v, hv, h⟩ := withV_iff h
    refine ⟨v, h, fun w => ?_⟩
    have : (denL xs).toArray[j]? = some (den v) := by simp [denL_map, hv]
    simp [Instr.extract, den, this]
  · exact h.elim

def evConv (T : List (Nat × TyI)) (s d : TypeId) (x : SV) (K : SV → Prop) : Prop :=
  match lookN T s, lookN T d, x with
  | some _, some ⟨.int k, _, _, _⟩, .int _ n => rng k n K
  | some _, some ⟨.int .i64, _, _, _⟩, .lit n => I64 n ∧ K (.lit n)
  | some _, some ⟨.int k, _, _, _⟩, .lit n => K (.int k (k.wrap n))
  | some _, some ⟨.strg, _, _, _⟩, .str b => K (.str b)
  | _, _, _ => False
theorem KOk.some {P : Program} {t : TypeId} {k : TK} (h : KOk P t k) : ∃ d, P.underlying t = some d := by
  cases k with
  | scal => obtain ⟨d, h, _⟩ := h; exact ⟨d, h⟩
  | bool => exact ⟨_, h⟩
  | arr n e s => exact ⟨_, h.1⟩
  | str fl => obtain ⟨fs, h, _⟩ := h; exact ⟨_, h⟩
  | sli e s => exact ⟨_, h.1⟩
  | strg => exact ⟨_, h⟩
  | int k => exact ⟨_, h⟩
theorem evConv_sound {P : Program} {T : List (Nat × TyI)} (hT : TOk P T) {s d : TypeId} {x : SV} {K : SV → Prop} (h : evConv T s d x K) :
    ∃ v, K v ∧ ∀ w, (convert s d (den x)).run P w = .ok (den v) w := by
  unfold evConv at h
  split at h
  · rename_i hs hd
    obtain ⟨ds, hs⟩ := (hT _ _ hs).und.some
    have hd : P.underlying d = _ := (hT _ _ hd).und
    obtain ⟨v, hv, e⟩ := rng_sound h
    exact ⟨v, hv, fun w => by simp [convert, den, run_underlying hs, run_underlying hd, Conv.intToInt, ← e]⟩
  · rename_i hs hd
    obtain ⟨ds, hs⟩ := (hT _ _ hs).und.some
    have hd : P.underlying d = _ := (hT _ _ hd).und
    exact ⟨_, h.2, fun w => by simp [convert, den, run_underlying hs, run_underlying hd, Conv.intToInt, h.1.wrap]⟩
  · rename_i hs hd
    obtain ⟨ds, hs⟩ := (hT _ _ hs).und.some
    have hd : P.underlying d = _ := (hT _ _ hd).und
    exact ⟨_, h, fun w => by simp [convert, den, run_underlying hs, run_underlying hd, Conv.intToInt]⟩
  · rename_i hs hd
    obtain ⟨ds, hs⟩ := (hT _ _ hs).und.some
    have hd : P.underlying d = _ := (hT _ _ hd).und
    exact ⟨_, h, fun w => by cases ds <;> simp [convert, den, run_underlying hs, run_underlying hd]⟩
  · exact h.elim

def evLen (T : List (Nat × TyI)) (t : TypeId) (x : SV) (K : SV → Prop) : Prop :=
  match lookN T t, x with
  | some ⟨.strg, _, _, _⟩, .str b => K (.int .i64 (b.size : Int))
  | some ⟨.sli _ _, _, _, _⟩, .sl _ _ _ len _ => K (.int .i64 (len : Int))
  | some ⟨.sli _ _, _, _, _⟩, .nilsl => K (.lit 0)
  | some ⟨.arr n _ _, _, _, _⟩, _ => K (.lit (n : Int))
  | _, _ => False
theorem evLen_sound {P : Program} {T : List (Nat × TyI)} (hT : TOk P T) {t : TypeId} {x : SV} {K : SV → Prop} (h : evLen T t x K) :
    ∃ v, K v ∧ ∀ ty w, (Builtin.len_ #[t] ty #[den x]).run P w = .ok (den v) w := by
  unfold evLen at h
  split at h
  · rename_i hi
    have hu : P.underlying t = _ := (hT _ _ hi).und
    exact ⟨_, h, fun ty w => by simp [Builtin.len_, den, run_underlying hu, goInt]⟩
  · rename_i hi
    have hu := (hT _ _ hi).und.1
    exact ⟨_, h, fun ty w => by simp [Builtin.len_, den, run_underlying hu, goInt]⟩
  · rename_i hi
    have hu := (hT _ _ hi).und.1
    exact ⟨_, h, fun ty w => by simp [Builtin.len_, den, run_underlying hu, goInt]⟩
  · rename_i hi
    have hu := (hT _ _ hi).und.1
    exact ⟨_, h, fun ty w => by simp [Builtin.len_, den, run_underlying hu, goInt]⟩
  · exact h.elim

def evMin (mx : Bool) : List SV → (SV → Prop) → Prop
  | [.lit a, .lit b], K => K (.lit (if mx then max a b else min a b))
  | [x, y], K => match x.num, y.num with
    | some (.i64, a), some (.i64, b) => K (.int .i64 (if mx then max a b else min a b))
    | _, _ => False
  | _, _ => False

theorem evMin_sound {P : Program} {mx : Bool} {xs : List SV} {K : SV → Prop} (h : evMin mx xs K) :
    ∃ v, K v ∧ ∀ ts ty w, ((if mx then Builtin.max_ else Builtin.min_) ts ty (denL xs).toArray).run P w = .ok (den v) w := by
  have hmin : ∀ a b : Int, (if b < a then b else a) = min a b := fun a b => by omega
  have hmax : ∀ a b : Int, (if b > a then b else a) = max a b := fun a b => by omega
  unfold evMin at h
  split at h
  · refine ⟨_, h, fun ts ty w => ?_⟩
    cases mx
    · simp [Builtin.min_, Builtin.min2, denL, den, hmin]
    · simp [Builtin.max_, Builtin.max2, denL, den]; omega
  · split at h
    · rename_i hx hy
      refine ⟨_, h, fun ts ty w => ?_⟩
      cases mx
      · simp [Builtin.min_, Builtin.min2, denL, den, SV.num_den hx, SV.num_den hy, hmin]
      · simp [Builtin.max_, Builtin.max2, denL, den, SV.num_den hx, SV.num_den hy]; omega
    · exact h.elim
  · exact h.elim
end Go.Sx
