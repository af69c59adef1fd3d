/- From the row to the walk: arguments with slices in them. -/
import Derived.Test.YtkpffldbdbjcbaaGreatSyR
import Derived.Deep.Slices
set_option linter.unusedSimpArgs false
set_option linter.unusedVariables false
namespace Go.Sy
open Go.RowKit Go.ChangeShapes Go.WideShapes Go.ChangeAt

/-- What a cell of an argument may be: a whole number, a text, a slice over rows of so many whole numbers. -/
inductive Shp where
  | int
  | str
  | sl (n : Nat)
def shpF (P : Program) (g : TypeId → Option (List Shp)) : List Field → Nat → Option (List Shp)
  | [], _ => some []
  | f :: fs, i => match g f.type with
    | some l => if f.offset = i ∧ P.cellsOf f.type = l.length then (match shpF P g fs (i + l.length) with | some r => some (l ++ r) | none => none) else none
    | none => none
def shpT (P : Program) : Nat → TypeId → Option (List Shp)
  | 0, _ => none
  | d + 1, t => match intsN P 8 t with
    | some n => some (List.replicate n .int)
    | none => match P.underlying t with
      | some .string => some [.str]
      | some (.slice e) => match intsN P 8 e with
        | some n => if P.cellsOf e = n ∧ 0 < n then some [.sl n] else none
        | none => none
      | some (.struct fs) => match shpF P (shpT P d) fs.toList 0 with
        | some l => if P.cellsOf t = l.length then some l else none
        | none => none
      | _ => none

def OpC (w : World) : Shp → Value → Prop
  | .int, v => IsInt v
  | .str, v => ∃ s, v = .string s ∧ s.size ≤ maxLen
  | .sl n, v => v = .slice none 0 0 ∨ ∃ (a : Addr) (len cap : Nat), v = .slice (some a) len cap ∧ len ≤ cap ∧ cap ≤ maxLen ∧ ∀ j, j < len * n → ∃ k : Int, w.cell? (a.add j) = some (.int .i64 k) ∧ I64 k

section
variable {H : Type} {enc : TypeId × Value → H} {P : Program} {w : World} {base : Nat} {spare : Nat → Bool} {held : Bool}

theorem cells?_get {a : Addr} : ∀ {n : Nat} {cs : List Value}, w.cells? base a n = some cs → cs.length = n ∧ ∀ j, j < n → w.cell? (a.add j) = cs[j]? := by
  intro n cs h
  unfold World.cells? at h
  split at h
  · have key : ∀ (l : List Nat) (cs : List Value), (l.mapM fun i => w.cell? (a.add i)) = some cs → cs.length = l.length ∧ ∀ j, j < l.length → w.cell? (a.add (l.getD j 0)) = cs[j]? := by
      intro l
      induction l with
      | nil => intro cs h; simp at h; subst h; exact ⟨rfl, fun j hj => by simp at hj⟩
      | cons x l ih =>
        intro cs h
        simp only [List.mapM_cons, Option.bind_eq_bind, Option.pure_def] at h
        cases hx : w.cell? (a.add x) with
        | none => simp [hx] at h
        | some y =>
          cases hl : (l.mapM fun i => w.cell? (a.add i)) with
          | none => simp [hx, hl] at h
          | some zs =>
            simp [hx, hl] at h
            subst h
            obtain ⟨h1, h2⟩ := ih zs hl
            refine ⟨by simp [h1], fun j hj => ?_⟩
            cases j with
            | zero => simpa using hx
            | succ j => simpa using h2 j (by simpa using hj)
    obtain ⟨h1, h2⟩ := key _ _ h
    refine ⟨by simpa using h1, fun j hj => ?_⟩
    have := h2 j (by simpa using hj)
    simpa [List.getD, hj] using this
  · cases h

theorem trod_sl {t e : TypeId} {fuel n : Nat} {cs : List Value} {x : DataW H × List MemPlace} (ht : P.underlying t = some (.slice e)) (hn : intsN P 8 e = some n) (hc : P.cellsOf e = n) (h0 : 0 < n)
    (h : DataW.trod enc P w base spare held fuel t cs = some x) : ∃ v, cs = [v] ∧ OpC w (.sl n) v := by
  rcases Go.Deep.open_slice ht h with ⟨rfl, _⟩ | ⟨a, len, cap, m, k, D, Pl, rfl, hb, hl, hm, hmm, _, hx⟩
  · exact ⟨_, rfl, .inl rfl⟩
  · refine ⟨_, rfl, .inr ⟨a, len, cap, rfl, hl, hm, fun j hj => ?_⟩⟩
    have hi : j / n < len := by rw [Nat.div_lt_iff_lt_mul h0]; exact hj
    have him : j / n < m := by rw [hmm]; split <;> omega
    obtain ⟨cs', h1, h2⟩ := hx (j / n) him
    obtain ⟨hl', hall⟩ := trod_ints 8 e n hn k cs' _ h2
    rw [hc] at h1
    obtain ⟨_, hget⟩ := cells?_get h1
    have hd : j % n < n := Nat.mod_lt _ h0
    have := hget (j % n) hd
    rw [Go.Deep.add_add, show j / n * n + j % n = j by rw [Nat.mul_comm]; exact Nat.div_add_mod j n] at this
    rw [List.getElem?_eq_getElem (by omega)] at this
    obtain ⟨z, hz, hz2⟩ := hall (cs'[j % n]'(by omega)) (List.getElem_mem _)
    exact ⟨z, by rw [this, hz], hz2⟩

theorem shpF_ok {g : TypeId → Option (List Shp)} {fuel : Nat} {cs : List Value} (hg : ∀ t l, g t = some l → ∀ cs (x : DataW H × List MemPlace), DataW.trod enc P w base spare held fuel t cs = some x → cs.length = l.length ∧ ∀ (i : Nat) s v, l[i]? = some s → cs[i]? = some v → OpC w s v) :
    ∀ {fs : List Field} {i : Nat} {l : List Shp}, shpF P g fs i = some l → (∀ f ∈ fs, ∃ y, DataW.trod enc P w base spare held fuel f.type ((cs.drop f.offset).take (P.cellsOf f.type)) = some y) →
      ∀ (j : Nat) s v, l[j]? = some s → cs[i + j]? = some v → OpC w s v
  | [], i, l, h, _, j, s, v, h1, _ => by simp [shpF] at h; subst h; simp at h1
  | f :: fs, i, l, h, hy, j, s, v, h1, hv => by
    unfold shpF at h
    split at h
    · rename_i l1 hl1
      split at h
      · rename_i hof
        split at h
        · rename_i r hr
          simp at h
          subst h
          by_cases hj : j < l1.length
          · obtain ⟨y, hyf⟩ := hy f (by simp)
            obtain ⟨_, hall⟩ := hg _ _ hl1 _ _ hyf
            refine hall j s v (by rwa [List.getElem?_append_left hj] at h1) ?_
            rw [hof.1, hof.2, List.getElem?_take, if_pos hj, List.getElem?_drop]
            exact hv
          · refine shpF_ok hg hr (fun f hf => hy f (by simp [hf])) (j - l1.length) s v (by rwa [List.getElem?_append_right (by omega)] at h1) ?_
            rwa [show i + l1.length + (j - l1.length) = i + j by omega]
        · cases h
      · cases h
    · cases h

theorem trod_shp : ∀ (d : Nat) (t : TypeId) (l : List Shp), shpT P d t = some l → ∀ (fuel : Nat) (cs : List Value) (x : DataW H × List MemPlace), DataW.trod enc P w base spare held fuel t cs = some x →
    cs.length = l.length ∧ ∀ (i : Nat) s v, l[i]? = some s → cs[i]? = some v → OpC w s v
  | 0, t, l, h, _, _, _, _ => by simp [shpT] at h
  | d + 1, t, l, h, fuel, cs, x, hx => by
    unfold shpT at h
    split at h
    · rename_i n hn
      simp at h
      subst h
      obtain ⟨h1, h2⟩ := trod_ints 8 t n hn fuel cs x hx
      refine ⟨by simpa using h1, fun i s v hs hv => ?_⟩
      have : s = .int := by
        rw [List.getElem?_replicate] at hs
        split at hs
        · simpa using hs.symm
        · cases hs
      subst this
      exact h2 v (List.mem_of_getElem? hv)
    · split at h
      · rename_i hu
        simp at h
        subst h
        cases fuel with
        | zero => simp [DataW.trod] at hx
        | succ fuel =>
          unfold DataW.trod at hx
          simp only [hu] at hx
          split at hx <;> first | (rename_i heq; cases heq; done) | skip
          all_goals first | (simp at hx; done) | skip
          all_goals (rename_i heq; try (cases heq))
          all_goals (split at hx)
          all_goals first | (cases hx; done) | (refine ⟨rfl, fun i s v hs hv => ?_⟩; match i, hs, hv with | 0, hs, hv => (simp at hs hv; subst hs; subst hv; exact ⟨_, rfl, by assumption⟩) | i + 1, hs, hv => (simp at hs))
      · rename_i e hu
        split at h
        · rename_i n hn
          split at h
          · rename_i hc
            simp at h
            subst h
            obtain ⟨v, rfl, ho⟩ := trod_sl hu hn hc.1 hc.2 hx
            refine ⟨rfl, fun i s u hs hv => ?_⟩
            match i, hs, hv with
            | 0, hs, hv => simp at hs hv; subst hs; subst hv; exact ho
            | i + 1, hs, hv => simp at hs
          · cases h
        · cases h
      · rename_i fs hu
        split at h
        · rename_i l' hl'
          split at h
          · rename_i hc
            simp at h
            subst h
            cases fuel with
            | zero => simp [DataW.trod] at hx
            | succ fuel =>
            unfold DataW.trod at hx
            simp only [hu] at hx
            split at hx
            · rename_i hlen
              refine ⟨by rw [hlen, hc], fun i s v hs hv => ?_⟩
              cases hmp : fs.toList.mapM fun f => DataW.trod enc P w base spare held fuel f.type ((cs.drop f.offset).take (P.cellsOf f.type)) with
              | none => simp [hmp] at hx
              | some ys => exact shpF_ok (fun t l hl cs x hx => trod_shp d t l hl fuel cs x hx) hl' (fun f hf => mapM_some hmp f hf) i s v hs (by rwa [Nat.zero_add])
            · cases hx
          · cases h
        · cases h
      · cases h

/-! ### Places are plain -/
theorem okCell_spot {r : Reach} {b0 : Nat} {t : TypeId} {a : Addr} {len cap : Nat} (h : Cell.okWide P w r b0 t (.slice (some a) len cap)) : a.spot = none := by
  unfold Cell.okWide at h
  split at h <;> first | (rename_i heq; cases heq; done) | skip
  all_goals try (rename_i heq _; cases heq; done)
  unfold Cell.ok at h
  split at h <;> first | (rename_i heq; cases heq; done) | skip
  all_goals first | exact h.elim | skip
  all_goals (rename_i heq; cases heq; exact h.2.2.2.1)
theorem ok_spot {r : Reach} {b0 : Nat} {t : TypeId} {v : Value} (h : Value.okWide P w r b0 t v) : ∀ (i : Nat) (a : Addr) (len cap : Nat), v.cells[i]? = some (.slice (some a) len cap) → a.spot = none := by
  intro i a len cap hi
  have row : ∀ {cs : Array Value}, Row.okWide P w r b0 t cs → cs[i]? = some (.slice (some a) len cap) → a.spot = none := by
    intro cs ⟨ts, _, _, h⟩ hc
    obtain ⟨u, _, hu⟩ := h i _ hc
    exact okCell_spot hu
  unfold Value.okWide at h
  split at h
  · obtain ⟨cs, rfl, _, h⟩ := h; exact row h hi
  · obtain ⟨cs, rfl, _, h⟩ := h; exact row h hi
  · rename_i h1 h2
    have : v = .slice (some a) len cap ∨ ∃ cs, v = .agg cs := by
      cases v with
      | agg cs => exact .inr ⟨cs, rfl⟩
      | _ =>
        simp only [Value.cells] at hi
        match i, hi with
        | 0, hi => left; first | (simp at hi; done) | simpa using hi
        | i + 1, hi => simp at hi
    rcases this with rfl | ⟨cs, rfl⟩
    · exact okCell_spot h
    · exfalso
      unfold Cell.okWide at h
      split at h <;> first | (rename_i heq; cases heq; done) | skip
      all_goals try (rename_i heq _; cases heq; done)
      unfold Cell.ok at h
      split at h <;> first | (rename_i heq; cases heq; done) | exact h
end

/-- A slice among the arguments, as the walk wants it. -/
structure SlA (w : World) (n : Nat) (v : Value) (a : Option Nm) (len cap : Nat) : Prop where
  eq : v = den (.sl 0 a 0 n len cap)
  pos : 0 < len → a.isSome = true
  le : len ≤ cap
  max : cap ≤ 9223372036854775807
  cell : ∀ nm, a = some nm → ∀ j, j < len * n → ∃ k : Int, w.cell? ⟨nm.g, nm.b + j, none⟩ = some (.int .i64 k) ∧ I64 k
theorem OpC.sl {w : World} {n : Nat} {v : Value} (h : OpC w (.sl n) v) (hs : ∀ a len cap, v = .slice (some a) len cap → a.spot = none) : ∃ a len cap, SlA w n v a len cap := by
  rcases h with rfl | ⟨a, len, cap, rfl, h1, h2, h3⟩
  · exact ⟨none, 0, 0, rfl, fun h => by omega, by omega, by omega, fun nm h => by cases h⟩
  · have := hs a len cap rfl
    obtain ⟨g, b, s⟩ := a
    simp only at this
    subst this
    refine ⟨some ⟨g, b⟩, len, cap, by simp [den], fun _ => rfl, h1, by simpa [maxLen] using h2, fun nm he j hj => ?_⟩
    cases he
    have := h3 j hj
    rwa [Go.WideShapes.add_plain] at this

/-- The number in a cell. -/
def numAt (w : World) (a : Option Nm) (j : Nat) : Int :=
  match a with
  | some nm => match w.cell? ⟨nm.g, nm.b + j, none⟩ with
    | some (.int .i64 k) => k
    | _ => 0
  | none => 0
theorem SlA.num {w : World} {n : Nat} {v : Value} {a : Option Nm} {len cap : Nat} (h : SlA w n v a len cap) {nm : Nm} (ha : a = some nm) {j : Nat} (hj : j < len * n) :
    w.cell? ⟨nm.g, nm.b + j, none⟩ = some (.int .i64 (numAt w a j)) ∧ I64 (numAt w a j) := by
  obtain ⟨k, h1, h2⟩ := h.cell nm ha j hj
  subst ha
  have : numAt w (some nm) j = k := by simp [numAt, h1]
  rw [this]; exact ⟨h1, h2⟩
/-- The list that such a slice is. -/
theorem SlA.blk {w : World} {n : Nat} {v : Value} {a : Option Nm} {len cap : Nat} (h : SlA w n v a len cap) {c : Cts} (hs : c.s = n) (hl : c.len = len)
    (hr : ∀ k d, k < len → d < n → (c.row k).getD d .und = .int .i64 (numAt w a (k * n + d))) : HB.ok ⟨a, false, .ro, c⟩ w := by
  cases a with
  | none =>
    have h0 : len = 0 := by
      rcases Nat.eq_zero_or_pos len with h' | h'
      · exact h'
      · have := h.pos h'; simp at this
    show c.n = 0
    unfold Cts.n; rw [hl, h0]; simp
  | some nm =>
    intro o ho
    have ho : o < c.n := ho
    obtain ⟨h1, h2, h3, h4⟩ := c.n_at ho
    have hlt : o < len * n := by unfold Cts.n at ho; rw [hl, hs] at ho; exact ho
    rw [(h.num rfl hlt).1]
    show _ = some (den (c.get o))
    unfold Cts.get
    rw [hs] at h2 h3 h4 ⊢
    rw [hl] at h2
    rw [hr _ _ h2 h3, ← h4]; rfl

theorem getD_range {α : Type} {f : Nat → α} {n k : Nat} (d : α) (hk : k < n) : ((List.range n).map f).getD k d = f k := by
  simp [List.getD, hk]
theorem SlA.cx {w : World} {v : Value} {a : Option Nm} {len cap : Nat} (h : SlA w 4 v a len cap) : ∃ cs : List Cel, cs.length = len ∧ HB.ok ⟨a, false, .ro, .cx cs⟩ w :=
  ⟨(List.range len).map fun k => ⟨numAt w a (k * 4), numAt w a (k * 4 + 1), numAt w a (k * 4 + 2), numAt w a (k * 4 + 3)⟩, by simp, h.blk rfl (by simp [Cts.len]) fun k d hk hd => by
    simp only [Cts.row]; rw [getD_range _ hk]
    match d, hd with | 0, _ | 1, _ | 2, _ | 3, _ => rfl⟩
theorem SlA.rx {w : World} {v : Value} {a : Option Nm} {len cap : Nat} (h : SlA w 2 v a len cap) : ∃ cs : List Rul, cs.length = len ∧ HB.ok ⟨a, false, .ro, .rx cs⟩ w :=
  ⟨(List.range len).map fun k => ⟨numAt w a (k * 2), numAt w a (k * 2 + 1)⟩, by simp, h.blk rfl (by simp [Cts.len]) fun k d hk hd => by
    simp only [Cts.row]; rw [getD_range _ hk]
    match d, hd with | 0, _ | 1, _ => rfl⟩
theorem SlA.qx {w : World} {v : Value} {a : Option Nm} {len cap : Nat} (h : SlA w 2 v a len cap) : ∃ cs : List Rat2, cs.length = len ∧ HB.ok ⟨a, false, .ro, .qx cs⟩ w :=
  ⟨(List.range len).map fun k => ⟨numAt w a (k * 2), numAt w a (k * 2 + 1)⟩, by simp, h.blk rfl (by simp [Cts.len]) fun k d hk hd => by
    simp only [Cts.row]; rw [getD_range _ hk]
    match d, hd with | 0, _ | 1, _ => rfl⟩
theorem SlA.gx {w : World} {v : Value} {a : Option Nm} {len cap : Nat} (h : SlA w 10 v a len cap) : ∃ cs : List Gau, cs.length = len ∧ HB.ok ⟨a, false, .ro, .gx cs⟩ w :=
  ⟨(List.range len).map fun k => ⟨numAt w a (k * 10), numAt w a (k * 10 + 1), numAt w a (k * 10 + 2), numAt w a (k * 10 + 3), numAt w a (k * 10 + 4), numAt w a (k * 10 + 5), numAt w a (k * 10 + 6), numAt w a (k * 10 + 7), numAt w a (k * 10 + 8), numAt w a (k * 10 + 9)⟩, by simp, h.blk rfl (by simp [Cts.len]) fun k d hk hd => by
    simp only [Cts.row]; rw [getD_range _ hk]
    match d, hd with | 0, _ | 1, _ | 2, _ | 3, _ | 4, _ | 5, _ | 6, _ | 7, _ | 8, _ | 9, _ => rfl⟩
theorem SlA.ix {w : World} {v : Value} {a : Option Nm} {len cap : Nat} (h : SlA w 1 v a len cap) : ∃ cs : List Int, cs.length = len ∧ (∀ c ∈ cs, I64 c) ∧ HB.ok ⟨a, false, .ro, .ix cs⟩ w :=
  ⟨(List.range len).map fun k => numAt w a k, by simp, fun c hc => by
      obtain ⟨k, hk, rfl⟩ := List.mem_map.1 hc
      have hk := List.mem_range.1 hk
      cases a with
      | none => have := h.pos (by omega); simp at this
      | some nm => exact (h.num rfl (j := k) (by omega)).2,
    h.blk rfl (by simp [Cts.len]) fun k d hk hd => by
    simp only [Cts.row]; rw [getD_range _ hk]
    match d, hd with | 0, _ => simp⟩

section
variable {H : Type} {enc : TypeId × Value → H} {P : Program} {w : World} {base : Nat} {spare : Nat → Bool} {held : Bool}
/-- A struct, cell by cell. -/
theorem open_row {r : Reach} {b0 : Nat} {t : TypeId} {v : Value} {d : DataW H} {ps : List MemPlace} {ss : List Shp} (hn : shpT P 8 t = some ss) (hagg : (match P.underlying t with | some (.struct _) => true | _ => false) = true)
    (hval : Value.okWide P w r b0 t v) (hd : DataW.Trod enc P w base spare held t v d ps) : ∃ vs : List Value, v = .agg vs.toArray ∧ vs.length = ss.length ∧
      ∀ (i : Nat) s u, ss[i]? = some s → vs[i]? = some u → OpC w s u ∧ ∀ a len cap, u = .slice (some a) len cap → a.spot = none := by
  obtain ⟨fuel, hf⟩ := hd
  obtain ⟨hl, hi⟩ := trod_shp 8 t ss hn fuel _ _ hf
  have hsp := ok_spot hval
  have hv : ∃ cs, v = .agg cs := by
    unfold Value.okWide at hval
    split at hagg
    · rename_i fs hu; rw [hu] at hval; obtain ⟨cs, h, _⟩ := hval; exact ⟨cs, h⟩
    · cases hagg
  obtain ⟨cs, rfl⟩ := hv
  simp only [Value.cells] at hi hl hsp
  refine ⟨cs.toList, by simp, hl, fun i s u hs hu => ⟨hi i s u hs hu, fun a len cap he => hsp i a len cap ?_⟩⟩
  subst he
  simpa using hu
/-- A slice, by itself. -/
theorem open_sl {r : Reach} {b0 : Nat} {t e : TypeId} {n : Nat} {v : Value} {d : DataW H} {ps : List MemPlace} (ht : P.underlying t = some (.slice e)) (hn : intsN P 8 e = some n) (hc : P.cellsOf e = n) (h0 : 0 < n)
    (hval : Value.okWide P w r b0 t v) (hd : DataW.Trod enc P w base spare held t v d ps) : ∃ a len cap, SlA w n v a len cap := by
  obtain ⟨fuel, hf⟩ := hd
  obtain ⟨u, hu, ho⟩ := trod_sl ht hn hc h0 hf
  have hsp := ok_spot hval
  have hv : v = u := by
    cases v with
    | agg cs =>
      exfalso
      unfold Value.okWide at hval
      rw [ht] at hval
      unfold Cell.okWide at hval
      rw [ht] at hval
      unfold Cell.ok at hval
      rw [ht] at hval
      exact hval
    | _ => simpa [Value.cells] using hu
  subst hv
  refine ho.sl fun a len cap he => hsp 0 a len cap ?_
  subst he
  simp [Value.cells]

theorem open_lr {r : Reach} {b0 : Nat} {t e : TypeId} {v : Value} {d : DataW H} {ps : List MemPlace} (ht : P.underlying t = some (.slice e)) (hn : intsN P 8 e = some 2) (hc : P.cellsOf e = 2)
    (hval : Value.okWide P w r b0 t v) (hd : DataW.Trod enc P w base spare held t v d ps) : ∃ (cs : List Rul) (a : Option Nm) (cap : Nat), v = den (.sl 0 a 0 2 cs.length cap) ∧ cs.length ≤ cap ∧ cap ≤ 9223372036854775807 ∧ (0 < cs.length → a.isSome = true) ∧ HB.ok ⟨a, false, .ro, .rx cs⟩ w := by
  obtain ⟨a, len, cap, h⟩ := open_sl ht hn hc (by omega) hval hd
  obtain ⟨cs, rfl, hb⟩ := h.rx
  exact ⟨cs, a, cap, h.eq, h.le, h.max, h.pos, hb⟩
theorem open_li {r : Reach} {b0 : Nat} {t e : TypeId} {v : Value} {d : DataW H} {ps : List MemPlace} (ht : P.underlying t = some (.slice e)) (hn : intsN P 8 e = some 1) (hc : P.cellsOf e = 1)
    (hval : Value.okWide P w r b0 t v) (hd : DataW.Trod enc P w base spare held t v d ps) : ∃ (cs : List Int) (a : Option Nm) (cap : Nat), v = den (.sl 0 a 0 1 cs.length cap) ∧ (∀ c ∈ cs, I64 c) ∧ cs.length ≤ cap ∧ cap ≤ 9223372036854775807 ∧ (0 < cs.length → a.isSome = true) ∧ HB.ok ⟨a, false, .ro, .ix cs⟩ w := by
  obtain ⟨a, len, cap, h⟩ := open_sl ht hn hc (by omega) hval hd
  obtain ⟨cs, rfl, hi, hb⟩ := h.ix
  exact ⟨cs, a, cap, h.eq, hi, h.le, h.max, h.pos, hb⟩
theorem open_pnt {r : Reach} {b0 : Nat} {t : TypeId} {v : Value} {d : DataW H} {ps : List MemPlace} (hn : intsN P 8 t = some 2)
    (hagg : (match P.underlying t with | some (.struct _) | some (.array _ _) => true | _ => false) = true)
    (hval : Value.okWide P w r b0 t v) (hd : DataW.Trod enc P w base spare held t v d ps) : ∃ c : Pnt, v = den (.agg [.int .i64 c.x, .int .i64 c.y]) ∧ I64 c.x ∧ I64 c.y := by
  obtain ⟨xs, rfl, hl, hb⟩ := open_ints_agg hn hagg hval hd
  match xs, hl with
  | [a, b], _ => exact ⟨⟨a, b⟩, rfl, hb a (by simp), hb b (by simp)⟩
theorem open_grd {r : Reach} {b0 : Nat} {t : TypeId} {v : Value} {d : DataW H} {ps : List MemPlace} (hn : shpT P 8 t = some [.int, .int, .sl 4]) (hagg : (match P.underlying t with | some (.struct _) => true | _ => false) = true)
    (hval : Value.okWide P w r b0 t v) (hd : DataW.Trod enc P w base spare held t v d ps) : ∃ (g : Grd) (a : Option Nm) (cap : Nat), v = den (.agg [.int .i64 g.w, .int .i64 g.h, .sl 0 a 0 4 g.cs.length cap]) ∧ (I64 g.w ∧ I64 g.h ∧ g.cs.length ≤ cap ∧ cap ≤ 9223372036854775807) ∧ (0 < g.cs.length → a.isSome = true) ∧ HB.ok ⟨a, false, .ro, .cx g.cs⟩ w := by
  obtain ⟨vs, rfl, hl, h⟩ := open_row hn hagg hval hd
  match vs, hl with
  | [x, y, z], _ =>
    obtain ⟨x', rfl, hx⟩ := (h 0 _ _ rfl rfl).1
    obtain ⟨y', rfl, hy⟩ := (h 1 _ _ rfl rfl).1
    obtain ⟨h1, h2⟩ := h 2 _ _ rfl rfl
    obtain ⟨a, len, cap, hs⟩ := h1.sl h2
    obtain ⟨cs, rfl, hb⟩ := hs.cx
    exact ⟨⟨x', y', cs⟩, a, cap, by rw [hs.eq]; simp [den, denL], ⟨hx, hy, hs.le, hs.max⟩, hs.pos, hb⟩
end
end Go.Sy
