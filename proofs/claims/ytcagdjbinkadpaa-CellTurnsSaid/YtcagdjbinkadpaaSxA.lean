/- A symbolic executor over the model's code, and its soundness: plain definitions and theorems, no program in sight. -/
import Derived.WalkKit
import Derived.StillTail
import Derived.Deep.Quiet
import Derived.Laws.StructEq
set_option linter.unusedSimpArgs false
set_option linter.unusedVariables false
namespace Go.Sx
open Go.RowKit

/-- Formulas over whole numbers, as a test has them. -/
inductive BF where
  | tt | ff
  | atom (b : Bool)
  | lt (a b : Int)
  | le (a b : Int)
  | eq (a b : Int)
  | not (f : BF)
  | and (f g : BF)
  | or (f g : BF)

def BF.b : BF → Bool
  | .tt => true
  | .ff => false
  | .atom b => b
  | .lt x y => decide (x < y)
  | .le x y => decide (x ≤ y)
  | .eq x y => decide (x = y)
  | .not f => !f.b
  | .and f g => f.b && g.b
  | .or f g => f.b || g.b

/-- What it says that the formula comes to 'p'. -/
def BF.H : BF → Bool → Prop
  | .tt, true => True
  | .tt, false => False
  | .ff, true => False
  | .ff, false => True
  | .atom b, p => b = p
  | .lt x y, true => x < y
  | .lt x y, false => y ≤ x
  | .le x y, true => x ≤ y
  | .le x y, false => y < x
  | .eq x y, true => x = y
  | .eq x y, false => x ≠ y
  | .not f, true => f.H false
  | .not f, false => f.H true
  | .and f g, true => f.H true ∧ g.H true
  | .and f g, false => f.H false ∨ g.H false
  | .or f g, true => f.H true ∨ g.H true
  | .or f g, false => f.H false ∧ g.H false

theorem BF.H_iff : ∀ (f : BF) (p : Bool), f.H p ↔ f.b = p
  | .tt, true | .tt, false | .ff, true | .ff, false => by simp [BF.H, BF.b]
  | .atom b, p => by simp [BF.H, BF.b]
  | .lt x y, true | .lt x y, false | .le x y, true | .le x y, false | .eq x y, true | .eq x y, false => by simp [BF.H, BF.b]
  | .not f, true => by simp [BF.H, BF.b, BF.H_iff f]
  | .not f, false => by simp [BF.H, BF.b, BF.H_iff f]
  | .and f g, true => by simp [BF.H, BF.b, BF.H_iff f, BF.H_iff g]
  | .and f g, false => by simp only [BF.H, BF.b, BF.H_iff f, BF.H_iff g, Bool.and_eq_false_iff]
  | .or f g, true => by simp [BF.H, BF.b, BF.H_iff f, BF.H_iff g]
  | .or f g, false => by simp [BF.H, BF.b, BF.H_iff f, BF.H_iff g]

/-- A block's name: its number, and where in it we count from. -/
structure Nm where
  g : Nat
  b : Nat

inductive SV where
  | und
  | bool (f : BF)
  | int (k : IntKind) (n : Int)
  | lit (n : Int)
  | str (s : ByteArray)
  | ptr (i : Nat) (nm : Nm) (o : Nat)
  | sl (i : Nat) (a : Option Nm) (o len cap : Nat)
  | nilsl
  | agg (xs : List SV)
  | tup (xs : List SV)
  | fn (f : FuncId) (first cap : List SV)
  | val (v : Value)

mutual
def den : SV → Value
  | .und => undef
  | .bool f => .bool f.b
  | .int k n => .int k n
  | .lit n => .int .i64 n
  | .str s => .string s
  | .ptr _ nm o => .pointer (some ⟨nm.g, nm.b + o, none⟩)
  | .sl _ a o len cap => .slice (a.map fun nm => ⟨nm.g, nm.b + o, none⟩) len cap
  | .nilsl => .slice none 0 0
  | .agg xs => .agg (denL xs).toArray
  | .tup xs => .tuple (denL xs).toArray
  | .fn f a b => .func (.func f) (denL a).toArray (denL b).toArray
  | .val v => v
def denL : List SV → List Value
  | [] => []
  | x :: xs => den x :: denL xs
end

theorem denL_map : ∀ xs : List SV, denL xs = xs.map den
  | [] => rfl
  | x :: xs => by simp [denL, denL_map xs]

/-- A value from 1 cell. -/
def SV.one : SV → Bool
  | .agg _ | .tup _ | .und => false
  | .val (.agg _) | .val (.tuple _) => false
  | _ => true

theorem SV.one_cells {v : SV} (h : v.one = true) : (den v).cells = #[den v] := by
  cases v with
  | val v => cases v <;> first | (simp [SV.one] at h; done) | simp [den, Value.cells]
  | _ => first | (simp [SV.one] at h; done) | simp [den, Value.cells]
theorem SV.one_cell {v : SV} (h : v.one = true) : (den v).oneCell' = true := by
  cases v with
  | val v => cases v <;> first | (simp [SV.one] at h; done) | simp [den, Value.oneCell']
  | _ => first | (simp [SV.one] at h; done) | simp [den, Value.oneCell']

/-- Four populations; a rule. -/
structure Cel where
  e : Int
  n : Int
  w : Int
  s : Int
  deriving DecidableEq
structure Rul where
  k : Int
  b : Int
  deriving DecidableEq
theorem Cel.eta (c : Cel) : (⟨c.e, c.n, c.w, c.s⟩ : Cel) = c := rfl
theorem Rul.eta (r : Rul) : (⟨r.k, r.b⟩ : Rul) = r := rfl
instance : Inhabited Cel := ⟨⟨0, 0, 0, 0⟩⟩
instance : Inhabited Rul := ⟨⟨0, 0⟩⟩
def Cel.sv (c : Cel) : SV := .agg [.int .i64 c.e, .int .i64 c.n, .int .i64 c.w, .int .i64 c.s]
def Rul.sv (r : Rul) : SV := .agg [.int .i64 r.k, .int .i64 r.b]

def celGet (xs : List Cel) (o : Nat) : Int :=
  match o % 4 with
  | 0 => (xs.getD (o / 4) default).e
  | 1 => (xs.getD (o / 4) default).n
  | 2 => (xs.getD (o / 4) default).w
  | _ => (xs.getD (o / 4) default).s
def rulGet (xs : List Rul) (o : Nat) : Int :=
  match o % 2 with
  | 0 => (xs.getD (o / 2) default).k
  | _ => (xs.getD (o / 2) default).b

/-- What a block holds: a known row, or so many cells by their number; numbers, cells, rules. -/
inductive Cts where
  | l (xs : List SV)
  | f (n : Nat) (get : Nat → SV)
  | ix (xs : List Int)
  | cx (xs : List Cel)
  | rx (xs : List Rul)

def Cts.n : Cts → Nat
  | .l xs => xs.length
  | .f n _ => n
  | .ix xs => xs.length
  | .cx xs => xs.length * 4
  | .rx xs => xs.length * 2
def Cts.get : Cts → Nat → SV
  | .l xs, o => xs.getD o .und
  | .f _ g, o => g o
  | .ix xs, o => .int .i64 (xs.getD o 0)
  | .cx xs, o => .int .i64 (celGet xs o)
  | .rx xs, o => .int .i64 (rulGet xs o)

structure HB where
  nm : Nm
  wr : Bool
  own : Bool
  ty : TypeId
  cts : Cts

/-- A block as it lies in a world. -/
def HB.ok (b : HB) (w : World) : Prop :=
  if b.wr then b.nm.b = 0 ∧ ∃ cs : Array Value, w.heap[b.nm.g]? = some (.cells cs b.ty (0, 0)) ∧ cs.size = b.cts.n ∧ ∀ o, o < b.cts.n → cs[o]? = some (den (b.cts.get o))
  else ∀ o, o < b.cts.n → w.cell? ⟨b.nm.g, b.nm.b + o, none⟩ = some (den (b.cts.get o))

structure Holds (w0 w : World) (hp : List HB) : Prop where
  os : w.os = w0.os
  tape : w.tape = w0.tape
  output : w.output = w0.output
  size : w0.heap.size ≤ w.heap.size
  frame : ∀ k, k < w0.heap.size → (∀ b ∈ hp, b.wr = true → b.nm.g ≠ k) → w.heap[k]? = w0.heap[k]?
  blk : ∀ b ∈ hp, b.ok w
  own : ∀ b ∈ hp, b.own = true → w0.heap.size ≤ b.nm.g
  sep : ∀ (i j : Nat) (bi bj : HB), hp[i]? = some bi → hp[j]? = some bj → bi.wr = true → i ≠ j → (bj.wr = true ∨ 0 < bj.cts.n) → bi.nm.g ≠ bj.nm.g

theorem HB.ok.lt {b : HB} {w : World} (h : b.ok w) (hn : b.wr = true ∨ 0 < b.cts.n) : b.nm.g < w.heap.size := by
  unfold HB.ok at h
  split at h
  · obtain ⟨_, cs, h, _⟩ := h
    exact (Array.getElem?_eq_some_iff.1 h).1
  · rename_i hw
    exact World.block_lt_of_cell? w _ (h 0 (hn.resolve_left hw))

theorem HB.ok.same {b : HB} {w w' : World} (h : b.ok w) (hb : (b.wr = true ∨ 0 < b.cts.n) → w'.heap[b.nm.g]? = w.heap[b.nm.g]?) : b.ok w' := by
  unfold HB.ok at h ⊢
  split
  · rename_i hw
    rw [if_pos hw] at h
    rw [hb (.inl hw)]; exact h
  · rename_i hw
    rw [if_neg hw] at h
    exact fun o ho => (World.cell?_of_block (w := w) (hb (.inr (by omega)))).trans (h o ho)

/-- A call that leaves all that was there as it was. -/
theorem Holds.below {w0 w w' : World} {hp : List HB} (h : Holds w0 w hp) (hb : Below w.heap.size w w') : Holds w0 w' hp :=
  ⟨hb.os.trans h.os, hb.tape.trans h.tape, hb.output.trans h.output, Nat.le_trans h.size hb.size,
   fun k hk hn => (hb.block k (Nat.lt_of_lt_of_le hk h.size)).trans (h.frame k hk hn),
   fun b hm => (h.blk b hm).same fun hn => hb.block _ ((h.blk b hm).lt hn), h.own, h.sep⟩

theorem Holds.start (w : World) : Holds w w [] :=
  ⟨rfl, rfl, rfl, Nat.le_refl _, fun _ _ _ => rfl, fun _ h => (by cases h), fun _ h => (by cases h), fun i j bi bj h => (by simp at h)⟩

/-- Nothing that was there has turned. -/
theorem Holds.toBelow {w0 w : World} {hp : List HB} (h : Holds w0 w hp) (hn : ∀ b ∈ hp, b.wr = true → b.own = true) : Below w0.heap.size w0 w :=
  ⟨h.os, h.tape, h.output, h.size, fun k hk => h.frame k hk fun b hb hw he => by have := h.own b hb (hn b hb hw); omega⟩

theorem Holds.drew {w0 w : World} {hp : List HB} (h : Holds w0 w hp) : Holds w0 { w with drawn := w.drawn + 1 } hp :=
  ⟨h.os, h.tape, h.output, h.size, h.frame, h.blk, h.own, h.sep⟩

/-- A new block. -/
theorem Holds.new {w0 w : World} {hp : List HB} (h : Holds w0 w hp) (cs : Array Value) (t : TypeId) (c : Cts) (hs : cs.size = c.n) (hc : ∀ o, o < c.n → cs[o]? = some (den (c.get o))) :
    Holds w0 (w.alloc (.cells cs t)) (hp ++ [⟨⟨w.heap.size, 0⟩, true, true, t, c⟩]) := by
  refine ⟨h.os, h.tape, h.output, by simp; exact Nat.le_succ_of_le h.size, fun k hk hn => ?_, fun b hb => ?_, fun b hb ho => ?_, fun i j bi bj hi hj hw hij hne => ?_⟩
  · rw [Below.heap_alloc _ _ _ (Nat.lt_of_lt_of_le hk h.size)]
    exact h.frame k hk fun b hb hw => hn b (List.mem_append.2 (.inl hb)) hw
  · rcases List.mem_append.1 hb with hb | hb
    · have := h.blk b hb
      exact this.same fun hn => Below.heap_alloc _ _ _ (this.lt hn)
    · rw [List.mem_singleton] at hb; subst hb
      refine (if_pos rfl).mpr ⟨rfl, cs, heap_alloc_new w _, hs, hc⟩
  · rcases List.mem_append.1 hb with hb | hb
    · exact h.own b hb ho
    · rw [List.mem_singleton] at hb; subst hb; exact h.size
  · have lt : ∀ (i : Nat) (b : HB), hp[i]? = some b → (b.wr = true ∨ 0 < b.cts.n) → b.nm.g < w.heap.size := fun i b hb => (h.blk b (List.mem_of_getElem? hb)).lt
    rw [List.getElem?_append] at hi hj
    split at hi <;> split at hj
    · exact h.sep i j bi bj hi hj hw hij hne
    · have := lt i bi hi (.inl hw)
      have hj' : bj.nm.g = w.heap.size := by
        have := List.mem_of_getElem? hj
        rw [List.mem_singleton] at this; subst this; rfl
      omega
    · have := lt j bj hj hne
      have hi' : bi.nm.g = w.heap.size := by
        have := List.mem_of_getElem? hi
        rw [List.mem_singleton] at this; subst this; rfl
      omega
    · have h1 : i - hp.length = 0 := by
        have := (List.getElem?_eq_some_iff.1 hi).1; simp at this; omega
      have h2 : j - hp.length = 0 := by
        have := (List.getElem?_eq_some_iff.1 hj).1; simp at this; omega
      omega

/-- A cell of a known block. -/
theorem HB.ok.cell {b : HB} {w : World} (h : b.ok w) {o : Nat} (ho : o < b.cts.n) : w.cell? ⟨b.nm.g, b.nm.b + o, none⟩ = some (den (b.cts.get o)) := by
  unfold HB.ok at h
  split at h
  · obtain ⟨h0, cs, h1, h2, h3⟩ := h
    rw [h0, Nat.zero_add, cell_of_row w _ o cs b.ty (0, 0) h1]
    exact h3 o ho
  · exact h o ho
theorem HB.ok.free {b : HB} {w : World} (h : b.ok w) (hw : b.wr = true) (o : Nat) : w.frozen? ⟨b.nm.g, o, none⟩ = false := by
  unfold HB.ok at h
  rw [if_pos hw] at h
  obtain ⟨_, cs, h1, _⟩ := h
  simp [World.frozen?, h1]

/-- A row of cells is written anew from 'o' on. -/
def setL : List SV → Nat → List SV → List SV
  | xs, _, [] => xs
  | xs, o, v :: vs => setL (xs.set o v) (o + 1) vs
def Cts.set : Cts → Nat → List SV → Cts
  | .l xs, o, vs => .l (setL xs o vs)
  | c, o, vs => .f c.n fun j => if o ≤ j ∧ j < o + vs.length then vs.getD (j - o) .und else c.get j

theorem setL_length : ∀ (vs xs : List SV) (o : Nat), (setL xs o vs).length = xs.length
  | [], _, _ => rfl
  | v :: vs, xs, o => by simp [setL, setL_length vs]
theorem Cts.set_n (c : Cts) (o : Nat) (vs : List SV) : (c.set o vs).n = c.n := by
  cases c <;> simp [Cts.set, Cts.n, setL_length]

theorem setL_getD : ∀ (vs xs : List SV) (o j : Nat), j < xs.length → (setL xs o vs).getD j .und = if o ≤ j ∧ j < o + vs.length then vs.getD (j - o) .und else xs.getD j .und
  | [], xs, o, j, hj => by simp [setL]; intro h1 h2; omega
  | v :: vs, xs, o, j, hj => by
    rw [setL, setL_getD vs (xs.set o v) (o + 1) j (by simpa using hj)]
    simp only [List.length_cons]
    by_cases h1 : o = j
    · subst h1
      rw [if_neg (by omega), if_pos (by omega)]
      simp [hj]
    · by_cases h2 : o + 1 ≤ j ∧ j < o + 1 + vs.length
      · rw [if_pos h2, if_pos (by omega)]
        rw [show j - o = (j - (o + 1)) + 1 by omega]
        simp
      · rw [if_neg h2, if_neg (by omega)]
        simp [List.getD_eq_getElem?_getD, h1]
theorem Cts.set_get (c : Cts) (o : Nat) (vs : List SV) (j : Nat) (hj : j < c.n) : (c.set o vs).get j = if o ≤ j ∧ j < o + vs.length then vs.getD (j - o) .und else c.get j := by
  cases c with
  | l xs => exact setL_getD vs xs o j hj
  | _ => rfl

/-- The cells are stored one behind the other. -/
def setVs (cs : Array Value) : Nat → List Value → Array Value
  | _, [] => cs
  | o, v :: vs => setVs (cs.setIfInBounds o v) (o + 1) vs
theorem setVs_size : ∀ (vs : List Value) (cs : Array Value) (o : Nat), (setVs cs o vs).size = cs.size
  | [], _, _ => rfl
  | v :: vs, cs, o => by simp [setVs, setVs_size vs]
theorem setVs_get : ∀ (vs : List Value) (cs : Array Value) (o j : Nat), j < cs.size → (setVs cs o vs)[j]? = if o ≤ j ∧ j < o + vs.length then vs[j - o]? else cs[j]?
  | [], cs, o, j, hj => by simp [setVs]; intro h1 h2; omega
  | v :: vs, cs, o, j, hj => by
    rw [setVs, setVs_get vs _ (o + 1) j (by simpa using hj)]
    simp only [List.length_cons]
    by_cases h1 : o = j
    · subst h1
      rw [if_neg (by omega), if_pos (by omega)]
      simp [hj]
    · by_cases h2 : o + 1 ≤ j ∧ j < o + 1 + vs.length
      · rw [if_pos h2, if_pos (by omega)]
        rw [show j - o = (j - (o + 1)) + 1 by omega]
        simp
      · rw [if_neg h2, if_neg (by omega)]
        simp [h1]

theorem run_storeCells_in (P : Program) (g b : Nat) (t : TypeId) : ∀ (vs : List Value) (i : Nat) (cs : Array Value) (w : World), w.heap[g]? = some (.cells cs t (0, 0)) → b + i + vs.length ≤ cs.size → (∀ v ∈ vs, v.oneCell' = true) →
    ∃ w', (storeCells ⟨g, b, none⟩ vs i).run P w = .ok () w' ∧ w'.heap[g]? = some (.cells (setVs cs (b + i) vs) t (0, 0)) ∧
      w'.os = w.os ∧ w'.tape = w.tape ∧ w'.output = w.output ∧ w'.heap.size = w.heap.size ∧ ∀ k, k ≠ g → w'.heap[k]? = w.heap[k]?
  | [], i, cs, w, h, _, _ => ⟨w, by simp [storeCells], by simpa [setVs] using h, rfl, rfl, rfl, rfl, fun _ _ => rfl⟩
  | v :: vs, i, cs, w, h, hs, h1 => by
    simp only [List.length_cons] at hs
    have ha : (⟨g, b, none⟩ : Addr).add i = ⟨g, b + i, none⟩ := Addr.add_lit g b i
    have hc : w.cell? ⟨g, b + i, none⟩ = some cs[b + i] := by
      rw [cell_of_row w g (b + i) cs t (0, 0) h]; simp
    have hf : w.frozen? ⟨g, b + i, none⟩ = false := by simp [World.frozen?, h]
    have hset : (w.setCell ⟨g, b + i, none⟩ v).heap[g]? = some (.cells (cs.setIfInBounds (b + i) v) t (0, 0)) := by
      simp [World.setCell, Array.getElem?_modify, h]
    obtain ⟨w', hr, hg, h2, h3, h4, h5, h6⟩ := run_storeCells_in P g b t vs (i + 1) (cs.setIfInBounds (b + i) v) (w.setCell ⟨g, b + i, none⟩ v) hset (by simp; omega) (fun u hu => h1 u (by simp [hu]))
    refine ⟨w', ?_, ?_, h2, h3, h4, by simpa using h5, fun k hk => (h6 k hk).trans (Below.heap_setCell w _ _ _ hk)⟩
    · simp only [storeCells, ha, Sem.run_bind]
      rw [run_store P w _ v .plain (h1 v (by simp)), hc]
      simp [hf, hr]
    · simpa [setVs, Nat.add_assoc] using hg

theorem run_loadCells_in (P : Program) (w : World) (g b n : Nat) (get : Nat → Value) (h : ∀ o, o < n → w.cell? ⟨g, b + o, none⟩ = some (get o)) :
    (loadCells ⟨g, b, none⟩ n).run P w = .ok ((List.range n).map get).toArray w := by
  have := run_loadCells (P := P) (w := w) ⟨g, b, none⟩ n get (fun j hj => by rw [Addr.add_lit]; exact h j hj)
  rw [this]

/-- A store into a known block that may be written. -/
theorem Holds.set {w0 w w' : World} {hp : List HB} (h : Holds w0 w hp) {i : Nat} {b : HB} (hi : hp[i]? = some b) (hw : b.wr = true) {cs : Array Value} {o : Nat} {vs : List SV}
    (hcs : w.heap[b.nm.g]? = some (.cells cs b.ty (0, 0))) (hsz : cs.size = b.cts.n) (hold : ∀ o, o < b.cts.n → cs[o]? = some (den (b.cts.get o)))
    (he : w'.heap[b.nm.g]? = some (.cells (setVs cs o (denL vs)) b.ty (0, 0))) (hn : o + vs.length ≤ b.cts.n)
    (h1 : w'.os = w.os) (h2 : w'.tape = w.tape) (h3 : w'.output = w.output) (h4 : w'.heap.size = w.heap.size) (h5 : ∀ k, k ≠ b.nm.g → w'.heap[k]? = w.heap[k]?) :
    Holds w0 w' (hp.set i { b with cts := b.cts.set o vs }) := by
  have hmem : ∀ c ∈ hp.set i { b with cts := b.cts.set o vs }, c = { b with cts := b.cts.set o vs } ∨ ∃ j, j ≠ i ∧ hp[j]? = some c := fun c hc => by
    obtain ⟨j, hj⟩ := List.mem_iff_getElem?.1 hc
    rw [List.getElem?_set] at hj
    split at hj
    · rename_i hij
      split at hj
      · left; cases hj; rfl
      · cases hj
    · rename_i hij
      exact .inr ⟨j, fun e => hij e.symm, hj⟩
  have hb0 : b.nm.b = 0 := by
    have := h.blk b (List.mem_of_getElem? hi)
    unfold HB.ok at this; rw [if_pos hw] at this; exact this.1
  refine ⟨h1.trans h.os, h2.trans h.tape, h3.trans h.output, by rw [h4]; exact h.size, fun k hk hk2 => ?_, fun c hc => ?_, fun c hc ho => ?_, fun j k bj bk hj hk hwj hjk hne => ?_⟩
  · have hlt : i < hp.length := (List.getElem?_eq_some_iff.1 hi).1
    have hkb : k ≠ b.nm.g := fun e => hk2 { b with cts := b.cts.set o vs } (List.mem_iff_getElem?.2 ⟨i, by simp [List.getElem?_set, hlt]⟩) hw e.symm
    rw [h5 k hkb]
    refine h.frame k hk fun c hc hcw => ?_
    obtain ⟨j, hj⟩ := List.mem_iff_getElem?.1 hc
    by_cases hij : j = i
    · subst hij; rw [hi] at hj; cases hj; exact fun e => hkb e.symm
    · exact hk2 c (List.mem_iff_getElem?.2 ⟨j, by rw [List.getElem?_set, if_neg (fun e => hij e.symm)]; exact hj⟩) hcw
  · rcases hmem c hc with rfl | ⟨j, hji, hj⟩
    · refine (if_pos hw).mpr ⟨hb0, _, he, ?_, fun q hq => ?_⟩
      · rw [setVs_size, hsz, Cts.set_n]
      · have hq' : q < b.cts.n := by have := Cts.set_n b.cts o vs; simp only at hq; omega
        have hl : (denL vs).length = vs.length := by simp [denL_map]
        rw [setVs_get _ _ _ _ (by omega), Cts.set_get _ _ _ _ hq', hl]
        split
        · rename_i hin
          have : q - o < vs.length := by omega
          simp [denL_map, this]
        · exact hold q hq'
    · exact (h.blk c (List.mem_of_getElem? hj)).same fun hne => h5 _ (fun e => h.sep i j b c hi hj hw (fun x => hji x.symm) hne e.symm)
  · rcases hmem c hc with rfl | ⟨j, _, hj⟩
    · exact h.own b (List.mem_of_getElem? hi) ho
    · exact h.own c (List.mem_of_getElem? hj) ho
  · rw [List.getElem?_set] at hj hk
    split at hj <;> split at hk
    · omega
    · rename_i hij hik
      split at hj
      · cases hj; exact h.sep i k b bk hi hk hw (fun e => hik e) hne
      · cases hj
    · rename_i hij hik
      split at hk
      · cases hk; exact h.sep j i bj b hj hi hwj (fun e => hij e.symm) (.inl hw)
      · cases hk
    · exact h.sep j k bj bk hj hk hwj hjk hne

/-- What a callee may read: our blocks, not to be written. -/
def HB.ro (b : HB) : HB := { b with wr := false, own := false }
theorem HB.ok.ro {b : HB} {w : World} (h : b.ok w) : b.ro.ok w := (if_neg (by simp [HB.ro])).mpr fun o ho => h.cell ho
theorem Holds.ofRo {w : World} {hp : List HB} (h : ∀ b ∈ hp, b.ok w) : Holds w w (hp.map HB.ro) :=
  ⟨rfl, rfl, rfl, Nat.le_refl _, fun _ _ _ => rfl, fun b hb => by
    obtain ⟨c, hc, rfl⟩ := List.mem_map.1 hb
    exact (h c hc).ro, fun b hb ho => by
    obtain ⟨c, hc, rfl⟩ := List.mem_map.1 hb
    simp [HB.ro] at ho, fun i j bi bj hi _ hw _ _ => by
    obtain ⟨c, hc, rfl⟩ := List.mem_map.1 (List.mem_of_getElem? hi)
    simp [HB.ro] at hw⟩

/-- The first blocks alone, where the others are our own. -/
theorem Holds.take {w0 w : World} {hp hq : List HB} (h : Holds w0 w (hp ++ hq)) (hn : ∀ b ∈ hq, b.own = true) : Holds w0 w hp :=
  ⟨h.os, h.tape, h.output, h.size, fun k hk hk2 => h.frame k hk fun b hb hw => by
    rcases List.mem_append.1 hb with hb | hb
    · exact hk2 b hb hw
    · have := h.own b (List.mem_append.2 (.inr hb)) (hn b hb); omega,
   fun b hb => h.blk b (List.mem_append.2 (.inl hb)), fun b hb => h.own b (List.mem_append.2 (.inl hb)),
   fun i j bi bj hi hj => h.sep i j bi bj (List.getElem?_append_left (List.getElem?_eq_some_iff.1 hi).1 ▸ hi) (List.getElem?_append_left (List.getElem?_eq_some_iff.1 hj).1 ▸ hj)⟩

/-- The same blocks, told otherwise. -/
def HB.like (b c : HB) : Prop := b.nm = c.nm ∧ b.wr = c.wr ∧ b.own = c.own ∧ b.ty = c.ty ∧ b.cts.n = c.cts.n ∧ ∀ o, o < b.cts.n → den (b.cts.get o) = den (c.cts.get o)
/-- hq is hp, told otherwise, with blocks of our own behind it. -/
def hsub : List HB → List HB → Prop
  | [], hq => ∀ b ∈ hq, b.own = true
  | b :: hp, c :: hq => b.like c ∧ hsub hp hq
  | _ :: _, [] => False
theorem hsub_split : ∀ {hp hq : List HB}, hsub hp hq → ∃ h1 h2, hq = h1 ++ h2 ∧ h1.length = hp.length ∧ (∀ (i : Nat) (b c : HB), hp[i]? = some b → h1[i]? = some c → b.like c) ∧ ∀ b ∈ h2, b.own = true
  | [], hq, h => ⟨[], hq, rfl, rfl, fun i b c hb => by simp at hb, h⟩
  | b :: hp, c :: hq, h => by
    obtain ⟨h1, h2, rfl, hl, hlk, ho⟩ := hsub_split h.2
    refine ⟨c :: h1, h2, rfl, by simp [hl], fun i b' c' hb hc => ?_, ho⟩
    cases i with
    | zero => simp at hb hc; subst hb; subst hc; exact h.1
    | succ i => simp at hb hc; exact hlk i b' c' hb hc
  | _ :: _, [], h => h.elim
theorem HB.ok.like {b c : HB} {w : World} (h : c.ok w) (hl : b.like c) : b.ok w := by
  obtain ⟨h1, h2, h3, h4, h5, h6⟩ := hl
  unfold HB.ok at h ⊢
  rw [h1, h2, h4, h5]
  split
  · rename_i hw
    rw [if_pos hw] at h
    obtain ⟨h0, cs, hc, hs, hcs⟩ := h
    exact ⟨h0, cs, hc, hs, fun o ho => by rw [h6 o (by omega)]; exact hcs o ho⟩
  · rename_i hw
    rw [if_neg hw] at h
    exact fun o ho => by rw [h6 o (by omega)]; exact h o ho
theorem Holds.sub {w0 w : World} {hp hq : List HB} (h : Holds w0 w hq) (hs : hsub hp hq) : Holds w0 w hp := by
  obtain ⟨h1, h2, rfl, hl, hlk, ho⟩ := hsub_split hs
  have h := h.take ho
  have at_ : ∀ (i : Nat) (b : HB), hp[i]? = some b → ∃ c, h1[i]? = some c ∧ b.like c := fun i b hb => by
    have hi : i < h1.length := by rw [hl]; exact (List.getElem?_eq_some_iff.1 hb).1
    exact ⟨h1[i], List.getElem?_eq_getElem hi, hlk i b _ hb (List.getElem?_eq_getElem hi)⟩
  have mem_ : ∀ b ∈ hp, ∃ c ∈ h1, b.like c := fun b hb => by
    obtain ⟨i, hi⟩ := List.mem_iff_getElem?.1 hb
    obtain ⟨c, hc, hl⟩ := at_ i b hi
    exact ⟨c, List.mem_of_getElem? hc, hl⟩
  refine ⟨h.os, h.tape, h.output, h.size, fun k hk hk2 => h.frame k hk fun c hc hw => ?_, fun b hb => ?_, fun b hb hbo => ?_, fun i j bi bj hi hj hw hij hne => ?_⟩
  · obtain ⟨i, hi⟩ := List.mem_iff_getElem?.1 hc
    have hi' : i < hp.length := by rw [← hl]; exact (List.getElem?_eq_some_iff.1 hi).1
    have hlk := hlk i hp[i] c (List.getElem?_eq_getElem hi') hi
    have := hk2 hp[i] (List.getElem_mem hi') (by rw [hlk.2.1]; exact hw)
    rw [hlk.1] at this; exact this
  · obtain ⟨c, hc, hl⟩ := mem_ b hb
    exact (h.blk c hc).like hl
  · obtain ⟨c, hc, hl⟩ := mem_ b hb
    rw [hl.1]; exact h.own c hc (by rw [← hl.2.2.1]; exact hbo)
  · obtain ⟨ci, hci, hli⟩ := at_ i bi hi
    obtain ⟨cj, hcj, hlj⟩ := at_ j bj hj
    rw [hli.1, hlj.1]
    exact h.sep i j ci cj hci hcj (by rw [← hli.2.1]; exact hw) hij (by rw [← hlj.2.1, ← hlj.2.2.2.2.1]; exact hne)

/-- The same cells, looked at from further on, or told otherwise. -/
theorem HB.ok.view {b : HB} {w : World} (h : b.ok w) {g b0 : Nat} (hg : g = b.nm.g) (c : Cts) (o : Nat) (hb : b0 = b.nm.b + o) (hn : o + c.n ≤ b.cts.n) (hc : ∀ j, j < c.n → den (b.cts.get (o + j)) = den (c.get j)) :
    HB.ok ⟨⟨g, b0⟩, false, false, b.ty, c⟩ w := by
  refine (if_neg (by simp)).mpr fun j hj => ?_
  simp only
  rw [hg, hb, Nat.add_assoc, h.cell (by simp only at hj; omega), hc j hj]
end Go.Sx
