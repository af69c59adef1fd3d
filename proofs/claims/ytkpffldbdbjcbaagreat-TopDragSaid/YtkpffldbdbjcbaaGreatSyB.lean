/- Blocks, and what it is that a world holds them. -/
import Derived.Test.YtkpffldbdbjcbaaGreatSyA
set_option linter.unusedSimpArgs false
set_option linter.unusedVariables false
namespace Go.Sy
open Go.RowKit

inductive BK where
  | ro
  | wr (ty : TypeId) (cap : Nat)
  | ob (o : Obj)
  | mk (ds : List Nat)
  | gh (J : Nat → World → Prop) (k : Nat)
  | bn (ds : List (Nm × List Int))
structure HB where
  nm : Option Nm
  own : Bool
  kd : BK
  cts : Cts

/-- What stays where new blocks come. -/
def Stable (J : Nat → World → Prop) : Prop := ∀ k w w', J k w → Below w.heap.size w w' → J k w'

/-- Rows of numbers that lie somewhere, to be looked at. -/
def bnOk (ds : List (Nm × List Int)) (w : World) : Prop := ∀ p ∈ ds, ∀ o, o < p.2.length → w.cell? ⟨p.1.g, p.1.b + o, none⟩ = some (.int .i64 (p.2.getD o 0))
/-- A block as it lies in a world. -/
def HB.ok (b : HB) (w : World) : Prop :=
  match b.kd, b.nm with
  | .ro, none => b.cts.n = 0
  | .ro, some nm => ∀ o, o < b.cts.n → w.cell? ⟨nm.g, nm.b + o, none⟩ = some (den (b.cts.get o))
  | .wr _ cap, none => b.cts.n = 0 ∧ cap = 0
  | .wr ty cap, some nm => nm.b = 0 ∧ ∃ cs : Array Value, w.heap[nm.g]? = some (.cells cs ty (0, 0)) ∧ cs.size = cap ∧ b.cts.n ≤ cap ∧ ∀ o, o < b.cts.n → cs[o]? = some (den (b.cts.get o))
  | .ob o, some nm => w.heap[nm.g]? = some o ∧ o.isCells = false
  | .ob _, none => False
  | .mk ds, _ => ds.Nodup ∧ ∀ D ∈ ds, w.heap[D]? = some (.deferred (some []))
  | .gh J k, _ => J k w ∧ Stable J
  | .bn ds, _ => bnOk ds w

def HB.isGh (b : HB) : Bool :=
  match b.kd with
  | .gh .. => true
  | _ => false
/-- The blocks that it holds as its own to turn. -/
def HB.cl (b : HB) (g : Nat) : Prop :=
  match b.kd, b.nm with
  | .wr .., some nm => nm.g = g
  | .ob _, some nm => nm.g = g
  | .mk ds, _ => g ∈ ds
  | _, _ => False
/-- The block that it looks at. -/
def HB.rd (b : HB) (g : Nat) : Prop :=
  match b.kd, b.nm with
  | .ro, some nm => 0 < b.cts.n ∧ nm.g = g
  | .bn ds, _ => ∃ p ∈ ds, 0 < p.2.length ∧ p.1.g = g
  | _, _ => False
def HB.touch (b : HB) (g : Nat) : Prop := b.cl g ∨ b.rd g

theorem HB.ok.keep {b : HB} {w w' : World} (h : b.ok w) (hg : b.isGh = false) (hs : ∀ g, b.touch g → w'.heap[g]? = w.heap[g]?) : b.ok w' := by
  obtain ⟨nm, own, kd, cts⟩ := b
  cases kd with
  | ro =>
    cases nm with
    | none => exact h
    | some nm => exact fun o ho => (World.cell?_of_block (w := w) (hs nm.g (.inr ⟨by simp only at ho ⊢; omega, rfl⟩))).trans (h o ho)
  | wr ty cap =>
    cases nm with
    | none => exact h
    | some nm =>
      obtain ⟨h0, cs, h1, h2⟩ := h
      exact ⟨h0, cs, (hs nm.g (.inl rfl)).trans h1, h2⟩
  | ob o =>
    cases nm with
    | none => exact h
    | some nm => exact ⟨(hs nm.g (.inl rfl)).trans h.1, h.2⟩
  | mk ds => exact ⟨h.1, fun D hD => (hs D (.inl hD)).trans (h.2 D hD)⟩
  | gh J k => simp [HB.isGh] at hg
  | bn ds => exact fun p hp o ho => (World.cell?_of_block (w := w) (hs p.1.g (.inr ⟨p, hp, by omega, rfl⟩))).trans (h p hp o ho)

theorem HB.ok.lt {b : HB} {w : World} (h : b.ok w) {g : Nat} (hg : b.touch g) : g < w.heap.size := by
  obtain ⟨nm, own, kd, cts⟩ := b
  cases kd with
  | ro =>
    cases nm with
    | none => simp [HB.touch, HB.cl, HB.rd] at hg
    | some nm =>
      simp only [HB.touch, HB.cl, HB.rd] at hg
      rcases hg with hg | ⟨hn, rfl⟩
      · exact hg.elim
      · exact World.block_lt_of_cell? w _ (h 0 hn)
  | wr ty cap =>
    cases nm with
    | none => simp [HB.touch, HB.cl, HB.rd] at hg
    | some nm =>
      obtain ⟨h0, cs, h1, h2⟩ := h
      have : nm.g = g := by simpa [HB.touch, HB.cl, HB.rd] using hg
      subst this
      exact (Array.getElem?_eq_some_iff.1 h1).1
  | ob o =>
    cases nm with
    | none => simp [HB.touch, HB.cl, HB.rd] at hg
    | some nm =>
      have : nm.g = g := by simpa [HB.touch, HB.cl, HB.rd] using hg
      subst this
      exact (Array.getElem?_eq_some_iff.1 h.1).1
  | mk ds =>
    rcases hg with hg | hg
    · exact (Array.getElem?_eq_some_iff.1 (h.2 g hg)).1
    · simp [HB.rd] at hg
  | gh J k => simp [HB.touch, HB.cl, HB.rd] at hg
  | bn ds =>
    rcases hg with hg | ⟨p, hp, hn, rfl⟩
    · exact hg.elim
    · exact World.block_lt_of_cell? w _ (h p hp 0 hn)

theorem HB.ok.below {b : HB} {w w' : World} (h : b.ok w) (hb : Below w.heap.size w w') : b.ok w' := by
  cases hg : b.isGh with
  | false => exact h.keep hg fun g ht => hb.block g (h.lt ht)
  | true =>
    obtain ⟨nm, own, kd, cts⟩ := b
    cases kd <;> first | (simp [HB.isGh] at hg; done) | exact ⟨h.2 _ _ _ h.1 hb, h.2⟩

structure Holds (w0 w : World) (hp : List HB) : Prop where
  size : w0.heap.size ≤ w.heap.size
  base : (∀ b ∈ hp, b.isGh = false) → w.os = w0.os ∧ w.tape = w0.tape ∧ w.output = w0.output ∧ ∀ k, k < w0.heap.size → (∀ b ∈ hp, ¬ b.cl k) → w.heap[k]? = w0.heap[k]?
  blk : ∀ b ∈ hp, b.ok w
  own : ∀ b ∈ hp, b.own = true → ∀ g, b.cl g → w0.heap.size ≤ g
  sep : ∀ (i j : Nat) (bi bj : HB) (g : Nat), hp[i]? = some bi → hp[j]? = some bj → i ≠ j → bi.cl g → ¬ bj.touch g

/-- A call that leaves all that was there as it was. -/
theorem Holds.below {w0 w w' : World} {hp : List HB} (h : Holds w0 w hp) (hb : Below w.heap.size w w') : Holds w0 w' hp :=
  ⟨Nat.le_trans h.size hb.size, fun hg => by
    obtain ⟨h1, h2, h3, h4⟩ := h.base hg
    exact ⟨hb.os.trans h1, hb.tape.trans h2, hb.output.trans h3, fun k hk hn => (hb.block k (Nat.lt_of_lt_of_le hk h.size)).trans (h4 k hk hn)⟩,
   fun b hm => (h.blk b hm).below hb, h.own, h.sep⟩
theorem Holds.start (w : World) : Holds w w [] :=
  ⟨Nat.le_refl _, fun _ => ⟨rfl, rfl, rfl, fun _ _ _ => rfl⟩, fun _ h => (by cases h), fun _ h => (by cases h), fun i j bi bj g h => (by simp at h)⟩

/-- Nothing that was there has turned. -/
theorem Holds.toBelow {w0 w : World} {hp : List HB} (h : Holds w0 w hp) (hg : ∀ b ∈ hp, b.isGh = false) (hn : ∀ b ∈ hp, (∃ g, b.cl g) → b.own = true) : Below w0.heap.size w0 w := by
  obtain ⟨h1, h2, h3, h4⟩ := h.base hg
  refine ⟨h1, h2, h3, h.size, fun k hk => h4 k hk fun b hb he => ?_⟩
  have := h.own b hb (hn b hb ⟨k, he⟩) k he
  omega
theorem below_drew (w : World) : Below w.heap.size w { w with drawn := w.drawn + 1 } := ⟨rfl, rfl, rfl, Nat.le_refl _, fun _ _ => rfl⟩
theorem Holds.drew {w0 w : World} {hp : List HB} (h : Holds w0 w hp) : Holds w0 { w with drawn := w.drawn + 1 } hp := h.below (below_drew w)

/-- One block more, of our own or to be looked at. -/
theorem Holds.push {w0 w : World} {hp : List HB} (h : Holds w0 w hp) {b : HB} (hb : b.ok w) (hgh : b.isGh = false) (ho : b.own = true → ∀ g, b.cl g → w0.heap.size ≤ g)
    (hc : ∀ g, b.cl g → ∀ c ∈ hp, ¬ c.touch g) (hr : ∀ g, b.touch g → ∀ c ∈ hp, ¬ c.cl g) : Holds w0 w (hp ++ [b]) := by
  refine ⟨h.size, fun hg => ?_, fun c hm => ?_, fun c hm hco => ?_, fun i j bi bj g hi hj hij hcl => ?_⟩
  · obtain ⟨h1, h2, h3, h4⟩ := h.base fun c hc => hg c (List.mem_append.2 (.inl hc))
    exact ⟨h1, h2, h3, fun k hk hn => h4 k hk fun c hc => hn c (List.mem_append.2 (.inl hc))⟩
  · rcases List.mem_append.1 hm with hm | hm
    · exact h.blk c hm
    · rw [List.mem_singleton] at hm; subst hm; exact hb
  · rcases List.mem_append.1 hm with hm | hm
    · exact h.own c hm hco
    · rw [List.mem_singleton] at hm; subst hm; exact ho hco
  · have last : ∀ {i : Nat} {b' : HB}, (hp ++ [b])[i]? = some b' → ¬ i < hp.length → b' = b ∧ i = hp.length := fun {i b'} hi hl => by
      rw [List.getElem?_append_right (by omega)] at hi
      have h1 : i - hp.length = 0 := by have := (List.getElem?_eq_some_iff.1 hi).1; simp at this; omega
      rw [h1] at hi; simp at hi
      exact ⟨hi.symm, by omega⟩
    by_cases hil : i < hp.length <;> by_cases hjl : j < hp.length
    · rw [List.getElem?_append_left hil] at hi
      rw [List.getElem?_append_left hjl] at hj
      exact h.sep i j bi bj g hi hj hij hcl
    · obtain ⟨rfl, _⟩ := last hj hjl
      rw [List.getElem?_append_left hil] at hi
      exact fun ht => hr g ht bi (List.mem_of_getElem? hi) hcl
    · obtain ⟨rfl, _⟩ := last hi hil
      rw [List.getElem?_append_left hjl] at hj
      exact hc g hcl bj (List.mem_of_getElem? hj)
    · obtain ⟨_, e1⟩ := last hi hil
      obtain ⟨_, e2⟩ := last hj hjl
      omega

theorem below_alloc (w : World) (o : Obj) : Below w.heap.size w (w.alloc o) := (Below.refl _ w).alloc (Nat.le_refl _) o

/-- A new object. -/
theorem Holds.newObj {w0 w : World} {hp : List HB} (h : Holds w0 w hp) (o : Obj) (b : HB) (hok : b.ok (w.alloc o)) (hg : b.isGh = false) (ht : ∀ g, b.touch g → g = w.heap.size) : Holds w0 (w.alloc o) (hp ++ [b]) :=
  (h.below (below_alloc w o)).push hok hg (fun _ g hc => by rw [ht g (.inl hc)]; exact h.size)
    (fun g hc c hm htc => by have := (h.blk c hm).lt htc; rw [ht g (.inl hc)] at this; omega)
    (fun g htb c hm hc => by have := (h.blk c hm).lt (.inl hc); rw [ht g htb] at this; omega)
/-- A new block of cells. -/
theorem Holds.new {w0 w : World} {hp : List HB} (h : Holds w0 w hp) (cs : Array Value) (t : TypeId) (c : Cts) (cap : Nat) (hs : cs.size = cap) (hn : c.n ≤ cap) (hc : ∀ o, o < c.n → cs[o]? = some (den (c.get o))) :
    Holds w0 (w.alloc (.cells cs t)) (hp ++ [⟨some ⟨w.heap.size, 0⟩, true, .wr t cap, c⟩]) :=
  h.newObj _ _ ⟨rfl, cs, heap_alloc_new w _, hs, hn, hc⟩ rfl fun g hg => by
    have : w.heap.size = g := by simpa [HB.touch, HB.cl, HB.rd] using hg
    exact this.symm

/-- A cell of a known block. -/
theorem HB.ok.cell {b : HB} {w : World} (h : b.ok w) {nm : Nm} (hnm : b.nm = some nm) {o : Nat} (ho : o < b.cts.n) (hk : match b.kd with | .ro | .wr .. => True | _ => False) : w.cell? ⟨nm.g, nm.b + o, none⟩ = some (den (b.cts.get o)) := by
  obtain ⟨nm', own, kd, cts⟩ := b
  simp only at hnm; subst hnm
  cases kd with
  | ro => exact h o ho
  | wr ty cap =>
    obtain ⟨h0, cs, h1, h2, h3, h4⟩ := h
    rw [h0, Nat.zero_add, cell_of_row w _ o cs ty (0, 0) h1]
    exact h4 o ho
  | _ => exact hk.elim

/-- A block is turned. -/
theorem Holds.turn {w0 w w' : World} {hp : List HB} (h : Holds w0 w hp) {i : Nat} {b b' : HB} {g : Nat} (hi : hp[i]? = some b) (hcl : b.cl g) (hng : ∀ c ∈ hp, c.isGh = false) (hgh : b'.isGh = false) (hok : b'.ok w') (hb'c : b'.cl g ∨ w0.heap.size ≤ g) (hbt : ∀ g', b.cl g' → g' = g)
    (hb't : ∀ g', b'.touch g' → g' = g) (hb'o : b'.own = true → b.own = true ∨ w0.heap.size ≤ g)
    (h1 : w'.os = w.os) (h2 : w'.tape = w.tape) (h3 : w'.output = w.output) (h4 : w.heap.size ≤ w'.heap.size) (h5 : ∀ k, k < w.heap.size → k ≠ g → w'.heap[k]? = w.heap[k]?) :
    Holds w0 w' (hp.set i b') := by
  have hlt : i < hp.length := (List.getElem?_eq_some_iff.1 hi).1
  have at_ : ∀ {j : Nat} {c : HB}, (hp.set i b')[j]? = some c → (j = i ∧ c = b') ∨ (j ≠ i ∧ hp[j]? = some c) := fun {j c} hj => by
    rw [List.getElem?_set] at hj
    split at hj
    · rename_i hij
      left; refine ⟨hij.symm, ?_⟩
      exact (Option.some.inj hj).symm
    · rename_i hij
      exact .inr ⟨fun e => hij e.symm, hj⟩
  have mem_ : ∀ {c : HB}, c ∈ hp.set i b' → c = b' ∨ ∃ j, j ≠ i ∧ hp[j]? = some c := fun {c} hc => by
    obtain ⟨j, hj⟩ := List.mem_iff_getElem?.1 hc
    rcases at_ hj with ⟨_, rfl⟩ | ⟨hji, hj⟩
    · exact .inl rfl
    · exact .inr ⟨j, hji, hj⟩
  have hin : b' ∈ hp.set i b' := List.mem_iff_getElem?.2 ⟨i, by simp [hlt]⟩
  have hown : b'.own = true → w0.heap.size ≤ g := fun ho => by
    rcases hb'o ho with ho | ho
    · exact h.own b (List.mem_of_getElem? hi) ho g hcl
    · exact ho
  refine ⟨Nat.le_trans h.size h4, fun hg => ?_, fun c hc => ?_, fun c hc ho g' hcg => ?_, fun j k bj bk g' hj hk hjk hcj => ?_⟩
  · obtain ⟨q1, q2, q3, q4⟩ := h.base hng
    refine ⟨h1.trans q1, h2.trans q2, h3.trans q3, fun k hk hn => ?_⟩
    have hkg : k ≠ g := fun e => by
      rcases hb'c with hc | hc
      · exact hn b' hin (by rw [e]; exact hc)
      · omega
    rw [h5 k (Nat.lt_of_lt_of_le hk h.size) hkg]
    refine q4 k hk fun c hc hcc => ?_
    obtain ⟨j, hj⟩ := List.mem_iff_getElem?.1 hc
    by_cases hij : j = i
    · subst hij; rw [hi] at hj; cases hj; exact hkg (hbt k hcc)
    · exact hn c (List.mem_iff_getElem?.2 ⟨j, by rw [List.getElem?_set, if_neg (fun e => hij e.symm)]; exact hj⟩) hcc
  · rcases mem_ hc with rfl | ⟨j, hji, hj⟩
    · exact hok
    · have hokc := h.blk c (List.mem_of_getElem? hj)
      exact hokc.keep (hng c (List.mem_of_getElem? hj)) fun g' ht => h5 g' (hokc.lt ht) fun e => h.sep i j b c g hi hj (fun e => hji e.symm) hcl (e ▸ ht)
  · rcases mem_ hc with rfl | ⟨j, _, hj⟩
    · rw [hb't g' (.inl hcg)]; exact hown ho
    · exact h.own c (List.mem_of_getElem? hj) ho g' hcg
  · rcases at_ hj with ⟨ej, eb⟩ | ⟨hji, hj'⟩ <;> rcases at_ hk with ⟨ek, ec⟩ | ⟨hki, hk'⟩
    · omega
    · subst ej; subst eb
      have := hb't g' (.inl hcj); subst this
      exact h.sep j k b bk g' hi hk' hjk hcl
    · subst ek; subst ec
      intro ht
      have := hb't g' ht; subst this
      exact h.sep j k bj b g' hj' hi hjk hcj (.inl hcl)
    · exact h.sep j k bj bk g' hj' hk' hjk hcj

/-- The same block, told otherwise. -/
def HB.like (b c : HB) : Prop :=
  b.nm = c.nm ∧ b.own = c.own ∧ (match b.kd, c.kd with | .ro, .ro => True | .ro, .wr .. => True | .wr t k, .wr t' k' => t = t' ∧ k = k' | .ob o, .ob o' => o = o' | .mk d, .mk d' => d = d' | .gh J k, .gh J' k' => J = J' ∧ k = k' | .bn d, .bn d' => d = d' | _, _ => False) ∧
    b.cts.n = c.cts.n ∧ ∀ o, o < b.cts.n → den (b.cts.get o) = den (c.cts.get o)
theorem HB.like.refl (b : HB) : b.like b := ⟨rfl, rfl, by cases b.kd <;> simp, rfl, fun _ _ => rfl⟩
theorem HB.ok.like {b c : HB} {w : World} (h : c.ok w) (hl : b.like c) : b.ok w := by
  obtain ⟨nm, own, kd, cts⟩ := b
  obtain ⟨nm', own', kd', cts'⟩ := c
  obtain ⟨h1, h2, h3, h4, h5⟩ := hl
  simp only at h1 h2 h3 h4 h5
  subst h1
  cases kd with
  | ro =>
    cases nm with
    | none =>
      cases kd' with
      | ro => exact h4.trans h
      | wr ty cap => exact h4.trans h.1
      | _ => exact h3.elim
    | some nm =>
      refine fun o ho => ?_
      have ho : o < cts.n := ho
      rw [h5 o ho]
      cases kd' with
      | ro => exact h.cell (nm := nm) rfl (by simpa [← h4] using ho) trivial
      | wr ty cap => exact h.cell (nm := nm) rfl (by simpa [← h4] using ho) trivial
      | _ => exact h3.elim
  | wr t cap =>
    cases kd' with
    | wr t' cap' =>
      obtain ⟨rfl, rfl⟩ := h3
      cases nm with
      | none => exact ⟨h4.trans h.1, h.2⟩
      | some nm =>
        obtain ⟨h0, cs, hc, hs, hn, hcs⟩ := h
        simp only at hn hcs
        exact ⟨h0, cs, hc, hs, by simp only; omega, fun o ho => by
          have ho : o < cts.n := ho
          rw [h5 o ho]; exact hcs o (by omega)⟩
    | _ => exact h3.elim
  | ob o =>
    cases kd' with
    | ob o' => simp only at h3; subst h3; cases nm <;> exact h
    | _ => exact h3.elim
  | mk d =>
    cases kd' with
    | mk d' => simp only at h3; subst h3; exact h
    | _ => exact h3.elim
  | gh J k =>
    cases kd' with
    | gh J' k' => obtain ⟨rfl, rfl⟩ := h3; exact h
    | _ => exact h3.elim
  | bn d =>
    cases kd' with
    | bn d' => simp only at h3; subst h3; exact h
    | _ => exact h3.elim
theorem HB.like.cl {b c : HB} (h : b.like c) {g : Nat} (hc : b.cl g) : c.cl g := by
  obtain ⟨nm, own, kd, cts⟩ := b
  obtain ⟨nm', own', kd', cts'⟩ := c
  obtain ⟨h1, h2, h3, h4, h5⟩ := h
  simp only at h1 h3; subst h1
  cases kd <;> cases kd' <;> first | exact h3.elim | (cases nm <;> exact hc) | (simp only at h3; subst h3; exact hc) | (simp [HB.cl] at hc; done)
theorem HB.like.touch {b c : HB} (h : b.like c) {g : Nat} (hc : b.touch g) : c.touch g := by
  obtain ⟨nm, own, kd, cts⟩ := b
  obtain ⟨nm', own', kd', cts'⟩ := c
  obtain ⟨h1, h2, h3, h4, h5⟩ := h
  simp only at h1 h3 h4; subst h1
  cases kd <;> cases kd' <;> first
    | exact h3.elim
    | (simp only [HB.touch, HB.cl, HB.rd, h4] at hc ⊢; exact hc)
    | (cases nm <;> exact hc)
    | (simp only at h3; subst h3; exact hc)
    | skip
  cases nm with
  | none => simp [HB.touch, HB.cl, HB.rd] at hc
  | some nm =>
    simp only [HB.touch, HB.cl, HB.rd] at hc ⊢
    rcases hc with hc | hc
    · exact hc.elim
    · exact .inl hc.2

theorem HB.like.gh {b c : HB} (h : b.like c) : b.isGh = c.isGh := by
  obtain ⟨nm, own, kd, cts⟩ := b
  obtain ⟨nm', own', kd', cts'⟩ := c
  obtain ⟨h1, h2, h3, h4, h5⟩ := h
  simp only at h3
  cases kd <;> cases kd' <;> first | exact h3.elim | rfl
/-- What may be forgotten. -/
def HB.spare (c : HB) : Prop := (c.own = true ∨ ∀ g, ¬ c.cl g) ∧ c.isGh = false
/-- hp tells of blocks of hq, in their order; what is left out is our own, or only looked at. -/
inductive hsel : List HB → List HB → Prop
  | nil : hsel [] []
  | take {b c : HB} {hp hq : List HB} : b.like c → (c.own = true ∨ ∀ g, c.cl g → b.cl g) → hsel hp hq → hsel (b :: hp) (c :: hq)
  | skip {c : HB} {hp hq : List HB} : c.spare → hsel hp hq → hsel hp (c :: hq)
/-- Which block of hq each one is. -/
theorem hsel_map {hp hq : List HB} (h : hsel hp hq) : ∃ f : Nat → Nat, (∀ i j, f i = f j → i = j) ∧ (∀ (i : Nat) (b : HB), hp[i]? = some b → ∃ c, hq[f i]? = some c ∧ b.like c ∧ (c.own = true ∨ ∀ g, c.cl g → b.cl g)) ∧
    (∀ (j : Nat) (c : HB), hq[j]? = some c → (∃ i, i < hp.length ∧ f i = j) ∨ c.spare) := by
  induction h with
  | nil => exact ⟨id, fun _ _ h => h, fun i b hb => by simp at hb, fun j c hc => by simp at hc⟩
  | @take b c hp hq hl ho h ih =>
    obtain ⟨f, h1, h2, h3⟩ := ih
    refine ⟨fun i => match i with | 0 => 0 | i + 1 => f i + 1, fun i j hij => ?_, fun i b' hb => ?_, fun j c' hc => ?_⟩
    · cases i with
      | zero => cases j with
        | zero => rfl
        | succ j => simp at hij
      | succ i => cases j with
        | zero => simp at hij
        | succ j => have := h1 i j (by simpa using hij); omega
    · cases i with
      | zero => simp at hb; subst hb; exact ⟨c, rfl, hl, ho⟩
      | succ i => simp at hb; simpa using h2 i b' hb
    · cases j with
      | zero => exact .inl ⟨0, by simp, rfl⟩
      | succ j =>
        simp at hc
        rcases h3 j c' hc with ⟨i, hi, he⟩ | hr
        · exact .inl ⟨i + 1, by simp; omega, by simp [he]⟩
        · exact .inr hr
  | @skip c hp hq ho h ih =>
    obtain ⟨f, h1, h2, h3⟩ := ih
    refine ⟨fun i => f i + 1, fun i j hij => h1 i j (by simpa using hij), fun i b' hb => by simpa using h2 i b' hb, fun j c' hc => ?_⟩
    cases j with
    | zero => simp at hc; subst hc; exact .inr ho
    | succ j =>
      simp at hc
      rcases h3 j c' hc with ⟨i, hi, he⟩ | hr
      · exact .inl ⟨i, hi, by simp [he]⟩
      · exact .inr hr
theorem Holds.sel {w0 w : World} {hp hq : List HB} (h : Holds w0 w hq) (hs : hsel hp hq) : Holds w0 w hp := by
  obtain ⟨f, h1, h2, h3⟩ := hsel_map hs
  have mem_ : ∀ b ∈ hp, ∃ c ∈ hq, b.like c ∧ (c.own = true ∨ ∀ g, c.cl g → b.cl g) := fun b hb => by
    obtain ⟨i, hi⟩ := List.mem_iff_getElem?.1 hb
    obtain ⟨c, hc, hl⟩ := h2 i b hi
    exact ⟨c, List.mem_of_getElem? hc, hl⟩
  refine ⟨h.size, fun hg => ?_, fun b hb => ?_, fun b hb hbo g hbg => ?_, fun i j bi bj g hi hj hij hcl ht => ?_⟩
  · obtain ⟨q1, q2, q3, q4⟩ := h.base fun c hc => by
      obtain ⟨j, hj⟩ := List.mem_iff_getElem?.1 hc
      rcases h3 j c hj with ⟨i, hi, he⟩ | hr
      · obtain ⟨c', hc', hl, _⟩ := h2 i hp[i] (List.getElem?_eq_getElem hi)
        rw [he, hj] at hc'; cases hc'
        rw [← hl.gh]; exact hg _ (List.getElem_mem hi)
      · exact hr.2
    refine ⟨q1, q2, q3, fun k hk hn => q4 k hk fun c hc hcc => ?_⟩
    have hown : c.own = true → False := fun ho => by have := h.own c hc ho k hcc; omega
    obtain ⟨j, hj⟩ := List.mem_iff_getElem?.1 hc
    rcases h3 j c hj with ⟨i, hi, he⟩ | hr
    · obtain ⟨c', hc', hl, ho⟩ := h2 i hp[i] (List.getElem?_eq_getElem hi)
      rw [he, hj] at hc'; cases hc'
      rcases ho with ho | ho
      · exact hown ho
      · exact hn _ (List.getElem_mem hi) (ho k hcc)
    · rcases hr.1 with ho | ho
      · exact hown ho
      · exact ho k hcc
  · obtain ⟨c, hc, hl, _⟩ := mem_ b hb
    exact (h.blk c hc).like hl
  · obtain ⟨c, hc, hl, _⟩ := mem_ b hb
    exact h.own c hc (by rw [← hl.2.1]; exact hbo) g (hl.cl hbg)
  · obtain ⟨ci, hci, hli, _⟩ := h2 i bi hi
    obtain ⟨cj, hcj, hlj, _⟩ := h2 j bj hj
    exact h.sep (f i) (f j) ci cj g hci hcj (fun e => hij (h1 _ _ e)) (hli.cl hcl) (hlj.touch ht)
theorem hsel.refl : ∀ hp : List HB, hsel hp hp
  | [] => .nil
  | b :: hp => .take (.refl b) (.inr fun _ h => h) (hsel.refl hp)
def Apart (a b : HB) : Prop := ∀ g, (a.cl g → ¬ b.touch g) ∧ (b.cl g → ¬ a.touch g)
theorem sep_iff {hp : List HB} : (∀ (i j : Nat) (bi bj : HB) (g : Nat), hp[i]? = some bi → hp[j]? = some bj → i ≠ j → bi.cl g → ¬ bj.touch g) ↔ hp.Pairwise Apart := by
  rw [List.pairwise_iff_getElem]
  constructor
  · intro h i j hi hj hij g
    exact ⟨h i j _ _ g (List.getElem?_eq_getElem hi) (List.getElem?_eq_getElem hj) (by omega), h j i _ _ g (List.getElem?_eq_getElem hj) (List.getElem?_eq_getElem hi) (by omega)⟩
  · intro h i j bi bj g hi hj hij hc
    obtain ⟨hi', rfl⟩ := List.getElem?_eq_some_iff.1 hi
    obtain ⟨hj', rfl⟩ := List.getElem?_eq_some_iff.1 hj
    rcases Nat.lt_or_gt_of_ne hij with hlt | hlt
    · exact (h i j hi' hj' hlt g).1 hc
    · exact (h j i hj' hi' hlt g).2 hc
theorem Holds.perm {w0 w : World} {hp hq : List HB} (h : Holds w0 w hp) (hpq : hp.Perm hq) : Holds w0 w hq :=
  ⟨h.size, fun hg => by
    obtain ⟨h1, h2, h3, h4⟩ := h.base fun b hb => hg b (hpq.mem_iff.1 hb)
    exact ⟨h1, h2, h3, fun k hk hn => h4 k hk fun b hb => hn b (hpq.mem_iff.1 hb)⟩,
   fun b hb => h.blk b (hpq.mem_iff.2 hb), fun b hb => h.own b (hpq.mem_iff.2 hb),
   sep_iff.2 ((hpq.pairwise_iff fun {a b} h g => ⟨(h g).2, (h g).1⟩).1 (sep_iff.1 h.sep))⟩
/-- The first blocks alone. -/
theorem hsel.left : ∀ (hp : List HB) {hq : List HB}, (∀ b ∈ hq, b.spare) → hsel hp (hp ++ hq)
  | [], [], _ => .nil
  | [], c :: hq, h => .skip (h c (by simp)) (hsel.left [] fun b hb => h b (by simp [hb]))
  | b :: hp, hq, h => .take (.refl b) (.inr fun _ h => h) (hsel.left hp h)
end Go.Sy
