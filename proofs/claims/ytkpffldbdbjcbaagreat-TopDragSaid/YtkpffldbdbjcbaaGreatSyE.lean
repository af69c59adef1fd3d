/- A region in whatever order: plans, and that a plan covers every order. -/
import Derived.Test.YtkpffldbdbjcbaaGreatSyD
import Derived.OrdersHeld
set_option linter.unusedSimpArgs false
set_option linter.unusedVariables false
namespace Go.Sy
open Go.RowKit

section
variable {P : Program} {ops : Array Oper}

/-- The operation lays a new row of cells, and hands its address back. -/
def Allocs (P : Program) (o : Oper) (t : TypeId) (cs : Array Value) : Prop := ∀ ρ w, (execOp ρ o).run P w = .ok (.value (.pointer (some ⟨w.heap.size, 0, none⟩))) (w.alloc (.cells cs t))
def ablk (t : TypeId) (c : Cts) (g : Nat) : HB := ⟨some ⟨g, 0⟩, true, .wr t c.n, c⟩
def aptr (g : Nat) : Value := .pointer (some ⟨g, 0, none⟩)
/-- What is known of the allocations of a region. -/
structure AK (P : Program) (ops : Array Oper) (i : Nat) (t : TypeId) (c : Cts) : Prop where
  get : ∃ o cs, ops[i]? = some o ∧ o.guard = none ∧ Allocs P o t cs ∧ cs.size = c.n ∧ ∀ j, j < c.n → cs[j]? = some (den (c.get j))

def QY (P : Program) (ops : Array Oper) (hp : List HB) (o : Oper) (v : Value) (a : Act) : Prop :=
  (Region.wanted o (yielded ops a.tmps) = true ∧ ∀ w, (∀ b ∈ hp, b.ok w) → o.quietAt P a (fun w' => Below w.heap.size w w') w v) ∨ (Region.wanted o (yielded ops a.tmps) = false ∧ v = undef)

theorem QY.of_same {hp : List HB} {o : Oper} {v : Value} {a a' : Act} (hy : QY P ops hp o v a) (he : execOp a'.eval o = execOp a.eval o)
    (hw : Region.wanted o (yielded ops a'.tmps) = Region.wanted o (yielded ops a.tmps)) : QY P ops hp o v a' := by
  unfold QY Oper.quietAt at *
  rw [he, hw]
  exact hy
theorem QY.more {hp hq : List HB} {o : Oper} {v : Value} {a : Act} (hy : QY P ops hp o v a) : QY P ops (hp ++ hq) o v a := by
  rcases hy with ⟨h1, h2⟩ | h
  · exact .inl ⟨h1, fun w hw => h2 w fun b hb => hw b (List.mem_append.2 (.inl hb))⟩
  · exact .inr h

variable (P ops)
/-- In every order: the operations that 'ha' lets come are quiet, or lay a new variable; till 'L' holds, with so many operations pending. -/
def WX (ha : Nat → Bool) (bz : Array Bool → Prop) (ak : Nat → Option (TypeId × Cts)) (L : Nat → List HB → Array Bool → Act → Prop) : Nat → List HB → Array Bool → Act → Prop
  | 0, hp, listed, a => L 0 hp listed a
  | f + 1, hp, listed, a => L (f + 1) hp listed a ∨ (bz listed ∧ Region.ready .any ops listed ≠ [] ∧ ∀ i ∈ Region.ready .any ops listed, ha i = true ∧ ∃ o, ops[i]? = some o ∧
      ((∃ v, QY P ops hp o v a ∧ WX ha bz ak L f hp (listed.setIfInBounds i true) (a.put o.dst v)) ∨
       (∃ t c, ak i = some (t, c) ∧ ∀ g, WX ha bz ak L f (hp ++ [ablk t c g]) (listed.setIfInBounds i true) (a.put o.dst (aptr g)))))
variable {P ops}
theorem WX.leaf {ha : Nat → Bool} {bz : Array Bool → Prop} {ak : Nat → Option (TypeId × Cts)} {L : Nat → List HB → Array Bool → Act → Prop} : ∀ {f : Nat} {hp : List HB} {listed : Array Bool} {a : Act}, L f hp listed a → WX P ops ha bz ak L f hp listed a
  | 0, _, _, _, h => h
  | _ + 1, _, _, _, h => .inl h

theorem wpAny_of_WX {ha : Nat → Bool} {bz : Array Bool → Prop} {ak : Nat → Option (TypeId × Cts)} {L : Nat → List HB → Array Bool → Act → Prop} {Q : Exit → Act → World → Prop} {w0 : World} {g : Nat} (hak : ∀ i t c, ak i = some (t, c) → AK P ops i t c)
    (hL : ∀ f hp listed a w, Holds w0 w hp → L f hp listed a → wpAny P .any ops Q (f + g) listed a w) :
    ∀ (f : Nat) (hp : List HB) (listed : Array Bool) (a : Act) (w : World), Holds w0 w hp → WX P ops ha bz ak L f hp listed a → wpAny P .any ops Q (f + g) listed a w
  | 0, hp, listed, a, w, hw, h => hL _ _ _ _ _ hw h
  | f + 1, hp, listed, a, w, hw, .inl h => hL _ _ _ _ _ hw h
  | f + 1, hp, listed, a, w, hw, .inr h => by
    rw [show f + 1 + g = (f + g) + 1 by omega]
    refine ⟨fun h0 => absurd h0 h.2.1, fun i hi => ?_⟩
    obtain ⟨_, o, ho, hc⟩ := h.2.2 i hi
    unfold wpOp
    simp only [ho]
    rcases hc with ⟨v, hy, hX⟩ | ⟨t, c, hk, hX⟩
    · rcases hy with ⟨hwant, hq⟩ | ⟨hwant, rfl⟩
      · simp only [hwant, if_true]
        refine .inl ?_
        have := hq w hw.blk
        unfold Oper.quietAt at this
        unfold Oper.wp
        generalize (execOp a.eval o).run P w = r at *
        cases r with
        | ok n w' =>
          cases n <;> simp only [Oper.quietUpon] at this <;> simp only [Oper.upon]
          case value u => obtain ⟨rfl, rfl⟩ := this; exact wpAny_of_WX hak hL f hp _ _ _ hw hX
          case skip => obtain ⟨rfl, rfl⟩ := this; exact wpAny_of_WX hak hL f hp _ _ _ hw hX
          case enter fid args =>
            obtain ⟨rfl, hcall⟩ := this
            exact hcall.mono fun e w'' ⟨he, hb⟩ => by subst he; exact wpAny_of_WX hak hL f hp _ _ _ (hw.below hb) hX
        | halt x w' => simp only [Oper.quietUpon] at this
      · simp only [hwant, Bool.false_eq_true, if_false]
        exact wpAny_of_WX hak hL f hp _ _ _ hw hX
    · obtain ⟨o', cs, ho', hg, hA, hs, hcs⟩ := (hak i t c hk).get
      rw [ho] at ho'; cases ho'
      have hwant : Region.wanted o (yielded ops a.tmps) = true := by simp [Region.wanted, hg]
      simp only [hwant, if_true]
      refine .inl ?_
      unfold Oper.wp
      rw [hA a.eval w]
      exact wpAny_of_WX hak hL f _ _ _ _ (hw.new cs t c c.n hs (Nat.le_refl _) hcs) (hX w.heap.size)

/-! ### New variables alone are left -/
def dstOf (ops : Array Oper) (i : Nat) : Option Tmp := (ops[i]?).bind (·.dst)
def FA (ops : Array Oper) (F : List HB → Act → Prop) : List (Nat × TypeId × Cts) → List HB → Act → Prop
  | [], hp, a => F hp a
  | (i, t, c) :: as, hp, a => ∀ g, FA ops F as (hp ++ [ablk t c g]) (a.put (dstOf ops i) (aptr g))
theorem FA_perm {F : List HB → Act → Prop} (hF : ∀ hp hq a, hp.Perm hq → F hp a → F hq a) : ∀ (as : List (Nat × TypeId × Cts)) {hp hq : List HB} {a : Act}, hp.Perm hq → FA ops F as hp a → FA ops F as hq a
  | [], hp, hq, a, h, hf => hF hp hq a h hf
  | (i, t, c) :: as, hp, hq, a, h, hf => fun g => FA_perm hF as (h.append_right _) (hf g)
def dstsApart (ops : Array Oper) : List (Nat × TypeId × Cts) → Prop
  | [] => True
  | (i, _) :: as => (∀ x ∈ as, x.1 ≠ i ∧ ∀ d, dstOf ops i = some d → dstOf ops x.1 ≠ some d) ∧ dstsApart ops as
theorem FA_pull {F : List HB → Act → Prop} (hF : ∀ hp hq a, hp.Perm hq → F hp a → F hq a) : ∀ (as : List (Nat × TypeId × Cts)) {x : Nat × TypeId × Cts} {hp : List HB} {a : Act}, dstsApart ops as → x ∈ as → FA ops F as hp a →
    ∀ g, FA ops F (as.filter fun y => y.1 != x.1) (hp ++ [ablk x.2.1 x.2.2 g]) (a.put (dstOf ops x.1) (aptr g))
  | (i, t, c) :: as, x, hp, a, hd, hx, hf, g => by
    rcases List.mem_cons.1 hx with rfl | hx
    · have : (((i, t, c) :: as).filter fun y => y.1 != i) = as := by
        rw [List.filter_cons]
        simp only [bne_self_eq_false, Bool.false_eq_true, if_false]
        exact List.filter_eq_self.2 fun y hy => by simpa using (hd.1 y hy).1
      simp only
      rw [this]
      exact hf g
    · have hne := hd.1 x hx
      have : (((i, t, c) :: as).filter fun y => y.1 != x.1) = (i, t, c) :: (as.filter fun y => y.1 != x.1) := by
        rw [List.filter_cons, if_pos (by simpa using fun e : i = x.1 => hne.1 e.symm)]
      rw [this]
      intro g'
      have := FA_pull hF as hd.2 hx (hf g') g
      rw [← Act.put_comm a (aptr g') (aptr g) hne.2]
      exact FA_perm hF _ (by
        rw [List.append_assoc, List.append_assoc]
        exact List.Perm.append_left hp (List.Perm.swap _ _ _)) this
theorem dstsApart_filter (p : Nat × TypeId × Cts → Bool) : ∀ {as : List (Nat × TypeId × Cts)}, dstsApart ops as → dstsApart ops (as.filter p)
  | [], _ => trivial
  | (i, tc) :: as, h => by
    rw [List.filter_cons]
    split
    · exact ⟨fun x hx => h.1 x (List.mem_filter.1 hx).1, dstsApart_filter p h.2⟩
    · exact dstsApart_filter p h.2
theorem filter_length {as : List (Nat × TypeId × Cts)} {x : Nat × TypeId × Cts} (hd : dstsApart ops as) (hx : x ∈ as) : (as.filter fun y => y.1 != x.1).length + 1 = as.length := by
  induction as with
  | nil => cases hx
  | cons y as ih =>
    obtain ⟨i, tc⟩ := y
    rw [List.filter_cons]
    rcases List.mem_cons.1 hx with rfl | hx'
    · simp only [bne_self_eq_false, Bool.false_eq_true, if_false, List.length_cons]
      rw [List.filter_eq_self.2 fun y hy => by simpa using (hd.1 y hy).1]
    · rw [if_pos (by simpa using fun e : i = x.1 => (hd.1 x hx').1 e.symm)]
      simp only [List.length_cons]
      rw [ih hd.2 hx']

/-- The operations that have come: those of the list. -/
def listedOf (n : Nat) (ls : List Nat) : Array Bool := ls.foldl (fun l i => l.setIfInBounds i true) (Array.replicate n false)
theorem foldl_set_getD : ∀ (ls : List Nat) (l : Array Bool) (j : Nat) (d : Bool), j < l.size → (ls.foldl (fun l i => l.setIfInBounds i true) l).getD j d = (ls.contains j || l.getD j d)
  | [], l, j, d, h => by simp
  | i :: ls, l, j, d, h => by
    rw [List.foldl_cons, foldl_set_getD ls _ j d (by simpa using h)]
    by_cases e : i = j
    · subst e; simp [h]
    · rw [getD_set_ne d e]
      have : ¬ j = i := fun h => e h.symm
      simp [List.contains_cons, this]
theorem foldl_set_size : ∀ (ls : List Nat) (l : Array Bool), (ls.foldl (fun l i => l.setIfInBounds i true) l).size = l.size
  | [], l => rfl
  | i :: ls, l => by rw [List.foldl_cons, foldl_set_size ls]; simp
theorem listedOf_getD (n : Nat) (ls : List Nat) (j : Nat) (d : Bool) (h : j < n) : (listedOf n ls).getD j d = ls.contains j := by
  unfold listedOf
  rw [foldl_set_getD _ _ _ _ (by simpa using h)]
  simp [h]
theorem listedOf_set (n : Nat) (ls : List Nat) (i : Nat) : (listedOf n ls).setIfInBounds i true = listedOf n (ls ++ [i]) := by
  simp [listedOf]
theorem ext_listed {a b : Array Bool} (hs : a.size = b.size) (h : ∀ j, j < a.size → a.getD j false = b.getD j false) : a = b := by
  apply Array.ext hs
  intro j h1 h2
  have := h j h1
  simpa [h1, h2] using this

/-! ### Who waits for whom -/
/-- What has come is closed: all that it waits for has come. -/
def Down (ops : Array Oper) (listed : Array Bool) : Prop :=
  listed.size = ops.size ∧ ∀ (j : Nat) (o : Oper), ops[j]? = some o → listed.getD j false = true → ∀ e ∈ o.after, Region.binds .any e = true → listed.getD e.on false = true
theorem Down.set {listed : Array Bool} (h : Down ops listed) {i : Nat} (hi : i ∈ Region.ready .any ops listed) : Down ops (listed.setIfInBounds i true) := by
  refine ⟨by simpa using h.1, fun j o ho hj e he hb => getD_set_true ?_⟩
  obtain ⟨_, oi, hoi, hd⟩ := mem_ready.1 hi
  by_cases hij : i = j
  · subst hij; rw [ho] at hoi; cases hoi; exact hd e he hb
  · rw [getD_set_ne false hij] at hj
    exact h.2 j o ho hj e he hb
theorem Down.start : Down ops (Array.replicate ops.size false) :=
  ⟨by simp, fun j o ho hj => by rw [getD_replicate_false] at hj; cases hj⟩

def mskOf (ms : List Nat) : List Edge → Nat
  | [] => 0
  | e :: es => match Region.binds .any e with
    | true => (2 ^ e.on ||| ms.getD e.on 0) ||| mskOf ms es
    | false => mskOf ms es
def msks : List Oper → List Nat → List Nat
  | [], ms => ms
  | o :: os, ms => msks os (ms ++ [mskOf ms o.after.toList])
theorem mskOf_sound {listed : Array Bool} {ms : List Nat} (hms : ∀ k i, (ms.getD k 0).testBit i = true → listed.getD k false = true → listed.getD i false = true) :
    ∀ {es : List Edge}, (∀ e ∈ es, Region.binds .any e = true → listed.getD e.on false = true) → ∀ i, (mskOf ms es).testBit i = true → listed.getD i false = true
  | [], _, i, h => by simp [mskOf] at h
  | e :: es, he, i, h => by
    unfold mskOf at h
    split at h
    · rename_i hb
      have hon := he e (by simp) hb
      simp only [Nat.testBit_or, Bool.or_eq_true] at h
      rcases h with (h | h) | h
      · rw [Nat.testBit_two_pow] at h
        have : e.on = i := of_decide_eq_true h
        rw [← this]; exact hon
      · exact hms _ _ h hon
      · exact mskOf_sound hms (fun e' he' => he e' (by simp [he'])) i h
    · exact mskOf_sound hms (fun e' he' => he e' (by simp [he'])) i h
theorem msks_sound {listed : Array Bool} (hd : Down ops listed) : ∀ (os : List Oper) (ms : List Nat), ms.length + os.length = ops.size → (∀ j, j < os.length → os[j]? = ops[ms.length + j]?) →
    (∀ (k : Nat) (o : Oper), k < ms.length → ops[k]? = some o → (∀ e ∈ o.after, Region.binds .any e = true → listed.getD e.on false = true) → ∀ i, (ms.getD k 0).testBit i = true → listed.getD i false = true) →
    ∀ (k : Nat) (o : Oper), ops[k]? = some o → (∀ e ∈ o.after, Region.binds .any e = true → listed.getD e.on false = true) → ∀ i, ((msks os ms).getD k 0).testBit i = true → listed.getD i false = true
  | [], ms, hl, _, h, k, o, ho => h k o (by simp at hl; have := (Array.getElem?_eq_some_iff.1 ho).1; omega) ho
  | o' :: os, ms, hl, hos, h, k, o, ho => by
    refine msks_sound hd os (ms ++ [mskOf ms o'.after.toList]) (by simp at hl ⊢; omega) (fun j hj => ?_) (fun k' o'' hk' ho'' hdeps i hi => ?_) k o ho
    · have := hos (j + 1) (by simp; omega)
      simp only [List.getElem?_cons_succ] at this
      rw [this]; congr 1; simp; omega
    · simp only [List.length_append, List.length_singleton] at hk'
      by_cases hlt : k' < ms.length
      · rw [List.getD_eq_getElem?_getD, List.getElem?_append_left hlt, ← List.getD_eq_getElem?_getD] at hi
        exact h k' o'' hlt ho'' hdeps i hi
      · have hk : k' = ms.length := by omega
        subst hk
        have h0 := hos 0 (by simp)
        simp only [List.getElem?_cons_zero, Nat.add_zero] at h0
        rw [ho''] at h0; cases h0
        simp only [List.getD_eq_getElem?_getD, List.getElem?_append_right (Nat.le_refl _), Nat.sub_self, List.getElem?_cons_zero, Option.getD_some] at hi
        refine mskOf_sound (fun k i hb hk => ?_) (fun e he => hdeps e (by simpa using he)) i hi
        by_cases hkl : k < ms.length
        · have hko : k < ops.size := by simp at hl; omega
          exact h k ops[k] hkl (Array.getElem?_eq_getElem hko) (hd.2 k _ (Array.getElem?_eq_getElem hko) hk) i hb
        · simp [List.getD_eq_getElem?_getD, List.getElem?_eq_none (show ms.length ≤ k by omega)] at hb

/-- It looks at no memory: it may come late. -/
def lateOp (ops : Array Oper) (i : Nat) : Bool :=
  match ops[i]? with
  | some o => (match o.op with | .extract _ _ => true | .assign _ => true | .move _ => true | _ => false)
  | none => false
/-- ls have come; all else that is none of js waits for them, but for such as may come late. -/
def waitsB2 (ops : Array Oper) (ls js : List Nat) : Bool :=
  let ms := msks ops.toList []
  (List.range ops.size).all fun k => ls.contains k || (js.contains k || js.all fun i => lateOp ops i || (ms.getD k 0).testBit i)
theorem waits_sound {ls js : List Nat} (h : waitsB2 ops ls js = true) {listed : Array Bool} (hd : Down ops listed) (hls : ∀ i ∈ ls, i < ops.size → listed.getD i false = true) {i : Nat} (hi : i ∈ js) (hla : lateOp ops i = false) (hun : listed.getD i false = false) :
    ∀ k ∈ Region.ready .any ops listed, js.contains k = true := by
  intro k hk
  obtain ⟨hkun, o, ho, hdeps⟩ := mem_ready.1 hk
  have hlt : k < ops.size := (Array.getElem?_eq_some_iff.1 ho).1
  unfold waitsB2 at h
  simp only [List.all_eq_true, List.mem_range, Bool.or_eq_true] at h
  rcases h k hlt with h1 | h1 | h1
  · have := hls k (by simpa using h1) hlt
    rw [getD_both hkun] at this; cases this
  · exact h1
  · have hb : (((msks ops.toList []).getD k 0).testBit i) = true := by
      have := h1 i hi
      rw [hla] at this
      rcases this with h0 | h0
      · cases h0
      · exact h0
    have := msks_sound hd ops.toList [] (by simp) (fun j _ => by simp) (fun k o hk => absurd hk (by simp)) k o ho hdeps i hb
    rw [hun] at this; cases this

/-- Quiet, and the same whatever the world. -/
def freeAt (ops : Array Oper) (listed : Array Bool) (i : Nat) (oi : Oper) : Prop :=
  ∀ j oj, ops[j]? = some oj → j ≠ i → listed.getD j true = false → (∀ e ∈ oj.after, Region.binds .any e = true → e.on ≠ i) → oi.apart ops oj = true
theorem freeAt.mono {l l' : Array Bool} {i : Nat} {oi : Oper} (h : freeAt ops l i oi) (hm : ∀ k, l'.getD k true = false → l.getD k true = false) : freeAt ops l' i oi :=
  fun j oj h1 h2 h3 h4 => h j oj h1 h2 (hm j h3) h4
theorem unl_mono {l : Array Bool} {j k : Nat} (h : (l.setIfInBounds j true).getD k true = false) : l.getD k true = false := by
  by_cases hjk : j = k
  · subst hjk
    simp only [Array.getD_eq_getD_getElem?, Array.getElem?_setIfInBounds] at h ⊢
    by_cases hlt : j < l.size
    · simp [hlt] at h
    · simp [hlt] at h
  · rwa [getD_set_ne true hjk] at h
/-- All has come but for some operations that may be taken at once. -/
inductive Lf (P : Program) (ops : Array Oper) (lsF : Array Bool) (F : List HB → Act → Prop) : Nat → List HB → Array Bool → Act → Prop
  | base {hp a} : F hp a → Lf P ops lsF F 0 hp lsF a
  | pend {n hp l a i o v} : ops[i]? = some o → i ∈ Region.ready .any ops l → freeAt ops l i o → Go.Yields P ops o v a → Lf P ops lsF F n hp (l.setIfInBounds i true) (a.put o.dst v) → Lf P ops lsF F (n + 1) hp l a
theorem Yields.of_same {o : Oper} {v : Value} {a a' : Act} (hy : Go.Yields P ops o v a) (he : execOp a'.eval o = execOp a.eval o)
    (hw : Region.wanted o (yielded ops a'.tmps) = Region.wanted o (yielded ops a.tmps)) : Go.Yields P ops o v a' := by
  unfold Go.Yields at *
  rw [he, hw]
  exact hy
theorem Yields.qy {hp : List HB} {o : Oper} {v : Value} {a : Act} (hy : Go.Yields P ops o v a) : QY P ops hp o v a := by
  rcases hy with ⟨h1, h2⟩ | h
  · refine .inl ⟨h1, fun w _ => ?_⟩
    unfold Oper.quietAt
    rw [h2 w]
    exact ⟨rfl, rfl⟩
  · exact .inr h
theorem Lf.step {lsF : Array Bool} {F : List HB → Act → Prop} (hsel : ∀ (j : Nat) (o : Oper) cs b, ops[j]? = some o → o.op ≠ .select cs b) : ∀ {n : Nat} {hp : List HB} {l : Array Bool} {a : Act}, Lf P ops lsF F n hp l a → ∀ {j : Nat}, j ∈ Region.ready .any ops l → lsF.getD j true = true →
    ∃ m oj u, n = m + 1 ∧ ops[j]? = some oj ∧ Go.Yields P ops oj u a ∧ Lf P ops lsF F m hp (l.setIfInBounds j true) (a.put oj.dst u) := by
  intro n hp l a h
  induction h with
  | base hf =>
    intro j hj hl
    have := (mem_ready.1 hj).1
    rw [hl] at this; cases this
  | @pend n hp l a i oi v hi hr hfr hy hrest ih =>
    intro j hj hl
    by_cases hji : j = i
    · subst hji; exact ⟨n, oi, v, rfl, hi, hy, hrest⟩
    · obtain ⟨m, oj, u, rfl, hoj, hyj, hm⟩ := ih (ready_mono hj hji) hl
      obtain ⟨hjun, oj', hoj', hdeps⟩ := mem_ready.1 hj
      rw [hoj] at hoj'; cases hoj'
      have hun := (mem_ready.1 hr).1
      have hnot : ∀ e ∈ oj.after, Region.binds .any e = true → e.on ≠ i := fun e he hb heq => by
        have h1 := hdeps e he hb
        rw [heq, getD_both hun] at h1
        cases h1
      obtain ⟨p1, p2, p3⟩ := Oper.apart_spec (hfr j oj hoj hji hjun hnot)
      have hcomm : (l.setIfInBounds i true).setIfInBounds j true = (l.setIfInBounds j true).setIfInBounds i true := Array.setIfInBounds_comm _ _ (Ne.symm hji)
      refine ⟨m + 1, oj, u, rfl, hoj, Yields.of_same hyj (execOp_put oj (fun cs b => hsel j oj cs b hoj) a oi.dst v p1).symm (by rw [wanted_put oj a oi.dst v p1]), ?_⟩
      refine .pend hi (ready_mono hr (Ne.symm hji)) (hfr.mono fun k hk => unl_mono hk) (Yields.of_same hy (execOp_put oi (fun cs b => hsel i oi cs b hi) a oj.dst u p3) (wanted_put oi a oj.dst u p3)) ?_
      rw [← Act.put_comm a v u p2, ← hcomm]
      exact hm
theorem Lf.wp {lsF : Array Bool} {F : List HB → Act → Prop} {Q : Exit → Act → World → Prop} {g : Nat} {w : World} (hsel : ∀ (j : Nat) (o : Oper) cs b, ops[j]? = some o → o.op ≠ .select cs b) (hQ : ∀ c a w, ¬ Q (.panic c) a w) :
    ∀ {n : Nat} {hp : List HB} {l : Array Bool} {a : Act}, Lf P ops lsF F n hp l a → (∀ a, F hp a → wpAny P .any ops Q g lsF a w) → wpAny P .any ops Q (n + g) l a w := by
  intro n hp l a h
  induction h with
  | base hf => intro hF; rw [Nat.zero_add]; exact hF _ hf
  | @pend n hp l a i oi v hi hr hfr hy hrest ih =>
    intro hF
    rw [show n + 1 + g = (n + g) + 1 by omega]
    exact wpAny_first hi hsel (fun c a w hq => absurd hq (hQ _ _ _)) _ _ _ _ hfr hr hy (ih hF)

/-- A quiet operation may be taken first. -/
theorem WX_first' {ha : Nat → Bool} {bz : Array Bool → Prop} {ak : Nat → Option (TypeId × Cts)} {lsF : Array Bool} {F : List HB → Act → Prop} {i : Nat} {oi : Oper} {v : Value} {lt : Bool} (hi : ops[i]? = some oi) (hsel : ∀ (j : Nat) (o : Oper) cs b, ops[j]? = some o → o.op ≠ .select cs b)
    (hha : ∀ j, ha j = true → lsF.getD j true = true) (hak : ∀ i t c, ak i = some (t, c) → AK P ops i t c) (hai : ha i = true)
    (hbz : lt = false → ∀ l, l.getD i true = false → bz l) (hbm : ∀ l j, bz (l.setIfInBounds j true) → bz l) :
    ∀ (f : Nat) (hp : List HB) (listed : Array Bool) (a : Act), Down ops listed → freeAt ops listed i oi →
      i ∈ Region.ready .any ops listed → (∀ listed', Down ops listed' → (∀ k, listed.getD k false = true → listed'.getD k false = true) → bz listed' → ∀ k ∈ Region.ready .any ops listed', ha k = true) → QY P ops hp oi v a → (lt = true → Go.Yields P ops oi v a) →
      WX P ops ha bz ak (Lf P ops lsF F) f hp (listed.setIfInBounds i true) (a.put oi.dst v) → WX P ops ha bz ak (Lf P ops lsF F) (f + 1) hp listed a := by
  intro f
  induction f with
  | zero =>
    intro hp listed a hdn hfree hr hwait hy hyl H
    have hun := (mem_ready.1 hr).1
    cases hlt : lt with
    | true => exact .inl (.pend hi hr hfree (hyl hlt) H)
    | false =>
      have hb := hbz hlt listed hun
      have hall := hwait listed hdn (fun _ h => h) hb
      refine .inr ⟨hb, fun h => (by rw [h] at hr; cases hr), fun j hj => ⟨hall j hj, ?_⟩⟩
      by_cases hji : j = i
      · subst hji; exact ⟨oi, hi, .inl ⟨v, hy, H⟩⟩
      · obtain ⟨m, _, _, h0, _⟩ := Lf.step hsel H (ready_mono hj hji) (hha j (hall j hj))
        cases h0
  | succ f ih =>
    intro hp listed a hdn hfree hr hwait hy hyl H
    have hun := (mem_ready.1 hr).1
    have late : Lf P ops lsF F (f + 1) hp (listed.setIfInBounds i true) (a.put oi.dst v) → lt = true → WX P ops ha bz ak (Lf P ops lsF F) (f + 1 + 1) hp listed a := fun H hlt => .inl (.pend hi hr hfree (hyl hlt) H)
    have hb : (lt = true ∧ Lf P ops lsF F (f + 1) hp (listed.setIfInBounds i true) (a.put oi.dst v)) ∨ bz listed := by
      cases hlt : lt with
      | false => exact .inr (hbz hlt listed hun)
      | true =>
        rcases H with H | H
        · exact .inl ⟨rfl, H⟩
        · exact .inr (hbm _ _ H.1)
    rcases hb with ⟨hlt, H⟩ | hb
    · exact late H hlt
    have hall := hwait listed hdn (fun _ h => h) hb
    refine .inr ⟨hb, fun h => (by rw [h] at hr; cases hr), fun j hj => ⟨hall j hj, ?_⟩⟩
    by_cases hji : j = i
    · subst hji; exact ⟨oi, hi, .inl ⟨v, hy, H⟩⟩
    · have H2 : ∃ o, ops[j]? = some o ∧ ((∃ u, QY P ops hp o u (a.put oi.dst v) ∧ WX P ops ha bz ak (Lf P ops lsF F) f hp ((listed.setIfInBounds i true).setIfInBounds j true) ((a.put oi.dst v).put o.dst u)) ∨
          (∃ t c, ak j = some (t, c) ∧ ∀ g, WX P ops ha bz ak (Lf P ops lsF F) f (hp ++ [ablk t c g]) ((listed.setIfInBounds i true).setIfInBounds j true) ((a.put oi.dst v).put o.dst (aptr g)))) := by
        rcases H with H | H
        · obtain ⟨m, oj, u, h0, hoj, hyj, hm⟩ := Lf.step hsel H (ready_mono hj hji) (hha j (hall j hj))
          cases h0
          exact ⟨oj, hoj, .inl ⟨u, Yields.qy hyj, WX.leaf hm⟩⟩
        · exact (H.2.2 j (ready_mono hj hji)).2
      obtain ⟨oj, hoj, hc⟩ := H2
      obtain ⟨hjun, oj', hoj', hdeps⟩ := mem_ready.1 hj
      rw [hoj] at hoj'; cases hoj'
      have hnot : ∀ e ∈ oj.after, Region.binds .any e = true → e.on ≠ i := fun e he hb heq => by
        have h1 := hdeps e he hb
        rw [heq, getD_both hun] at h1
        cases h1
      have hap := hfree j oj hoj hji hjun hnot
      obtain ⟨p1, p2, p3⟩ := Oper.apart_spec hap
      have hfree' : freeAt ops (listed.setIfInBounds j true) i oi := hfree.mono fun k hk => unl_mono hk
      have hr' := ready_mono hr (Ne.symm hji)
      have hdn' := hdn.set hj
      have hwait' : ∀ listed', Down ops listed' → (∀ k, (listed.setIfInBounds j true).getD k false = true → listed'.getD k false = true) → bz listed' → ∀ k ∈ Region.ready .any ops listed', ha k = true :=
        fun l' h1 h2 => hwait l' h1 fun k hk => h2 k (getD_set_true hk)
      have hcomm : (listed.setIfInBounds i true).setIfInBounds j true = (listed.setIfInBounds j true).setIfInBounds i true := Array.setIfInBounds_comm _ _ (Ne.symm hji)
      refine ⟨oj, hoj, ?_⟩
      rcases hc with ⟨u, hu, hX⟩ | ⟨t, c, hk, hX⟩
      · have hu' : QY P ops hp oj u a := by
          refine hu.of_same (execOp_put oj (fun cs b => hsel j oj cs b hoj) a oi.dst v p1).symm ?_
          rw [wanted_put oj a oi.dst v p1]
        refine .inl ⟨u, hu', ih hp _ _ hdn' hfree' hr' hwait' (hy.of_same (execOp_put oi (fun cs b => hsel i oi cs b hi) a oj.dst u p3) (wanted_put oi a oj.dst u p3)) (fun h => Yields.of_same (hyl h) (execOp_put oi (fun cs b => hsel i oi cs b hi) a oj.dst u p3) (wanted_put oi a oj.dst u p3)) ?_⟩
        rw [← Act.put_comm a v u p2, ← hcomm]
        exact hX
      · refine .inr ⟨t, c, hk, fun g => ih _ _ _ hdn' hfree' hr' hwait' ((hy.of_same (execOp_put oi (fun cs b => hsel i oi cs b hi) a oj.dst (aptr g) p3) (wanted_put oi a oj.dst (aptr g) p3)).more) (fun h => Yields.of_same (hyl h) (execOp_put oi (fun cs b => hsel i oi cs b hi) a oj.dst (aptr g) p3) (wanted_put oi a oj.dst (aptr g) p3)) ?_⟩
        rw [← Act.put_comm a v (aptr g) p2, ← hcomm]
        exact hX g
theorem late_any {o : Oper} (h : (match o.op with | .extract _ _ => true | .assign _ => true | .move _ => true | _ => false) = true) {ρ : Operand → Value} {w w' : World} {n : Next} (he : (execOp ρ o).run P w = .ok n w') :
    w' = w ∧ ∃ u, n = .value u ∧ ∀ w2, (execOp ρ o).run P w2 = .ok n w2 := by
  obtain ⟨d, op, ty, pos, af, g⟩ := o
  cases op <;> simp only [Bool.false_eq_true] at h
  case move x => simp [execOp] at he ⊢; exact ⟨he.2.symm, ⟨_, he.1.symm⟩, he.1⟩
  case assign x => simp [execOp] at he ⊢; exact ⟨he.2.symm, ⟨_, he.1.symm⟩, he.1⟩
  case extract x ix =>
    simp only [execOp] at he ⊢
    unfold Instr.extract at he ⊢
    split at he
    · split at he <;> simp_all [stuck]
      exact ⟨_, he.1.symm⟩
    · simp_all [stuck]
/-- What looks at no memory yields the same whatever the world. -/
theorem QY.late {hp : List HB} {i : Nat} {o : Oper} {v : Value} {a : Act} (ho : ops[i]? = some o) (hl : lateOp ops i = true) (hy : QY P ops hp o v a) {w : World} (hw : ∀ b ∈ hp, b.ok w) : Go.Yields P ops o v a := by
  unfold lateOp at hl
  rw [ho] at hl
  rcases hy with ⟨h1, h2⟩ | h
  · refine .inl ⟨h1, fun w2 => ?_⟩
    have := h2 w hw
    unfold Oper.quietAt at this
    cases hr : (execOp a.eval o).run P w with
    | ok n w' =>
      obtain ⟨rfl, u, rfl, h3⟩ := late_any hl hr
      rw [hr] at this
      rw [h3 w2]
      obtain ⟨_, rfl⟩ := this
      rfl
    | halt x w' => rw [hr] at this; simp only [Oper.quietUpon] at this
  · exact .inr h

/-! ### Plans -/
inductive Plan where
  | done
  | pure (i : Nat) (p : Plan)
  | one (i : Nat) (p : Plan)
  | two (i : Nat) (p : Plan) (j : Nat) (q : Plan)
  | x (js as : List Nat) (p : Plan)
  | h (T : List Nat) (p : Plan)
  | s1 (i : Nat) (is : List Nat) (p : Plan)
  | s2 (i : Nat) (is : List Nat) (p : Plan) (j : Nat) (js : List Nat) (q : Plan)
  | s3 (i : Nat) (is : List Nat) (p : Plan) (j : Nat) (js : List Nat) (q : Plan) (k : Nat) (ks : List Nat) (r : Plan)

def headOk (ops : Array Oper) : List Nat → List Nat → Bool
  | _, [] => true
  | ls, j :: js => (Region.ready .any ops (listedOf ops.size ls)).contains j && (Region.free .any ops (listedOf ops.size ls) j && headOk ops (ls ++ [j]) js)
def isAlloc (ops : Array Oper) (i : Nat) : Bool :=
  match ops[i]? with
  | some ⟨_, .alloc _, _, _, after, none⟩ => after.all fun e => !Region.binds .any e
  | _ => false
def dstsOk (ops : Array Oper) : List Nat → Bool
  | [] => true
  | i :: as => (as.all fun j => j != i && ((dstOf ops i).isNone || dstOf ops j != dstOf ops i)) && dstsOk ops as
def Plan.ok (ops : Array Oper) : List Nat → Plan → Bool
  | ls, .done => Region.ready .any ops (listedOf ops.size ls) == []
  | ls, .pure i p => decide (ls.length < ops.size) && ((Region.ready .any ops (listedOf ops.size ls)).contains i && (Region.free .any ops (listedOf ops.size ls) i && p.ok ops (ls ++ [i])))
  | ls, .one i p => decide (ls.length < ops.size) && ((Region.ready .any ops (listedOf ops.size ls) == [i]) && p.ok ops (ls ++ [i]))
  | ls, .two i p j q => decide (ls.length < ops.size) && ((Region.ready .any ops (listedOf ops.size ls) == [i, j]) && (p.ok ops (ls ++ [i]) && q.ok ops (ls ++ [j])))
  | ls, .x js as p => decide (ls.length + js.length + as.length ≤ ops.size) && (waitsB2 ops ls (js ++ as) && (headOk ops ls js && (as.all (fun i => isAlloc ops i && !((ls ++ js).contains i)) && (dstsOk ops as && p.ok ops (ls ++ js ++ as)))))
  | ls, .h _ p => p.ok ops ls
  | ls, .s1 i _ p => decide (ls.length < ops.size) && ((Region.ready .any ops (listedOf ops.size ls) == [i]) && p.ok ops (ls ++ [i]))
  | ls, .s2 i _ p j _ q => decide (ls.length < ops.size) && ((Region.ready .any ops (listedOf ops.size ls) == [i, j]) && (p.ok ops (ls ++ [i]) && q.ok ops (ls ++ [j])))
  | ls, .s3 i _ p j _ q k _ r => decide (ls.length < ops.size) && ((Region.ready .any ops (listedOf ops.size ls) == [i, j, k]) && (p.ok ops (ls ++ [i]) && (q.ok ops (ls ++ [j]) && r.ok ops (ls ++ [k]))))
/-- What the plan takes first is among these. -/
def Plan.takes (T : List Nat) : Plan → Bool
  | .done => true
  | .pure i p => T.contains i && p.takes T
  | .one _ p => p.takes T
  | .two _ p _ q => p.takes T && q.takes T
  | .x _ _ p => p.takes T
  | .h _ p => p.takes T
  | .s1 _ _ p => p.takes T
  | .s2 _ _ p _ _ q => p.takes T && q.takes T
  | .s3 _ _ p _ _ q _ _ r => p.takes T && (q.takes T && r.takes T)
def Plan.top (ops : Array Oper) (p : Plan) : Bool := Region.noSelect ops && p.ok ops []

/-- What the allocations lay, by the table of types. -/
def akOf (T : List (Nat × TyI)) (ops : Array Oper) (i : Nat) : Option (TypeId × Cts) :=
  match ops[i]? with
  | some ⟨_, .alloc t, _, _, _, none⟩ => (lookN T t).map fun ty => (t, .l ty.zero)
  | _ => none
theorem akOf_ok {T : List (Nat × TyI)} (hT : TOk P T) {i : Nat} {t : TypeId} {c : Cts} (h : akOf T ops i = some (t, c)) : AK P ops i t c := by
  unfold akOf at h
  split at h
  · rename_i dst t' ty pos after ho
    cases hl : lookN T t' with
    | none => rw [hl] at h; cases h
    | some tyi =>
      rw [hl] at h
      simp only [Option.map_some, Option.some.injEq, Prod.mk.injEq] at h
      obtain ⟨rfl, rfl⟩ := h
      obtain ⟨f, z, hf1, _, hz, hzc⟩ := (hT _ _ hl).info
      have hzc' : z.cells = (denL tyi.zero).toArray := by rw [← hzc]
      refine ⟨_, (denL tyi.zero).toArray, ho, rfl, fun ρ w => by simp [execOp, Instr.alloc, zeroValue, typeInfo, hf1, hz, newVar, newRow, hzc'], by simp [Cts.l_n, denL_len], fun j hj => ?_⟩
      rw [Cts.l_n] at hj
      rw [Cts.l_get]
      have := denL_get hj
      simpa using this
  · cases h

section
variable {w0 : World} {Q : Exit → Act → World → Prop}
/-- What is left of a region, ls having come. -/
def RG (P : Program) (ops : Array Oper) (Q : Exit → Act → World → Prop) (ls : List Nat) (a : Act) (w : World) : Prop := wpAny P .any ops Q (ops.size - ls.length) (listedOf ops.size ls) a w

theorem RG_done {ls : List Nat} {a : Act} {w : World} (h : Plan.ok ops ls .done = true) (hq : Q .normal a w) : RG P ops Q ls a w := wpAny_done (by simpa [Plan.ok] using h) hq _
theorem RG_pure {ls : List Nat} {a : Act} {w : World} {i : Nat} {p : Plan} {o : Oper} {v : Value} (hsel : Region.noSelect ops = true) (hQ : ∀ c a w, ¬ Q (.panic c) a w) (h : Plan.ok ops ls (.pure i p) = true) (ho : ops[i]? = some o)
    (hy : Go.Yields P ops o v a) (hr : RG P ops Q (ls ++ [i]) (a.put o.dst v) w) : RG P ops Q ls a w := by
  simp only [Plan.ok, Bool.and_eq_true, decide_eq_true_eq] at h
  obtain ⟨h1, h2, h3, h4⟩ := h
  unfold RG at hr ⊢
  rw [← listedOf_set] at hr
  rw [show ops.size - ls.length = (ops.size - (ls ++ [i]).length) + 1 by simp; omega]
  exact wpAny_take ho hsel h3 h2 (fun c a w hq => absurd hq (hQ _ _ _)) hy hr
theorem RG_all {ls : List Nat} {a : Act} {w : World} {rs : List Nat} (hl : ls.length < ops.size) (hrs : Region.ready .any ops (listedOf ops.size ls) = rs) (hne : rs ≠ []) (h : ∀ i ∈ rs, wpOp P ops Q i (RG P ops Q (ls ++ [i])) a w) : RG P ops Q ls a w := by
  unfold RG
  rw [show ops.size - ls.length = (ops.size - (ls.length + 1)) + 1 by omega]
  refine wpAny_all hrs hne fun i hi => ?_
  have := h i hi
  unfold RG at this
  rw [listedOf_set]
  simpa using this

/-- The quiet operations one by one, then the new variables. -/
def Can (P : Program) (ops : Array Oper) (F : List HB → Act → Prop) (as : List (Nat × TypeId × Cts)) (hp : List HB) : List Nat → Act → Prop
  | [], a => FA ops F as hp a
  | j :: js, a => ∃ o v, ops[j]? = some o ∧ QY P ops hp o v a ∧ Can P ops F as hp js (a.put o.dst v)

theorem WX_allocs {ha : Nat → Bool} {bz : Array Bool → Prop} {ak : Nat → Option (TypeId × Cts)} {F : List HB → Act → Prop} {lsF : List Nat} (hF : ∀ hp hq a, hp.Perm hq → F hp a → F hq a) :
    ∀ (n : Nat) (as : List (Nat × TypeId × Cts)) (hp : List HB) (listed : Array Bool) (a : Act), as.length = n → dstsApart ops as → (∀ x ∈ as, ak x.1 = some x.2 ∧ ha x.1 = true ∧ isAlloc ops x.1 = true) →
      Down ops listed → (∀ k, k < ops.size → listed.getD k false = (lsF.contains k && !(as.any fun x => x.1 == k))) → (∀ x ∈ as, lsF.contains x.1 = true) →
      (∀ listed', Down ops listed' → (∀ k, listed.getD k false = true → listed'.getD k false = true) → (∃ x ∈ as, listed'.getD x.1 false = false) → ∀ j ∈ Region.ready .any ops listed', ha j = true) → (∀ j, ha j = true → lsF.contains j = true) → (∀ l, (∃ x ∈ as, l.getD x.1 false = false) → bz l) →
      FA ops F as hp a → WX P ops ha bz ak (Lf P ops (listedOf ops.size lsF) F) n hp listed a
  | 0, as, hp, listed, a, hn, hd, has, hdn, hl, hin, hw, hha, hbz, hf => by
    have : as = [] := List.eq_nil_of_length_eq_zero hn
    subst this
    have e : listed = listedOf ops.size lsF := by
      refine ext_listed (by rw [hdn.1]; simp [listedOf, foldl_set_size]) fun j hj => ?_
      rw [hdn.1] at hj
      rw [hl j hj, listedOf_getD _ _ _ _ hj]
      simp
    rw [e]
    exact Lf.base hf
  | n + 1, as, hp, listed, a, hn, hd, has, hdn, hl, hin, hw, hha, hbz, hf => by
    have unl : ∀ x ∈ as, x.1 < ops.size ∧ listed.getD x.1 false = false := fun x hx => by
      have hal := (has x hx).2.2
      unfold isAlloc at hal
      split at hal
      · rename_i ho
        have hlt : x.1 < ops.size := (Array.getElem?_eq_some_iff.1 ho).1
        refine ⟨hlt, ?_⟩
        rw [hl _ hlt]
        have : as.any (fun y => y.1 == x.1) = true := List.any_eq_true.2 ⟨x, hx, by simp⟩
        simp [this]
      · cases hal
    have rdy : ∀ x ∈ as, x.1 ∈ Region.ready .any ops listed := fun x hx => by
      obtain ⟨hlt, hun⟩ := unl x hx
      have hal := (has x hx).2.2
      unfold isAlloc at hal
      split at hal
      · rename_i dst t ty pos after ho
        rw [mem_ready]
        refine ⟨getD_in (by rw [hdn.1]; exact hlt) hun, _, ho, fun e he hb => ?_⟩
        have := Array.all_eq_true_iff_forall_mem.1 hal e he
        rw [hb] at this; cases this
      · cases hal
    obtain ⟨x0, hx0⟩ : ∃ x, x ∈ as := by
      cases as with
      | nil => simp at hn
      | cons x as => exact ⟨x, by simp⟩
    refine .inr ⟨hbz _ ⟨x0, hx0, (unl x0 hx0).2⟩, fun h => (by have := rdy x0 hx0; rw [h] at this; cases this), fun i hi => ?_⟩
    have hai : ha i = true := hw listed hdn (fun _ h => h) ⟨x0, hx0, (unl x0 hx0).2⟩ i hi
    refine ⟨hai, ?_⟩
    obtain ⟨hiun, o, ho, _⟩ := mem_ready.1 hi
    have hilt : i < ops.size := (Array.getElem?_eq_some_iff.1 ho).1
    have hias : ∃ x ∈ as, x.1 = i := by
      have h1 := hl i hilt
      rw [getD_both hiun, hha i hai] at h1
      simp only [Bool.true_and] at h1
      have h2 : as.any (fun x => x.1 == i) = true := by simpa using h1.symm
      obtain ⟨x, hx, hxi⟩ := List.any_eq_true.1 h2
      exact ⟨x, hx, by simpa using hxi⟩
    obtain ⟨x, hx, rfl⟩ := hias
    have hdo : dstOf ops x.1 = o.dst := by simp [dstOf, ho]
    refine ⟨o, ho, .inr ⟨x.2.1, x.2.2, (has x hx).1, fun g => ?_⟩⟩
    have hfl := filter_length hd hx
    rw [← hdo]
    refine WX_allocs hF n (as.filter fun y => y.1 != x.1) _ _ _ (by omega) (dstsApart_filter _ hd) (fun y hy => has y (List.mem_filter.1 hy).1) (hdn.set hi) (fun k hk => ?_) (fun y hy => hin y (List.mem_filter.1 hy).1) (fun l' h1 h2 ⟨y, hy, hyu⟩ => hw l' h1 (fun k hk => h2 k (getD_set_true hk)) ⟨y, (List.mem_filter.1 hy).1, hyu⟩) hha (fun l ⟨y, hy, hyu⟩ => hbz l ⟨y, (List.mem_filter.1 hy).1, hyu⟩) (FA_pull hF as hd hx hf g)
    by_cases hxk : x.1 = k
    · subst hxk
      have : (listed.setIfInBounds x.1 true).getD x.1 false = true := by simp [show x.1 < listed.size by rw [hdn.1]; exact hk]
      rw [this, hin x hx]
      simp [List.any_filter]
    · rw [getD_set_ne false hxk, hl k hk]
      congr 2
      rw [List.any_filter, Bool.eq_iff_iff, List.any_eq_true, List.any_eq_true]
      constructor
      · rintro ⟨y, hy, he⟩
        exact ⟨y, hy, by have : y.1 = k := by simpa using he
                         simp [this]; exact fun h => hxk h.symm⟩
      · rintro ⟨y, hy, he⟩
        simp only [Bool.and_eq_true] at he
        exact ⟨y, hy, by simpa using he.2⟩

theorem dstsOk_sound : ∀ {as : List Nat} {f : Nat → TypeId × Cts}, dstsOk ops as = true → dstsApart ops (as.map fun i => (i, f i))
  | [], _, _ => trivial
  | i :: as, f, h => by
    simp only [dstsOk, Bool.and_eq_true, List.all_eq_true] at h
    refine ⟨fun x hx => ?_, dstsOk_sound h.2⟩
    obtain ⟨j, hj, rfl⟩ := List.mem_map.1 hx
    have := h.1 j hj
    simp only [Bool.and_eq_true, bne_iff_ne, ne_eq, Bool.or_eq_true] at this
    refine ⟨this.1, fun d hd he => ?_⟩
    rcases this.2 with h1 | h1
    · rw [hd] at h1; cases h1
    · exact h1 (by rw [he, hd])

theorem cont_app (l m : List Nat) (j : Nat) : (l ++ m).contains j = (l.contains j || m.contains j) := by
  rw [List.contains_eq_any_beq, List.any_append, ← List.contains_eq_any_beq, ← List.contains_eq_any_beq]
theorem alloc_late {i : Nat} (h : isAlloc ops i = true) : lateOp ops i = false := by
  unfold isAlloc at h
  unfold lateOp
  split at h
  · rename_i ho; rw [ho]
  · cases h
theorem WX_can {ha : Nat → Bool} {ak : Nat → Option (TypeId × Cts)} {F : List HB → Act → Prop} {as : List (Nat × TypeId × Cts)} {lsF js0 ls0 : List Nat} (hsel : Region.noSelect ops = true) (hak : ∀ i t c, ak i = some (t, c) → AK P ops i t c)
    (hF : ∀ hp hq a, hp.Perm hq → F hp a → F hq a) (hd : dstsApart ops as) (has : ∀ x ∈ as, ak x.1 = some x.2 ∧ ha x.1 = true ∧ isAlloc ops x.1 = true) (hnin : ∀ x ∈ as, (ls0 ++ js0).contains x.1 = false)
    (hlF : lsF = ls0 ++ js0 ++ as.map (·.1)) (hha : ha = fun j => (js0 ++ as.map (·.1)).contains j) (hw : waitsB2 ops ls0 (js0 ++ as.map (·.1)) = true) (hp : List HB) {w : World} (hpw : ∀ b ∈ hp, b.ok w) :
    ∀ (js pre : List Nat) (a : Act), js0 = pre ++ js → Down ops (listedOf ops.size (ls0 ++ pre)) → headOk ops (ls0 ++ pre) js = true → Can P ops F as hp js a →
      WX P ops ha (fun l => ∃ i ∈ js0 ++ as.map (·.1), lateOp ops i = false ∧ l.getD i false = false) ak (Lf P ops (listedOf ops.size lsF) F) (js.length + as.length) hp (listedOf ops.size (ls0 ++ pre)) a
  | [], pre, a, hjs, hdn, _, hc => by
    have hpre : pre = js0 := by simpa using hjs.symm
    subst hpre
    rw [List.length_nil, Nat.zero_add]
    have inl : ∀ j, ha j = true → lsF.contains j = true := fun j hj => by
      rw [hha] at hj
      have hj : (pre ++ as.map (·.1)).contains j = true := hj
      rw [hlF, List.append_assoc, cont_app, hj, Bool.or_true]
    refine WX_allocs hF _ as hp _ a rfl hd has hdn (fun k hk => ?_) (fun x hx => inl _ (has x hx).2.1) (fun l' h1 h2 ⟨x, hx, hxu⟩ => ?_) inl (fun l ⟨x, hx, hxu⟩ => ⟨x.1, by simp; exact .inr ⟨x.2.1, x.2.2, hx⟩, alloc_late (has x hx).2.2, hxu⟩) hc
    · rw [listedOf_getD _ _ _ _ hk, hlF]
      have e : (as.map (·.1)).contains k = as.any fun x => x.1 == k := by
        rw [List.contains_eq_any_beq, List.any_map]
        congr 1; funext x; simp [Function.comp_def, BEq.comm]
      rw [cont_app (ls0 ++ pre), e]
      by_cases hany : as.any (fun x => x.1 == k) = true
      · obtain ⟨x, hx, hxk⟩ := List.any_eq_true.1 hany
        have hxk : x.1 = k := by simpa using hxk
        have := hnin x hx
        rw [hxk] at this
        rw [this, hany]; rfl
      · have hany : as.any (fun x => x.1 == k) = false := by
          cases h9 : as.any (fun x => x.1 == k) with
          | true => exact absurd h9 hany
          | false => rfl
        rw [hany]; simp
    · intro j hj
      have := waits_sound hw h1 (fun i hi hlt => h2 i (by rw [listedOf_getD _ _ _ _ hlt]; simp [hi])) (i := x.1) (by simp; exact .inr ⟨x.2.1, x.2.2, hx⟩) (alloc_late (has x hx).2.2) hxu j hj
      rw [hha]; exact this
  | j :: js, pre, a, hjs, hdn, hok, hc => by
    simp only [headOk, Bool.and_eq_true] at hok
    obtain ⟨hr, hfr, hok⟩ := hok
    obtain ⟨o, v, ho, hy, hc⟩ := hc
    have hr' : j ∈ Region.ready .any ops (listedOf ops.size (ls0 ++ pre)) := by simpa using hr
    have hjin : (js0 ++ as.map (·.1)).contains j = true := by rw [hjs]; simp
    have hdn' := hdn.set hr'
    rw [listedOf_set, List.append_assoc] at hdn'
    have ih := WX_can hsel hak hF hd has hnin hlF hha hw hp hpw js (pre ++ [j]) _ (by rw [hjs]; simp) hdn' (by rw [← List.append_assoc]; exact hok) hc
    rw [← List.append_assoc, ← listedOf_set] at ih
    have hwt : ∀ listed', Down ops listed' → (∀ k, (listedOf ops.size (ls0 ++ pre)).getD k false = true → listed'.getD k false = true) → (∃ i ∈ js0 ++ as.map (·.1), lateOp ops i = false ∧ listed'.getD i false = false) → ∀ k ∈ Region.ready .any ops listed', ha k = true := fun l' h1 h2 ⟨i, hi, hil, hiu⟩ k hk => by
      have := waits_sound hw h1 (fun i hi hlt => h2 i (by rw [listedOf_getD _ _ _ _ hlt]; simp [hi])) hi hil hiu k hk
      rw [hha]; exact this
    rw [List.length_cons, show js.length + 1 + as.length = js.length + as.length + 1 by omega]
    have hinl : ∀ j, ha j = true → (listedOf ops.size lsF).getD j true = true := fun k hk => by
      have hk : (js0 ++ as.map (·.1)).contains k = true := by rw [hha] at hk; exact hk
      have hkF : lsF.contains k = true := by rw [hlF, List.append_assoc, cont_app, hk, Bool.or_true]
      by_cases hlt : k < ops.size
      · have := listedOf_getD ops.size lsF k true hlt
        rw [this, hkF]
      · simp [listedOf, foldl_set_size, Array.getD_eq_getD_getElem?, hlt]
    exact WX_first' (lt := lateOp ops j) ho (Region.noSelect_spec hsel) hinl hak (by rw [hha]; exact hjin) (fun hl l hun => ⟨j, by simpa using hjin, hl, getD_both hun⟩)
      (fun l k ⟨i, h1, h2, h3⟩ => ⟨i, h1, h2, by
        cases h9 : l.getD i false with
        | false => rfl
        | true => rw [getD_set_true h9] at h3; cases h3⟩) _ hp _ a hdn (Region.free_spec ho hfr) hr' hwt hy (fun hl => QY.late ho hl hy hpw) ih

theorem RG_x {T : List (Nat × TyI)} (hT : TOk P T) (hQ : ∀ c a w, ¬ Q (.panic c) a w) {ls js as : List Nat} {p : Plan} (hsel : Region.noSelect ops = true) (hdn : Down ops (listedOf ops.size ls)) (h : Plan.ok ops ls (.x js as p) = true) {hp : List HB} {a : Act} {w : World} (hw : Holds w0 w hp)
    {as' : List (Nat × TypeId × Cts)} (has : as.mapM (fun i => (akOf T ops i).map fun x => (i, x)) = some as')
    (hc : Can P ops (fun hp a => ∀ w, Holds w0 w hp → RG P ops Q (ls ++ js ++ as) a w) as' hp js a) : RG P ops Q ls a w := by
  simp only [Plan.ok, Bool.and_eq_true, decide_eq_true_eq] at h
  obtain ⟨h1, h2, h3, h4, h5, _⟩ := h
  have hmap : ∀ {as : List Nat} {as' : List (Nat × TypeId × Cts)}, as.mapM (fun i => (akOf T ops i).map fun x => (i, x)) = some as' → as'.map (·.1) = as ∧ (∀ x ∈ as', akOf T ops x.1 = some x.2) ∧ as' = as.map fun i => (i, (akOf T ops i).getD (0, .l [])) := by
    intro as
    induction as with
    | nil => intro as' h; simp at h; subst h; exact ⟨rfl, fun _ h => (by cases h), rfl⟩
    | cons i as ih =>
      intro as' h
      simp only [List.mapM_cons, Option.bind_eq_bind, Option.pure_def] at h
      cases hi : akOf T ops i with
      | none => simp [hi] at h
      | some tc =>
        cases hr : as.mapM (fun i => (akOf T ops i).map fun x => (i, x)) with
        | none => simp [hi, hr] at h
        | some r =>
          simp [hi, hr] at h
          subst h
          obtain ⟨q1, q2, q3⟩ := ih hr
          refine ⟨by simp [q1], fun x hx => ?_, by simp [hi]; exact q3⟩
          rcases List.mem_cons.1 hx with rfl | hx
          · exact hi
          · exact q2 x hx
  obtain ⟨e1, e2, e3⟩ := hmap has
  have hl : as'.length = as.length := by rw [← e1]; simp
  simp only [List.all_eq_true, Bool.and_eq_true] at h4
  have mem1 : ∀ x ∈ as', x.1 ∈ as := fun x hx => by rw [← e1]; exact List.mem_map.2 ⟨x, hx, rfl⟩
  have := WX_can (P := P) (ha := fun j => (js ++ as'.map (·.1)).contains j) (ak := akOf T ops) (lsF := ls ++ js ++ as) (js0 := js) (ls0 := ls) hsel (fun i t c hk => akOf_ok hT hk)
    (F := fun hp a => ∀ w, Holds w0 w hp → RG P ops Q (ls ++ js ++ as) a w) (fun hp hq a hpq hf w hw => hf w (hw.perm hpq.symm)) (by rw [e3]; exact dstsOk_sound h5)
    (fun x hx => ⟨e2 x hx, by simp; exact .inr ⟨x.2.1, x.2.2, hx⟩, (h4 x.1 (mem1 x hx)).1⟩) (fun x hx => by have := (h4 x.1 (mem1 x hx)).2; simpa using this) (by rw [e1]) rfl (by rw [e1]; exact h2) hp hw.blk js [] a rfl (by simpa using hdn) (by simpa using h3) hc
  rw [List.append_nil] at this
  unfold RG
  rw [show ops.size - ls.length = (js.length + as'.length) + (ops.size - (ls ++ js ++ as).length) by simp; omega]
  exact wpAny_of_WX (fun i t c hk => akOf_ok hT hk) (fun n hp l a w hw hL => Lf.wp (Region.noSelect_spec hsel) hQ hL fun a hf => hf w hw) _ hp _ a w hw this
end

/-! ### Loads may be taken first -/
section
variable {Q : Exit → Act → World → Prop}
/-- What holds behind each operation: of what was taken first its blocks lie there, till something that waits for it has come. -/
def SS (ops : Array Oper) (T : List Nat) (H : List (Nat × List HB)) (L : Array Bool) (w : World) : Prop :=
  ∀ x ∈ H, (∀ k, k < ops.size → L.getD k false = true → T.contains k = false → ((msks ops.toList []).getD k 0).testBit x.1 = false) → ∀ b ∈ x.2, b.ok w
def wpAnyS (P : Program) (ops : Array Oper) (Q : Exit → Act → World → Prop) (T : List Nat) (H : List (Nat × List HB)) : Nat → Array Bool → Act → World → Prop
  | 0, listed, a, w => Region.ready .any ops listed = [] ∧ Q .normal a w
  | fuel + 1, listed, a, w => (Region.ready .any ops listed = [] → Q .normal a w) ∧
    ∀ i ∈ Region.ready .any ops listed, wpOp P ops Q i (fun a' w' => SS ops T H (listed.setIfInBounds i true) w' ∧ wpAnyS P ops Q T H fuel (listed.setIfInBounds i true) a' w') a w
theorem wpAny_of_S {T : List Nat} {H : List (Nat × List HB)} : ∀ (fuel : Nat) (listed : Array Bool) (a : Act) (w : World), wpAnyS P ops Q T H fuel listed a w → wpAny P .any ops Q fuel listed a w
  | 0, _, _, _, h => h
  | fuel + 1, _, _, _, h => ⟨h.1, fun i hi => wpOp_mono (fun a' w' h' => wpAny_of_S fuel _ a' w' h'.2) (h.2 i hi)⟩
theorem SS.less {T : List Nat} {H : List (Nat × List HB)} {x : Nat × List HB} {L : Array Bool} {w : World} (h : SS ops T (x :: H) L w) : SS ops T H L w := fun y hy => h y (List.mem_cons_of_mem _ hy)
theorem SS.drop {T : List Nat} {H : List (Nat × List HB)} {i : Nat} {L : Array Bool} {w : World} (hi : T.contains i = true) (h : SS ops T H (L.setIfInBounds i true) w) : SS ops T H L w := fun x hx h2 => h x hx fun k hk h3 h4 => by
  by_cases hik : i = k
  · subst hik; rw [hi] at h4; cases h4
  · rw [getD_set_ne false hik] at h3; exact h2 k hk h3 h4
/-- Nothing that has come waits for what has not. -/
theorem no_path {listed : Array Bool} (hd : Down ops listed) {i : Nat} (hun : listed.getD i false = false) {k : Nat} {o : Oper} (ho : ops[k]? = some o) (hdeps : ∀ e ∈ o.after, Region.binds .any e = true → listed.getD e.on false = true) :
    ((msks ops.toList []).getD k 0).testBit i = false := by
  cases hb : ((msks ops.toList []).getD k 0).testBit i with
  | false => rfl
  | true =>
    have := msks_sound hd ops.toList [] (by simp) (fun j _ => by simp) (fun k o hk => absurd hk (by simp)) k o ho hdeps i hb
    rw [hun] at this; cases this
theorem wpAnyS_first {T : List Nat} {i : Nat} {oi : Oper} {v : Value} {hps : List HB} (hi : ops[i]? = some oi) (hT : T.contains i = true) (hsel : ∀ (j : Nat) (o : Oper) cs b, ops[j]? = some o → o.op ≠ .select cs b) (hQ : ∀ c a w, ¬ Q (.panic c) a w) :
    ∀ (fuel : Nat) (H : List (Nat × List HB)) (listed : Array Bool) (a : Act) (w : World), Down ops listed → freeAt ops listed i oi → i ∈ Region.ready .any ops listed →
      Go.YieldsIf P ops (fun w => ∀ b ∈ hps, b.ok w) oi v a → (∀ b ∈ hps, b.ok w) → SS ops T ((i, hps) :: H) (listed.setIfInBounds i true) w →
      wpAnyS P ops Q T ((i, hps) :: H) fuel (listed.setIfInBounds i true) (a.put oi.dst v) w → wpAnyS P ops Q T H (fuel + 1) listed a w := by
  have less : ∀ (H : List (Nat × List HB)) (fuel : Nat) (listed : Array Bool) (a : Act) (w : World), wpAnyS P ops Q T ((i, hps) :: H) fuel listed a w → wpAnyS P ops Q T H fuel listed a w := by
    intro H fuel
    induction fuel with
    | zero => exact fun _ _ _ h => h
    | succ n ih => exact fun listed a w h => ⟨h.1, fun j hj => wpOp_mono (fun a' w' h' => ⟨h'.1.less, ih _ _ _ h'.2⟩) (h.2 j hj)⟩
  intro fuel
  induction fuel with
  | zero =>
    intro H listed a w _ _ hr hy hC hS h
    refine ⟨fun h => (by rw [h] at hr; cases hr), fun j hj => ?_⟩
    by_cases hji : j = i
    · subst hji; exact hy.wpOp hi hC ⟨hS.less, less _ _ _ _ _ h⟩
    · have := ready_mono hj hji
      rw [h.1] at this
      cases this
  | succ fuel ih =>
    intro H listed a w hdn hfree hr hy hC hS h
    refine ⟨fun h => (by rw [h] at hr; cases hr), fun j hj => ?_⟩
    by_cases hji : j = i
    · subst hji; exact hy.wpOp hi hC ⟨hS.less, less _ _ _ _ _ h⟩
    · have h1 := h.2 j (ready_mono hj hji)
      obtain ⟨hjun, oj, hoj, hall⟩ := mem_ready.1 hj
      have hun := (mem_ready.1 hr).1
      have hnot : ∀ e ∈ oj.after, Region.binds .any e = true → e.on ≠ i := fun e he hb heq => by
        have h1 := hall e he hb
        rw [heq, getD_both hun] at h1
        cases h1
      have h2 := wpOp_putIf hoj (hfree j oj hoj hji hjun hnot) (fun cs b => hsel i oi cs b hi) (fun cs b => hsel j oj cs b hoj) (fun c a w hq => absurd hq (hQ _ _ _)) hy h1
      have hfree' : freeAt ops (listed.setIfInBounds j true) i oi := hfree.mono fun k hk => unl_mono hk
      have hcomm : (listed.setIfInBounds i true).setIfInBounds j true = (listed.setIfInBounds j true).setIfInBounds i true := Array.setIfInBounds_comm _ _ (Ne.symm hji)
      refine wpOp_mono (fun a' w' h3 => ?_) h2
      obtain ⟨hy', hS', h4⟩ := h3
      rw [hcomm] at hS' h4
      have hun' : (listed.setIfInBounds j true).getD i true = false := by rw [getD_set_ne true hji]; exact hun
      have hdn' := hdn.set hj
      have hC' : ∀ b ∈ hps, b.ok w' := by
        refine hS' (i, hps) (List.mem_cons_self ..) fun k hk hkl hkT => ?_
        · have hki : k ≠ i := fun e => by subst e; rw [hT] at hkT; cases hkT
          rw [getD_set_ne false (Ne.symm hki)] at hkl
          have hok := Array.getElem?_eq_getElem hk
          exact no_path hdn' (getD_both hun') hok fun e he hb => hdn'.2 k _ hok hkl e he hb
      exact ⟨(hS'.less).drop hT, ih H (listed.setIfInBounds j true) a' w' hdn' hfree' (ready_mono hr (Ne.symm hji)) hy' hC' hS' h4⟩
theorem SS.grow {T : List Nat} {H H' : List (Nat × List HB)} {L : Array Bool} {w : World} (hd : ∀ x ∈ H, x ∈ H' ∨ ∃ k, k < ops.size ∧ L.getD k false = true ∧ T.contains k = false ∧ ((msks ops.toList []).getD k 0).testBit x.1 = true) (h : SS ops T H' L w) : SS ops T H L w := fun x hx hno => by
  rcases hd x hx with h1 | ⟨k, h1, h2, h3, h4⟩
  · exact h x h1 hno
  · have := hno k h1 h2 h3
    rw [h4] at this; cases this
theorem wpAnyS.grow {T : List Nat} {H H' : List (Nat × List HB)} : ∀ (fuel : Nat) (L : Array Bool) (a : Act) (w : World), (∀ x ∈ H, x ∈ H' ∨ ∃ k, k < ops.size ∧ L.getD k false = true ∧ T.contains k = false ∧ ((msks ops.toList []).getD k 0).testBit x.1 = true) →
    wpAnyS P ops Q T H' fuel L a w → wpAnyS P ops Q T H fuel L a w
  | 0, _, _, _, _, h => h
  | n + 1, L, a, w, hd, h => ⟨h.1, fun j hj => wpOp_mono (fun a' w' h' => by
      have hd' : ∀ x ∈ H, x ∈ H' ∨ ∃ k, k < ops.size ∧ (L.setIfInBounds j true).getD k false = true ∧ T.contains k = false ∧ ((msks ops.toList []).getD k 0).testBit x.1 = true := fun x hx =>
        (hd x hx).imp id fun ⟨k, h1, h2, h3⟩ => ⟨k, h1, getD_set_true h2, h3⟩
      exact ⟨SS.grow hd' h'.1, wpAnyS.grow n _ a' w' hd' h'.2⟩) (h.2 j hj)⟩
/-- What is left of a region, ls having come, T taken first, H held. -/
def RS (P : Program) (ops : Array Oper) (Q : Exit → Act → World → Prop) (T : List Nat) (H : List (Nat × List HB)) (ls : List Nat) (a : Act) (w : World) : Prop := wpAnyS P ops Q T H (ops.size - ls.length) (listedOf ops.size ls) a w
theorem RG_of_RS {T : List Nat} {H : List (Nat × List HB)} {ls : List Nat} {a : Act} {w : World} (h : RS P ops Q T H ls a w) : RG P ops Q ls a w := wpAny_of_S _ _ _ _ h
theorem RS_done {T : List Nat} {H : List (Nat × List HB)} {ls : List Nat} {a : Act} {w : World} (h : Plan.ok ops ls .done = true) (hq : Q .normal a w) : RS P ops Q T H ls a w := by
  have hr : Region.ready .any ops (listedOf ops.size ls) = [] := by simpa [Plan.ok] using h
  unfold RS
  cases ops.size - ls.length with
  | zero => exact ⟨hr, hq⟩
  | succ n => exact ⟨fun _ => hq, by rw [hr]; simp⟩
theorem RS_take {T : List Nat} {H : List (Nat × List HB)} {ls : List Nat} {a : Act} {w : World} {i : Nat} {p : Plan} {o : Oper} {v : Value} {hps : List HB} (hT : T.contains i = true) (hsel : Region.noSelect ops = true) (hQ : ∀ c a w, ¬ Q (.panic c) a w)
    (hdn : Down ops (listedOf ops.size ls)) (h : Plan.ok ops ls (.pure i p) = true) (ho : ops[i]? = some o) (hy : Go.YieldsIf P ops (fun w => ∀ b ∈ hps, b.ok w) o v a) (hC : ∀ b ∈ hps, b.ok w)
    (hS : SS ops T H (listedOf ops.size ls) w) (hr : SS ops T ((i, hps) :: H) (listedOf ops.size (ls ++ [i])) w → RS P ops Q T ((i, hps) :: H) (ls ++ [i]) (a.put o.dst v) w) : RS P ops Q T H ls a w := by
  simp only [Plan.ok, Bool.and_eq_true, decide_eq_true_eq] at h
  obtain ⟨h1, h2, h3, h4⟩ := h
  unfold RS at hr ⊢
  have h2' : i ∈ Region.ready .any ops (listedOf ops.size ls) := by simpa using h2
  have hS' : SS ops T ((i, hps) :: H) ((listedOf ops.size ls).setIfInBounds i true) w := fun x hx hxd => by
    rcases List.mem_cons.1 hx with rfl | hx
    · exact hC
    · exact hS x hx fun k hk h5 h6 => hxd k hk (getD_set_true h5) h6
  rw [← listedOf_set] at hr
  rw [show ops.size - ls.length = (ops.size - (ls ++ [i]).length) + 1 by simp; omega]
  exact wpAnyS_first ho hT (Region.noSelect_spec hsel) hQ _ _ _ _ _ hdn (Region.free_spec ho h3) h2' hy hC hS' (hr hS')
theorem RS_all {T : List Nat} {H : List (Nat × List HB)} {ls : List Nat} {a : Act} {w : World} {rs : List Nat} (hl : ls.length < ops.size) (hrs : Region.ready .any ops (listedOf ops.size ls) = rs) (hne : rs ≠ [])
    (h : ∀ i ∈ rs, wpOp P ops Q i (fun a w => SS ops T H (listedOf ops.size (ls ++ [i])) w ∧ RS P ops Q T H (ls ++ [i]) a w) a w) : RS P ops Q T H ls a w := by
  unfold RS
  rw [show ops.size - ls.length = (ops.size - (ls.length + 1)) + 1 by omega]
  refine ⟨fun h0 => absurd (hrs ▸ h0) hne, fun i hi => ?_⟩
  rw [hrs] at hi
  have := h i hi
  unfold RS at this
  rw [listedOf_set]
  simpa using this
end
end
end Go.Sy
