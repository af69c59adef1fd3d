/-
  FieldCrosses: Crossing, Rows and Parity of the program are those of the reference; what crosses all lines is the momentum; a step of a grid with even sides exchanges the parities.
-/
import Derived.Test.YtbjgdlmiofgdnaaSyK
import Derived.ProofKit
import Derived.Deep.Slices
import Derived.Test.YtbjgdlmiofgdnaaXFieldCrossesB
import Derived.Test.YtbjgdlmiofgdnaaRows
set_option linter.unusedSimpArgs false
set_option linter.unusedVariables false
namespace Go.Sy
open Go.RowKit Go.ChangeShapes Go.WideShapes Go.ChangeAt
theorem mapM_some {α β : Type} {f : α → Option β} : ∀ {l : List α} {ys : List β}, l.mapM f = some ys → ∀ x ∈ l, ∃ y, f x = some y
  | [], _, _, x, hx => by cases hx
  | a :: l, ys, h, x, hx => by
    simp only [List.mapM_cons, Option.bind_eq_bind, Option.pure_def] at h
    cases ha : f a with
    | none => simp [ha] at h
    | some y =>
      cases hl : l.mapM f with
      | none => simp [ha, hl] at h
      | some zs =>
        rcases List.mem_cons.1 hx with rfl | hx
        · exact ⟨y, ha⟩
        · exact mapM_some hl x hx
def fldN (P : Program) (g : TypeId → Option Nat) : List Field → Nat → Option Nat
  | [], i => some i
  | f :: fs, i => match g f.type with
    | some m => if f.offset = i ∧ P.cellsOf f.type = m then fldN P g fs (i + m) else none
    | none => none
def intsN (P : Program) : Nat → TypeId → Option Nat
  | 0, _ => none
  | d + 1, t => match P.underlying t with
    | some (.int .i64) => some 1
    | some (.array n e) => match intsN P d e with
      | some m => if P.cellsOf e = m ∧ P.cellsOf t = n * m then some (n * m) else none
      | none => none
    | some (.struct fs) => match fldN P (intsN P d) fs.toList 0 with
      | some n => if P.cellsOf t = n then some n else none
      | none => none
    | _ => none
def IsInt (v : Value) : Prop := ∃ a : Int, v = .int .i64 a ∧ I64 a
theorem wf_I64 {n : Int} (h : (Lit.int .i64 n).wf = true) : I64 n := by
  simp only [Lit.wf, Bool.and_eq_true, decide_eq_true_eq] at h
  exact ⟨by have := h.1; simpa [IntKind.min, IntKind.signed, IntKind.bits] using this, by have := h.2; simpa [IntKind.max, IntKind.signed, IntKind.bits] using this⟩
section
variable {H : Type} {enc : TypeId × Value → H} {P : Program} {w : World} {base : Nat} {spare : Nat → Bool} {held : Bool}
theorem fldN_ints {g : TypeId → Option Nat} {fuel : Nat} {cs : List Value} (hg : ∀ t n, g t = some n → ∀ cs (x : DataW H × List MemPlace), DataW.trod enc P w base spare held fuel t cs = some x → ∀ v ∈ cs, IsInt v) :
    ∀ {fs : List Field} {i n : Nat}, fldN P g fs i = some n → (∀ f ∈ fs, ∃ y, DataW.trod enc P w base spare held fuel f.type ((cs.drop f.offset).take (P.cellsOf f.type)) = some y) →
      ∀ j v, i ≤ j → j < n → cs[j]? = some v → IsInt v
  | [], i, n, h, _, j, v, h1, h2, _ => by simp [fldN] at h; omega
  | f :: fs, i, n, h, hy, j, v, h1, h2, hv => by
    unfold fldN at h
    split at h
    · rename_i m hm
      split at h
      · rename_i hof
        by_cases hj : j < i + m
        · obtain ⟨y, hyf⟩ := hy f (by simp)
          refine hg _ _ hm _ _ hyf v (List.mem_iff_getElem?.2 ⟨j - i, ?_⟩)
          rw [hof.1, hof.2, List.getElem?_take, if_pos (by omega), List.getElem?_drop, show i + (j - i) = j by omega]
          exact hv
        · exact fldN_ints hg h (fun f hf => hy f (by simp [hf])) j v (by omega) h2 hv
      · cases h
    · cases h
theorem trod_ints : ∀ (d : Nat) (t : TypeId) (n : Nat), intsN P d t = some n → ∀ (fuel : Nat) (cs : List Value) (x : DataW H × List MemPlace), DataW.trod enc P w base spare held fuel t cs = some x →
    cs.length = n ∧ ∀ v ∈ cs, IsInt v
  | 0, t, n, h, _, _, _, _ => by simp [intsN] at h
  | d + 1, t, n, h, fuel, cs, x, hx => by
    cases fuel with
    | zero => simp [DataW.trod] at hx
    | succ fuel =>
    unfold intsN at h
    split at h
    · rename_i hu
      cases h
      obtain ⟨a, rfl, _, hw⟩ := DataW.trod_int hu hx
      exact ⟨rfl, fun v hv => by rw [List.mem_singleton] at hv; subst hv; exact ⟨a, rfl, wf_I64 hw⟩⟩
    · rename_i k e hu
      split at h
      · rename_i m hm
        split at h
        · rename_i hc
          cases h
          unfold DataW.trod at hx
          simp only [hu] at hx
          split at hx
          · rename_i hl
            refine ⟨by rw [hl, hc.2], fun v hv => ?_⟩
            cases hmp : (List.range k).mapM fun i => DataW.trod enc P w base spare held fuel e ((cs.drop (i * P.cellsOf e)).take (P.cellsOf e)) with
            | none => simp [hmp] at hx
            | some ys =>
              obtain ⟨j, hj⟩ := List.mem_iff_getElem?.1 hv
              have hjl : j < cs.length := (List.getElem?_eq_some_iff.1 hj).1
              rw [hl, hc.2] at hjl
              have hm0 : 0 < m := by
                rcases Nat.eq_zero_or_pos m with h0 | h0
                · subst h0; simp at hjl
                · exact h0
              have hi : j / m < k := by rw [Nat.div_lt_iff_lt_mul hm0]; exact hjl
              obtain ⟨y, hy⟩ := mapM_some hmp (j / m) (List.mem_range.2 hi)
              obtain ⟨_, hall⟩ := trod_ints d e m hm fuel _ y hy
              refine hall v (List.mem_iff_getElem?.2 ⟨j % m, ?_⟩)
              rw [hc.1, List.getElem?_take, if_pos (Nat.mod_lt _ hm0), List.getElem?_drop, show j / m * m + j % m = j by rw [Nat.mul_comm]; exact Nat.div_add_mod j m]
              exact hj
          · cases hx
        · cases h
      · cases h
    · rename_i fs hu
      split at h
      · rename_i m hm
        split at h
        · rename_i hc
          cases h
          unfold DataW.trod at hx
          simp only [hu] at hx
          split at hx
          · rename_i hl
            refine ⟨by rw [hl, hc], fun v hv => ?_⟩
            cases hmp : fs.toList.mapM fun f => DataW.trod enc P w base spare held fuel f.type ((cs.drop f.offset).take (P.cellsOf f.type)) with
            | none => simp [hmp] at hx
            | some ys =>
              obtain ⟨j, hj⟩ := List.mem_iff_getElem?.1 hv
              have hjl : j < cs.length := (List.getElem?_eq_some_iff.1 hj).1
              refine fldN_ints (fun t n hg cs x hx => (trod_ints d t n hg fuel cs x hx).2) hm (fun f hf => mapM_some hmp f hf) j v (Nat.zero_le _) (by omega) hj
          · cases hx
        · cases h
      · cases h
    · cases h
end
theorem trodAll_length {H : Type} {enc : TypeId × Value → H} {P : Program} {w : World} {base : Nat} {spare : Nat → Bool} {held : Bool} : ∀ {ts : List TypeId} {vs : List Value} {ds : List (DataW H)} {ps : List MemPlace},
    DataW.TrodAll enc P w base spare held ts vs ds ps → ds.length = ts.length
  | [], vs, ds, ps, h => by obtain ⟨_, rfl, _⟩ := trodAll_nil h; rfl
  | t :: ts, vs, ds, ps, h => by
    obtain ⟨v, vs', d, ds', p, q, rfl, rfl, rfl, _, h⟩ := trodAll_cons h
    simp [trodAll_length h]
theorem trodAll_below {H : Type} {enc : TypeId × Value → H} {P : Program} (hl : laidOutB P = true) {W W' : World} (hb : Below W.heap.size W W') :
    ∀ {ts : List TypeId} {vs : List Value} {ds : List (DataW H)} {ps : List MemPlace}, (ts.all fun t => P.readableRec t && decide (t < P.types.size)) = true →
      DataW.TrodAll enc P W 0 (fun _ => true) true ts vs ds ps → (∀ x ∈ ps, x.block < W.heap.size) → DataW.TrodAll enc P W' 0 (fun b => decide (b < W.heap.size)) true ts vs ds ps
  | [], vs, ds, ps, _, h, _ => by obtain ⟨rfl, rfl, rfl⟩ := trodAll_nil h; rfl
  | t :: ts, vs, ds, ps, hr, h, hlt => by
    obtain ⟨v, vs', d, ds', p, q, rfl, rfl, rfl, h1, h2⟩ := trodAll_cons h
    simp only [List.all_cons, Bool.and_eq_true, decide_eq_true_eq] at hr
    exact ⟨p, q, Below.trod hl hr.1.1 hr.1.2 h1 hb fun x hx => hlt x (List.mem_append.2 (.inl hx)),
      trodAll_below hl hb (by simpa using hr.2) h2 fun x hx => hlt x (List.mem_append.2 (.inr hx)), rfl⟩
theorem law_step {H : Type} {enc : TypeId × Value → H} {P : Program} {f : Func} {s : ChangeSpec} {W W' : World} {args : Array Value} {ds gs : List (DataW H)} {before : List MemPlace} {tb : TypeId}
    (hl : laidOutB P = true) (hr : (f.params.toList.all fun t => P.readableRec t && decide (t < P.types.size)) = true) (hrt : f.resultTypes = #[tb]) (htb : P.underlying tb = some .bool)
    (hs : s.vars = []) (hfn : ∀ ds : List (DataW H), ds.length = f.params.size → (s.fn H ds).results = [.lit (.bool true)] ∧ (s.fn H ds).args = ds ∧ (s.fn H ds).vars = [])
    (hW : DataW.Whole enc P f.params.toList s.vars false W args.toList ds gs before) (hb : Below W.heap.size W W') : s.post enc P f false true false false W args (.bool true) W' := by
  have hlt : ∀ p ∈ before, p.block < W.heap.size := fun p hp => hW.lt p hp
  have hW0 := hW
  obtain ⟨p, q, hA, hV, rfl, _, _⟩ := hW
  rw [hs] at hV
  obtain ⟨rfl, rfl⟩ := trodVars_none hV
  simp only [List.append_nil] at hlt hW0
  have hlen := trodAll_length hA
  obtain ⟨h1, h2, h3⟩ := hfn ds (by rw [hlen]; simp)
  refine ⟨ds, [], p, [], p, [], hW0, ?_, ?_, ?_, World.keptBut_mono (fun x hx => ⟨hx, .inr (.inl hx)⟩) (hb.frame (· ∈ p)), fun h => by cases h⟩
  · rw [List.append_nil, h1, hrt]
    exact trodAll_mk1 (shut_bool htb true)
  · rw [List.append_nil, h2]
    exact trodAll_below hl hb hr hA hlt
  · rw [List.append_nil, h3, hs]
    rfl
end Go.Sy
namespace Go.Sy
open Go.RowKit Go.ChangeShapes Go.WideShapes Go.ChangeAt
inductive Shp where
  | int
  | str
  | sl (n : Nat)
def shpF (P : Program) (g : TypeId → Option (List Shp)) : List Field → Nat → Option (List Shp)
  | [], _ => some []
  | f :: fs, i => match g f.type with
    | some l => if f.offset = i ∧ P.cellsOf f.type = l.length then (match shpF P g fs (i + l.length) with | some r => some (l ++ r) | none => none) else none
    | none => none
def shpT (P : Program) : Nat → TypeId → Option (List Shp)
  | 0, _ => none
  | d + 1, t => match intsN P 8 t with
    | some n => some (List.replicate n .int)
    | none => match P.underlying t with
      | some .string => some [.str]
      | some (.slice e) => match intsN P 8 e with
        | some n => if P.cellsOf e = n ∧ 0 < n then some [.sl n] else none
        | none => none
      | some (.struct fs) => match shpF P (shpT P d) fs.toList 0 with
        | some l => if P.cellsOf t = l.length then some l else none
        | none => none
      | _ => none
def OpC (w : World) : Shp → Value → Prop
  | .int, v => IsInt v
  | .str, v => ∃ s, v = .string s ∧ s.size ≤ maxLen
  | .sl n, v => v = .slice none 0 0 ∨ ∃ (a : Addr) (len cap : Nat), v = .slice (some a) len cap ∧ len ≤ cap ∧ cap ≤ maxLen ∧ ∀ j, j < len * n → ∃ k : Int, w.cell? (a.add j) = some (.int .i64 k) ∧ I64 k
section
variable {H : Type} {enc : TypeId × Value → H} {P : Program} {w : World} {base : Nat} {spare : Nat → Bool} {held : Bool}
theorem cells?_get {a : Addr} : ∀ {n : Nat} {cs : List Value}, w.cells? base a n = some cs → cs.length = n ∧ ∀ j, j < n → w.cell? (a.add j) = cs[j]? := by
  intro n cs h
  unfold World.cells? at h
  split at h
  · have key : ∀ (l : List Nat) (cs : List Value), (l.mapM fun i => w.cell? (a.add i)) = some cs → cs.length = l.length ∧ ∀ j, j < l.length → w.cell? (a.add (l.getD j 0)) = cs[j]? := by
      intro l
      induction l with
      | nil => intro cs h; simp at h; subst h; exact ⟨rfl, fun j hj => by simp at hj⟩
      | cons x l ih =>
        intro cs h
        simp only [List.mapM_cons, Option.bind_eq_bind, Option.pure_def] at h
        cases hx : w.cell? (a.add x) with
        | none => simp [hx] at h
        | some y =>
          cases hl : (l.mapM fun i => w.cell? (a.add i)) with
          | none => simp [hx, hl] at h
          | some zs =>
            simp [hx, hl] at h
            subst h
            obtain ⟨h1, h2⟩ := ih zs hl
            refine ⟨by simp [h1], fun j hj => ?_⟩
            cases j with
            | zero => simpa using hx
            | succ j => simpa using h2 j (by simpa using hj)
    obtain ⟨h1, h2⟩ := key _ _ h
    refine ⟨by simpa using h1, fun j hj => ?_⟩
    have := h2 j (by simpa using hj)
    simpa [List.getD, hj] using this
  · cases h
theorem trod_sl {t e : TypeId} {fuel n : Nat} {cs : List Value} {x : DataW H × List MemPlace} (ht : P.underlying t = some (.slice e)) (hn : intsN P 8 e = some n) (hc : P.cellsOf e = n) (h0 : 0 < n)
    (h : DataW.trod enc P w base spare held fuel t cs = some x) : ∃ v, cs = [v] ∧ OpC w (.sl n) v := by
  rcases Go.Deep.open_slice ht h with ⟨rfl, _⟩ | ⟨a, len, cap, m, k, D, Pl, rfl, hb, hl, hm, hmm, _, hx⟩
  · exact ⟨_, rfl, .inl rfl⟩
  · refine ⟨_, rfl, .inr ⟨a, len, cap, rfl, hl, hm, fun j hj => ?_⟩⟩
    have hi : j / n < len := by rw [Nat.div_lt_iff_lt_mul h0]; exact hj
    have him : j / n < m := by rw [hmm]; split <;> omega
    obtain ⟨cs', h1, h2⟩ := hx (j / n) him
    obtain ⟨hl', hall⟩ := trod_ints 8 e n hn k cs' _ h2
    rw [hc] at h1
    obtain ⟨_, hget⟩ := cells?_get h1
    have hd : j % n < n := Nat.mod_lt _ h0
    have := hget (j % n) hd
    rw [Go.Deep.add_add, show j / n * n + j % n = j by rw [Nat.mul_comm]; exact Nat.div_add_mod j n] at this
    rw [List.getElem?_eq_getElem (by omega)] at this
    obtain ⟨z, hz, hz2⟩ := hall (cs'[j % n]'(by omega)) (List.getElem_mem _)
    exact ⟨z, by rw [this, hz], hz2⟩
theorem shpF_ok {g : TypeId → Option (List Shp)} {fuel : Nat} {cs : List Value} (hg : ∀ t l, g t = some l → ∀ cs (x : DataW H × List MemPlace), DataW.trod enc P w base spare held fuel t cs = some x → cs.length = l.length ∧ ∀ (i : Nat) s v, l[i]? = some s → cs[i]? = some v → OpC w s v) :
    ∀ {fs : List Field} {i : Nat} {l : List Shp}, shpF P g fs i = some l → (∀ f ∈ fs, ∃ y, DataW.trod enc P w base spare held fuel f.type ((cs.drop f.offset).take (P.cellsOf f.type)) = some y) →
      ∀ (j : Nat) s v, l[j]? = some s → cs[i + j]? = some v → OpC w s v
  | [], i, l, h, _, j, s, v, h1, _ => by simp [shpF] at h; subst h; simp at h1
  | f :: fs, i, l, h, hy, j, s, v, h1, hv => by
    unfold shpF at h
    split at h
    · rename_i l1 hl1
      split at h
      · rename_i hof
        split at h
        · rename_i r hr
          simp at h
          subst h
          by_cases hj : j < l1.length
          · obtain ⟨y, hyf⟩ := hy f (by simp)
            obtain ⟨_, hall⟩ := hg _ _ hl1 _ _ hyf
            refine hall j s v (by rwa [List.getElem?_append_left hj] at h1) ?_
            rw [hof.1, hof.2, List.getElem?_take, if_pos hj, List.getElem?_drop]
            exact hv
          · refine shpF_ok hg hr (fun f hf => hy f (by simp [hf])) (j - l1.length) s v (by rwa [List.getElem?_append_right (by omega)] at h1) ?_
            rwa [show i + l1.length + (j - l1.length) = i + j by omega]
        · cases h
      · cases h
    · cases h
theorem trod_shp : ∀ (d : Nat) (t : TypeId) (l : List Shp), shpT P d t = some l → ∀ (fuel : Nat) (cs : List Value) (x : DataW H × List MemPlace), DataW.trod enc P w base spare held fuel t cs = some x →
    cs.length = l.length ∧ ∀ (i : Nat) s v, l[i]? = some s → cs[i]? = some v → OpC w s v
  | 0, t, l, h, _, _, _, _ => by simp [shpT] at h
  | d + 1, t, l, h, fuel, cs, x, hx => by
    unfold shpT at h
    split at h
    · rename_i n hn
      simp at h
      subst h
      obtain ⟨h1, h2⟩ := trod_ints 8 t n hn fuel cs x hx
      refine ⟨by simpa using h1, fun i s v hs hv => ?_⟩
      have : s = .int := by
        rw [List.getElem?_replicate] at hs
        split at hs
        · simpa using hs.symm
        · cases hs
      subst this
      exact h2 v (List.mem_of_getElem? hv)
    · split at h
      · rename_i hu
        simp at h
        subst h
        cases fuel with
        | zero => simp [DataW.trod] at hx
        | succ fuel =>
          unfold DataW.trod at hx
          simp only [hu] at hx
          split at hx <;> first | (rename_i heq; cases heq; done) | skip
          all_goals first | (simp at hx; done) | skip
          all_goals (rename_i heq; try (cases heq))
          all_goals (split at hx)
          all_goals first | (cases hx; done) | (refine ⟨rfl, fun i s v hs hv => ?_⟩; match i, hs, hv with | 0, hs, hv => (simp at hs hv; subst hs; subst hv; exact ⟨_, rfl, by assumption⟩) | i + 1, hs, hv => (simp at hs))
      · rename_i e hu
        split at h
        · rename_i n hn
          split at h
          · rename_i hc
            simp at h
            subst h
            obtain ⟨v, rfl, ho⟩ := trod_sl hu hn hc.1 hc.2 hx
            refine ⟨rfl, fun i s u hs hv => ?_⟩
            match i, hs, hv with
            | 0, hs, hv => simp at hs hv; subst hs; subst hv; exact ho
            | i + 1, hs, hv => simp at hs
          · cases h
        · cases h
      · rename_i fs hu
        split at h
        · rename_i l' hl'
          split at h
          · rename_i hc
            simp at h
            subst h
            cases fuel with
            | zero => simp [DataW.trod] at hx
            | succ fuel =>
            unfold DataW.trod at hx
            simp only [hu] at hx
            split at hx
            · rename_i hlen
              refine ⟨by rw [hlen, hc], fun i s v hs hv => ?_⟩
              cases hmp : fs.toList.mapM fun f => DataW.trod enc P w base spare held fuel f.type ((cs.drop f.offset).take (P.cellsOf f.type)) with
              | none => simp [hmp] at hx
              | some ys => exact shpF_ok (fun t l hl cs x hx => trod_shp d t l hl fuel cs x hx) hl' (fun f hf => mapM_some hmp f hf) i s v hs (by rwa [Nat.zero_add])
            · cases hx
          · cases h
        · cases h
      · cases h
theorem okCell_spot {r : Reach} {b0 : Nat} {t : TypeId} {a : Addr} {len cap : Nat} (h : Cell.okWide P w r b0 t (.slice (some a) len cap)) : a.spot = none := by
  unfold Cell.okWide at h
  split at h <;> first | (rename_i heq; cases heq; done) | skip
  all_goals try (rename_i heq _; cases heq; done)
  unfold Cell.ok at h
  split at h <;> first | (rename_i heq; cases heq; done) | skip
  all_goals first | exact h.elim | skip
  all_goals (rename_i heq; cases heq; exact h.2.2.2.1)
theorem ok_spot {r : Reach} {b0 : Nat} {t : TypeId} {v : Value} (h : Value.okWide P w r b0 t v) : ∀ (i : Nat) (a : Addr) (len cap : Nat), v.cells[i]? = some (.slice (some a) len cap) → a.spot = none := by
  intro i a len cap hi
  have row : ∀ {cs : Array Value}, Row.okWide P w r b0 t cs → cs[i]? = some (.slice (some a) len cap) → a.spot = none := by
    intro cs ⟨ts, _, _, h⟩ hc
    obtain ⟨u, _, hu⟩ := h i _ hc
    exact okCell_spot hu
  unfold Value.okWide at h
  split at h
  · obtain ⟨cs, rfl, _, h⟩ := h; exact row h hi
  · obtain ⟨cs, rfl, _, h⟩ := h; exact row h hi
  · rename_i h1 h2
    have : v = .slice (some a) len cap ∨ ∃ cs, v = .agg cs := by
      cases v with
      | agg cs => exact .inr ⟨cs, rfl⟩
      | _ =>
        simp only [Value.cells] at hi
        match i, hi with
        | 0, hi => left; first | (simp at hi; done) | simpa using hi
        | i + 1, hi => simp at hi
    rcases this with rfl | ⟨cs, rfl⟩
    · exact okCell_spot h
    · exfalso
      unfold Cell.okWide at h
      split at h <;> first | (rename_i heq; cases heq; done) | skip
      all_goals try (rename_i heq _; cases heq; done)
      unfold Cell.ok at h
      split at h <;> first | (rename_i heq; cases heq; done) | exact h
end
structure SlA (w : World) (n : Nat) (v : Value) (a : Option Nm) (len cap : Nat) : Prop where
  eq : v = den (.sl 0 a 0 n len cap)
  pos : 0 < len → a.isSome = true
  le : len ≤ cap
  max : cap ≤ 9223372036854775807
  cell : ∀ nm, a = some nm → ∀ j, j < len * n → ∃ k : Int, w.cell? ⟨nm.g, nm.b + j, none⟩ = some (.int .i64 k) ∧ I64 k
theorem OpC.sl {w : World} {n : Nat} {v : Value} (h : OpC w (.sl n) v) (hs : ∀ a len cap, v = .slice (some a) len cap → a.spot = none) : ∃ a len cap, SlA w n v a len cap := by
  rcases h with rfl | ⟨a, len, cap, rfl, h1, h2, h3⟩
  · exact ⟨none, 0, 0, rfl, fun h => by omega, by omega, by omega, fun nm h => by cases h⟩
  · have := hs a len cap rfl
    obtain ⟨g, b, s⟩ := a
    simp only at this
    subst this
    refine ⟨some ⟨g, b⟩, len, cap, by simp [den], fun _ => rfl, h1, by simpa [maxLen] using h2, fun nm he j hj => ?_⟩
    cases he
    have := h3 j hj
    rwa [Go.WideShapes.add_plain] at this
def numAt (w : World) (a : Option Nm) (j : Nat) : Int :=
  match a with
  | some nm => match w.cell? ⟨nm.g, nm.b + j, none⟩ with
    | some (.int .i64 k) => k
    | _ => 0
  | none => 0
theorem SlA.num {w : World} {n : Nat} {v : Value} {a : Option Nm} {len cap : Nat} (h : SlA w n v a len cap) {nm : Nm} (ha : a = some nm) {j : Nat} (hj : j < len * n) :
    w.cell? ⟨nm.g, nm.b + j, none⟩ = some (.int .i64 (numAt w a j)) ∧ I64 (numAt w a j) := by
  obtain ⟨k, h1, h2⟩ := h.cell nm ha j hj
  subst ha
  have : numAt w (some nm) j = k := by simp [numAt, h1]
  rw [this]; exact ⟨h1, h2⟩
theorem SlA.blk {w : World} {n : Nat} {v : Value} {a : Option Nm} {len cap : Nat} (h : SlA w n v a len cap) {c : Cts} (hs : c.s = n) (hl : c.len = len)
    (hr : ∀ k d, k < len → d < n → (c.row k).getD d .und = .int .i64 (numAt w a (k * n + d))) : HB.ok ⟨a, false, .ro, c⟩ w := by
  cases a with
  | none =>
    have h0 : len = 0 := by
      rcases Nat.eq_zero_or_pos len with h' | h'
      · exact h'
      · have := h.pos h'; simp at this
    show c.n = 0
    unfold Cts.n; rw [hl, h0]; simp
  | some nm =>
    intro o ho
    have ho : o < c.n := ho
    obtain ⟨h1, h2, h3, h4⟩ := c.n_at ho
    have hlt : o < len * n := by unfold Cts.n at ho; rw [hl, hs] at ho; exact ho
    rw [(h.num rfl hlt).1]
    show _ = some (den (c.get o))
    unfold Cts.get
    rw [hs] at h2 h3 h4 ⊢
    rw [hl] at h2
    rw [hr _ _ h2 h3, ← h4]; rfl
theorem getD_range {α : Type} {f : Nat → α} {n k : Nat} (d : α) (hk : k < n) : ((List.range n).map f).getD k d = f k := by
  simp [List.getD, hk]
theorem SlA.cx {w : World} {v : Value} {a : Option Nm} {len cap : Nat} (h : SlA w 4 v a len cap) : ∃ cs : List Cel, cs.length = len ∧ HB.ok ⟨a, false, .ro, .cx cs⟩ w :=
  ⟨(List.range len).map fun k => ⟨numAt w a (k * 4), numAt w a (k * 4 + 1), numAt w a (k * 4 + 2), numAt w a (k * 4 + 3)⟩, by simp, h.blk rfl (by simp [Cts.len]) fun k d hk hd => by
    simp only [Cts.row]; rw [getD_range _ hk]
    match d, hd with | 0, _ | 1, _ | 2, _ | 3, _ => rfl⟩
theorem SlA.rx {w : World} {v : Value} {a : Option Nm} {len cap : Nat} (h : SlA w 2 v a len cap) : ∃ cs : List Rul, cs.length = len ∧ HB.ok ⟨a, false, .ro, .rx cs⟩ w :=
  ⟨(List.range len).map fun k => ⟨numAt w a (k * 2), numAt w a (k * 2 + 1)⟩, by simp, h.blk rfl (by simp [Cts.len]) fun k d hk hd => by
    simp only [Cts.row]; rw [getD_range _ hk]
    match d, hd with | 0, _ | 1, _ => rfl⟩
section
variable {H : Type} {enc : TypeId × Value → H} {P : Program} {w : World} {base : Nat} {spare : Nat → Bool} {held : Bool}
theorem open_row {r : Reach} {b0 : Nat} {t : TypeId} {v : Value} {d : DataW H} {ps : List MemPlace} {ss : List Shp} (hn : shpT P 8 t = some ss) (hagg : (match P.underlying t with | some (.struct _) => true | _ => false) = true)
    (hval : Value.okWide P w r b0 t v) (hd : DataW.Trod enc P w base spare held t v d ps) : ∃ vs : List Value, v = .agg vs.toArray ∧ vs.length = ss.length ∧
      ∀ (i : Nat) s u, ss[i]? = some s → vs[i]? = some u → OpC w s u ∧ ∀ a len cap, u = .slice (some a) len cap → a.spot = none := by
  obtain ⟨fuel, hf⟩ := hd
  obtain ⟨hl, hi⟩ := trod_shp 8 t ss hn fuel _ _ hf
  have hsp := ok_spot hval
  have hv : ∃ cs, v = .agg cs := by
    unfold Value.okWide at hval
    split at hagg
    · rename_i fs hu; rw [hu] at hval; obtain ⟨cs, h, _⟩ := hval; exact ⟨cs, h⟩
    · cases hagg
  obtain ⟨cs, rfl⟩ := hv
  simp only [Value.cells] at hi hl hsp
  refine ⟨cs.toList, by simp, hl, fun i s u hs hu => ⟨hi i s u hs hu, fun a len cap he => hsp i a len cap ?_⟩⟩
  subst he
  simpa using hu
theorem open_sl {r : Reach} {b0 : Nat} {t e : TypeId} {n : Nat} {v : Value} {d : DataW H} {ps : List MemPlace} (ht : P.underlying t = some (.slice e)) (hn : intsN P 8 e = some n) (hc : P.cellsOf e = n) (h0 : 0 < n)
    (hval : Value.okWide P w r b0 t v) (hd : DataW.Trod enc P w base spare held t v d ps) : ∃ a len cap, SlA w n v a len cap := by
  obtain ⟨fuel, hf⟩ := hd
  obtain ⟨u, hu, ho⟩ := trod_sl ht hn hc h0 hf
  have hsp := ok_spot hval
  have hv : v = u := by
    cases v with
    | agg cs =>
      exfalso
      unfold Value.okWide at hval
      rw [ht] at hval
      unfold Cell.okWide at hval
      rw [ht] at hval
      unfold Cell.ok at hval
      rw [ht] at hval
      exact hval
    | _ => simpa [Value.cells] using hu
  subst hv
  refine ho.sl fun a len cap he => hsp 0 a len cap ?_
  subst he
  simp [Value.cells]
theorem open_lr {r : Reach} {b0 : Nat} {t e : TypeId} {v : Value} {d : DataW H} {ps : List MemPlace} (ht : P.underlying t = some (.slice e)) (hn : intsN P 8 e = some 2) (hc : P.cellsOf e = 2)
    (hval : Value.okWide P w r b0 t v) (hd : DataW.Trod enc P w base spare held t v d ps) : ∃ (cs : List Rul) (a : Option Nm) (cap : Nat), v = den (.sl 0 a 0 2 cs.length cap) ∧ cs.length ≤ cap ∧ cap ≤ 9223372036854775807 ∧ (0 < cs.length → a.isSome = true) ∧ HB.ok ⟨a, false, .ro, .rx cs⟩ w := by
  obtain ⟨a, len, cap, h⟩ := open_sl ht hn hc (by omega) hval hd
  obtain ⟨cs, rfl, hb⟩ := h.rx
  exact ⟨cs, a, cap, h.eq, h.le, h.max, h.pos, hb⟩
theorem open_grd {r : Reach} {b0 : Nat} {t : TypeId} {v : Value} {d : DataW H} {ps : List MemPlace} (hn : shpT P 8 t = some [.int, .int, .sl 4]) (hagg : (match P.underlying t with | some (.struct _) => true | _ => false) = true)
    (hval : Value.okWide P w r b0 t v) (hd : DataW.Trod enc P w base spare held t v d ps) : ∃ (g : Grd) (a : Option Nm) (cap : Nat), v = den (.agg [.int .i64 g.w, .int .i64 g.h, .sl 0 a 0 4 g.cs.length cap]) ∧ (I64 g.w ∧ I64 g.h ∧ g.cs.length ≤ cap ∧ cap ≤ 9223372036854775807) ∧ (0 < g.cs.length → a.isSome = true) ∧ HB.ok ⟨a, false, .ro, .cx g.cs⟩ w := by
  obtain ⟨vs, rfl, hl, h⟩ := open_row hn hagg hval hd
  match vs, hl with
  | [x, y, z], _ =>
    obtain ⟨x', rfl, hx⟩ := (h 0 _ _ rfl rfl).1
    obtain ⟨y', rfl, hy⟩ := (h 1 _ _ rfl rfl).1
    obtain ⟨h1, h2⟩ := h 2 _ _ rfl rfl
    obtain ⟨a, len, cap, hs⟩ := h1.sl h2
    obtain ⟨cs, rfl, hb⟩ := hs.cx
    exact ⟨⟨x', y', cs⟩, a, cap, by rw [hs.eq]; simp [den, denL], ⟨hx, hy, hs.le, hs.max⟩, hs.pos, hb⟩
end
end Go.Sy
set_option maxRecDepth 100000
namespace Go.Proofs.Ytbjgdlmiofgdnaa
open Go.Sy Go.RowKit
def c_lawH_FieldCrosses : Ctr := fun args hp K => match args with
  | [x0, x1, x2, x3, x4] => g1 x0 hp fun g => i1 x1 fun axis => i1 x2 fun at_ => lr x3 hp fun l => i1 x4 fun t => (g.cs.length ≤ 9223372036854775807 ∧ I64 at_ ∧ l.length ≤ 9223372036854775807 ∧ I64 t) ∧ K (.bool .tt)
  | _ => False
noncomputable def X_lawH_FieldCrosses : Env Try.prog := ⟨Try.f8.ntmps, TT, G78, E27, Try.f8.results.toList, [], TT_ok, okG78, okE27, mixed⟩
set_option maxHeartbeats 16000000 in
theorem k_lawH_FieldCrosses : COk Try.prog 8 c_lawH_FieldCrosses :=
  ctr_of_wk X_lawH_FieldCrosses Try.func8 rfl (by kernel_rfl) rfl rfl fun args hp K hK => by
    unfold c_lawH_FieldCrosses at hK
    split at hK
    · obtain ⟨g, ag, capg, hK1, e0, posg, vwg⟩ := iff_g1 hK; clear hK; have hK := hK1; clear hK1
      obtain ⟨axis, hK1, e1⟩ := iff_i1 hK; clear hK; have hK := hK1; clear hK1
      obtain ⟨at_, hK1, e2⟩ := iff_i1 hK; clear hK; have hK := hK1; clear hK1
      obtain ⟨l, al, capl, hK1, sl⟩ := iff_lr hK; clear hK; have hK := hK1; clear hK1
      have posl : 0 < l.length → al.isSome = true := sl.pos
      obtain ⟨t, hK1, e4⟩ := iff_i1 hK; clear hK; have hK := hK1; clear hK1
      obtain ⟨hpre, hK⟩ := hK
      refine ⟨[.agg [.int .i64 g.w, .int .i64 g.h, .sl 0 ag 0 4 g.cs.length capg], .int .i64 axis, .int .i64 at_, .sl 1 al 0 2 l.length capl, .int .i64 t], [⟨ag, false, .ro, .cx g.cs⟩, ⟨al, false, .ro, .rx l⟩], _, denL_cons (e0) (denL_cons (e1.symm) (denL_cons (e2.symm) (denL_cons (sl.eq) (denL_cons (e4.symm) (rfl))))), ⟨trivial, ⟨trivial, trivial⟩⟩, fun w hw b hb => (by simp only [List.mem_cons, List.not_mem_nil, or_false] at hb; rcases hb with rfl | rfl <;> first | exact vwg w hw | exact sl.ok w hw), hK, Nat.le_of_ble_eq_true rfl, ?_⟩
      clear hK
      rcases crsW g l t with ⟨hB, he, tw, th, hx⟩ | ⟨hB, he, hl, tw, th⟩ | ⟨hB, he, hl, tw, th, hv, hE, hN, h0, h1, b0, b1, s0, s1, hm, hp⟩ <;> (try (have hgb := gok_bds hv; have cb0 := fun (k : Nat) (hk : (k : Int) < g.w) => cross_bd hv (axis := 0) (i := (k : Int)) (.inl rfl) (by simp only [sideN, if_true]; omega); have cb1 := fun (k : Nat) (hk : (k : Int) < g.h) => cross_bd hv (axis := 1) (i := (k : Int)) (.inr rfl) (by simp only [sideN, Int.one_ne_zero, if_false]; omega)))
      all_goals (repeat' (first | ((with_reducible refine wk_ops ?_); (first | (refine Wk.op ?_; intro K' hK') | (refine Wk.step rfl ?_))) | ((with_reducible refine wk_c ?_); (first | (refine Wk.cond ?_; intro KT KF hKT hKF) | (refine Wk.ret ?_) | (refine Wk.step rfl ?_))) | ((fail_if_success (with_reducible refine g_ile ?_)); (fail_if_success (with_reducible refine g_ilt ?_)); (fail_if_success (with_reducible refine g_nle ?_)); (fail_if_success (with_reducible refine g_nlt ?_)); (fail_if_success (with_reducible refine g_ieq ?_)); (fail_if_success (with_reducible refine g_neq ?_)); (first | (with_reducible refine And.intro ?_ ?_) | (with_reducible refine I64_two ?_ ?_) | ((with_reducible intro hq); (try simp only [BF.H, Cel.eta, Rul.eta, Grd.eta, if_true, if_false, Int.toNat_natCast, Nat.add_zero] at hq); (try simp only [Grd.eta, Pnt.eta, hB, he, tw, th, decide_true, decide_eq_true_eq, decide_eq_false_iff_not, not_true_eq_false, not_false_eq_true] at hq); (try (exfalso; (try clear hKT hKF); (try clear hK'); (try clear hP'); (try clear hR'); first | omega | (simp [BF.b] at hq; done)))) | (refine hK' _ _ ?_; clear hK' K') | (refine hKT _ ?_; clear hKT hKF KT KF) | (refine hKF _ ?_; clear hKT hKF KT KF) | (refine Wk.op ?_; intro K' hK') | (refine Wk.cond ?_; intro KT KF hKT hKF) | (refine Wk.ret ?_) | (refine Wk.step rfl ?_) | (refine Wk.inv (X := X_lawH_FieldCrosses) (t := .b 0 :: _) (ι := Nat) (fun k => (k : Int) ≤ g.w) [3, 4, 5, 21, 22, 28, 29] (fun k => [(27, .int .i64 (g.east - crT g 0 k)), (30, .int .i64 (k : Int))]) (fun k => []) (fun k => g.w.toNat - k) ?_; intro K' hK'; ((refine hK' _ ⟨0, ?_, ?_, ?_⟩ ?_) <;> clear hK' K'); rotate_left 3; (intro k hi; have hC : (k : Int) ≤ g.w := hi; clear hi)) | (refine Wk.k (X := X_lawH_FieldCrosses) (t := .b 0 :: _) ⟨k + 1, ?_, ?_, ?_, ?_⟩) | (refine Wk.inv (X := X_lawH_FieldCrosses) (t := .b 2 :: _) (ι := Nat) (fun q => (q : Int) ≤ g.h) [3, 4, 5, 21, 22, 27, 29] (fun q => [(28, .int .i64 (g.north - crT g 1 q)), (34, .int .i64 (q : Int))]) (fun q => []) (fun q => g.h.toNat - q) ?_; intro K' hK'; ((refine hK' _ ⟨0, ?_, ?_, ?_⟩ ?_) <;> clear hK' K'); rotate_left 3; (intro q hi; have hD : (q : Int) ≤ g.h := hi; clear hi)) | (refine Wk.k (X := X_lawH_FieldCrosses) (t := .b 2 :: _) ⟨q + 1, ?_, ?_, ?_, ?_⟩) | (refine Wk.done ?_) | (refine Fin.plain trivial ?_) | ((with_reducible refine top_goal ?_); kernel_rfl) | ((with_reducible refine takes_goal ?_); kernel_rfl) | ((with_reducible refine drop_goal ?_); kernel_rfl) | ((with_reducible refine held_goal ?_); (repeat refine And.intro rfl ?_); exact trivial) | ((with_reducible refine allB_goal ?_); kernel_rfl) | ((with_reducible refine mine_goal ?_); exact mine_of rfl) | ((with_reducible refine withV_goal ?_); refine withV_mk rfl ?_) | ((with_reducible refine hsel_goal ?_); (first | (exact hsel.nil) | (refine hsel.take (HB.like.refl _) (.inr fun _ h => h) ?_) | (refine hsel.take (like_l ?_) (.inl rfl) ?_) | (refine hsel.take (like_cts ?_) (.inl rfl) ?_) | (refine hsel.skip (spare_own rfl rfl) ?_) | (refine hsel.skip spare_ro ?_))) | (refine denL_cons ?_ ?_) | (refine sl_like ?_) | ((with_reducible refine withMC_goal ?_); refine withMC_mk rfl ?_) | (refine And.intro ?_ ?_) | (intro hq; (try simp only [BF.H, Cel.eta, Rul.eta, Grd.eta, if_true, if_false, Int.toNat_natCast, Nat.add_zero] at hq); (try simp only [Grd.eta, Pnt.eta, hB, he, tw, th, decide_true, decide_eq_true_eq, decide_eq_false_iff_not, not_true_eq_false, not_false_eq_true] at hq); (try (exfalso; (try clear hKT hKF); (try clear hK'); (try clear hP'); (try clear hR'); first | omega | (simp [BF.b] at hq; done))))))))
      all_goals (try simp only [Cel.eta, Rul.eta, Grd.eta, Pnt.eta, if_true, if_false, Int.toNat_natCast, Int.toNat_zero, Nat.add_zero, Nat.zero_add])
      all_goals (first | (with_reducible rfl) | (with_reducible exact trivial) | (with_reducible exact splitN_zero) | ((with_reducible refine fsub_goal ?_); exact trivial) | (with_reducible assumption) | ((with_reducible refine ble_goal ?_); rfl) | (with_reducible exact Nat.beq_refl _) | ((with_reducible refine band_goal ?_ ?_); (first | exact Nat.beq_refl _ | rfl | kernel_rfl)) | ((with_reducible refine ble2_goal ?_); (first | rfl | kernel_rfl)) | ((with_reducible refine beq_goal ?_); rfl) | omega | skip)
      all_goals (first | assumption | (with_reducible rfl) | omega | (simp only [Cts.len, List.length_nil]; done) | (simp only [Cts.len, List.length_nil, Int.toNat_natCast, Nat.add_zero, Nat.zero_add]; omega) | exact isSome_of (by assumption) | (simp only [Cts.len, Int.toNat_natCast, Nat.add_zero, Nat.zero_add] at *; first | assumption | omega) | exact int_eq (by omega) | exact cst_eq (by omega) | exact lit_eq (by omega) | exact posg (by omega) | exact opt_getD (posg (by omega)) _ | exact posl (by omega) | exact opt_getD (posl (by omega)) _ | rfl | exact hpre.2.1.1 | exact hpre.2.1.2 | exact hpre.2.2.2.1 | exact hpre.2.2.2.2 | (apply_assumption; assumption) | exact hpre.2.1 | exact hpre.2.2 | exact hpre.2.2.1 | exact hpre.2.2.2 | (unfold I64; omega) | exact int_eq (by rw [crT_next]; omega) | exact int_eq (by simp [crT, sumI]) | (exfalso; have z0 := h0 k (by omega); omega) | (exfalso; have z1 := h1 k (by omega); omega) | (have z0 := cb0 k (by omega); have z1 := b0 k (by omega); have z2 := b0 (k + 1) (by omega); omega) | (have z0 := cb1 k (by omega); have z1 := b1 k (by omega); omega) | (exfalso; have z0 := s0 k (by omega); omega) | (exfalso; have z1 := s1 q (by omega); omega) | (have z1 := cb1 q (by omega); have z2 := b1 q (by omega); omega) | (exfalso; have z1 := h1 q (by omega); omega) | (have hP := hp (by assumption) (by omega) (by omega); simp only [hP.1, hP.2.1, hP.2.2]; simp [Cel.eta, Rul.eta, Grd.eta, den, denL, den_ofConst, BF.b, bfOf, Cel.sv, Rul.sv]; done) | (have hP := hp (by assumption) (by omega) (by omega); simp [Cel.eta, Rul.eta, Grd.eta, den, denL, den_ofConst, BF.b, bfOf, Cel.sv, Rul.sv, hP.1, hP.2.1, hP.2.2]; done) | (exfalso; have hP := hp (by assumption) (by omega) (by omega); simp only [Grd.eta] at *; omega) | (have hrl := run_len g l t 1; omega))
    · exact hK.elim
def G79 : List (Nat × Ctr) := (8, c_lawH_FieldCrosses) :: G78
theorem okG79 : GsOk Try.prog G79 := GsOk.cons k_lawH_FieldCrosses okG78
end Go.Proofs.Ytbjgdlmiofgdnaa
namespace Go.Proofs.Ytbjgdlmiofgdnaa
open Go.Sy Go.RowKit Go.ChangeShapes Go.WideShapes Go.ChangeAt
theorem own : ownKnob Try.prog.godebug = none := by kernel_rfl
theorem laidOut : laidOutB Try.prog = true := by kernel_rfl
set_option maxRecDepth 100000 in
theorem fieldCrosses_lifted (os : Os) (started : os.Started) (H : Type) (enc : TypeId × Value → H) :
    ReturnsInHanded {} Try.checked os 8 .any (Rows.fieldCrossesSpec.pre6 enc Try.prog Try.f8 Rows.fieldCrossesRow.domain false) (Rows.fieldCrossesSpec.post enc Try.prog Try.f8 false true false false) := by
  refine returnsInHanded_of_change (C := Try.checked) own started (by kernel_rfl) Try.func8
    (ChangeSpec.witness6 (enc := enc) (C := Try.checked) false ⟨#[], #[.agg #[.int .i64 0, .int .i64 0, .slice none 0 0], .int .i64 0, .int .i64 0, .slice none 0 0, .int .i64 0], []⟩ 8 (by kernel_rfl) (by kernel_rfl) (by kernel_rfl) (by kernel_rfl)) ?_
  intro W base args ds gs before hval0 hW hcnd _
  have hval : ∀ (j : Nat) t v, Try.f8.params[j]? = some t → args[j]? = some v → Value.okWide Try.prog W .any base t v := hval0
  have hW' := hW
  obtain ⟨p, q, hA0, hV, rfl, hfz, hnd⟩ := hW
  have hA : DataW.TrodAll enc Try.prog W 0 (fun _ => true) true Try.f8.params.toList args.toList ds p := hA0
  rw [Try.params8] at hA hval
  obtain ⟨v0, vs0, d0, ds0, p0, q0, hargs, rfl, rfl, h0, r0⟩ := trodAll_cons hA
  obtain ⟨v1, vs1, d1, ds1, p1, q1, rfl, rfl, rfl, h1, r1⟩ := trodAll_cons r0
  obtain ⟨v2, vs2, d2, ds2, p2, q2, rfl, rfl, rfl, h2, r2⟩ := trodAll_cons r1
  obtain ⟨v3, vs3, d3, ds3, p3, q3, rfl, rfl, rfl, h3, r3⟩ := trodAll_cons r2
  obtain ⟨v4, vs4, d4, ds4, p4, q4, rfl, rfl, rfl, h4, r4⟩ := trodAll_cons r3
  obtain ⟨rfl, rfl, rfl⟩ := trodAll_nil r4
  obtain rfl : args = #[v0, v1, v2, v3, v4] := by apply Array.ext'; exact hargs
  obtain ⟨g, ag, capg, rfl, i_g, posg, b_g⟩ := open_grd (t := 24) (by kernel_rfl) (by kernel_rfl) (hval 0 24 _ rfl rfl) h0
  obtain ⟨axis, rfl, rfl, rfl, wfaxis⟩ := open_int Try.underlying3 (hval 1 3 _ rfl rfl) h1
  have i_axis := wf_I64 wfaxis
  obtain ⟨at_, rfl, rfl, rfl, wfat_⟩ := open_int Try.underlying3 (hval 2 3 _ rfl rfl) h2
  have i_at_ := wf_I64 wfat_
  obtain ⟨l, al, capl, rfl, le_l, mx_l, posl, b_l⟩ := open_lr Try.underlying59 (by kernel_rfl) (by kernel_rfl) (hval 3 59 _ rfl rfl) h3
  obtain ⟨t, rfl, rfl, rfl, wft⟩ := open_int Try.underlying3 (hval 4 3 _ rfl rfl) h4
  have i_t := wf_I64 wft
  obtain ⟨v, hv, hc⟩ := k_lawH_FieldCrosses.get ⟨_, Try.func8, (by kernel_rfl), rfl⟩ [.agg [.int .i64 g.w, .int .i64 g.h, .sl 0 ag 0 4 g.cs.length capg], .int .i64 axis, .int .i64 at_, .sl 1 al 0 2 l.length capl, .int .i64 t] [⟨ag, false, .ro, .cx g.cs⟩, ⟨al, false, .ro, .rx l⟩] (fun v => den v = .bool true) (⟨⟨rfl, rfl, rfl, posg⟩, ⟨⟨rfl, rfl, rfl, posl⟩, ⟨⟨Nat.le_trans i_g.2.2.1 i_g.2.2.2, i_at_, Nat.le_trans le_l mx_l, i_t⟩, rfl⟩⟩⟩)
  refine (hc W (fun _ hb => by simp only [List.mem_cons, List.not_mem_nil, or_false] at hb; rcases hb with rfl | rfl <;> first | exact b_g | exact b_l)).mono fun e W' ⟨he, hb⟩ => ⟨_, by rw [he, hv], law_step (tb := 4) laidOut (by kernel_rfl) rfl Try.underlying4 rfl (fun ds hl => ?_) hW' hb⟩
  match ds, hl with
  | [_, _, _, _, _], _ => exact ⟨rfl, rfl, rfl⟩
theorem fieldCrosses_holds : Rows.FieldCrossesSaid :=
  OpenClaim.holds_of_wide 8 Try.f8 rfl rfl rfl rfl rfl rfl rfl ⟨rfl, rfl, rfl, rfl, rfl⟩ rfl rfl rfl rfl rfl (by kernel_rfl) Try.func8 (by kernel_rfl)
    (of_decide_eq_true (by kernel_rfl)) (by unfold Func.isWrapper; rw [if_neg (of_decide_eq_false (by kernel_rfl))]; exact ⟨rfl, rfl⟩)
    (fun os started H enc _ => fieldCrosses_lifted os started H enc)
#print axioms fieldCrosses_holds
end Go.Proofs.Ytbjgdlmiofgdnaa
