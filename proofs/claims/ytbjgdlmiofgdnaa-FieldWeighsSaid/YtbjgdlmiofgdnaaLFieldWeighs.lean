/-
  FieldWeighs: Weighted of the program is that of the reference; the weighted mean of the densities of a table is the density of the grid.
-/
import Derived.Test.YtbjgdlmiofgdnaaSyK
import Derived.ProofKit
import Derived.Deep.Slices
import Derived.Test.YtbjgdlmiofgdnaaXFieldWeighsB
import Derived.Test.YtbjgdlmiofgdnaaRows
set_option linter.unusedSimpArgs false
set_option linter.unusedVariables false
namespace Go.Sy
open Go.RowKit Go.ChangeShapes Go.WideShapes Go.ChangeAt
theorem mapM_some {α β : Type} {f : α → Option β} : ∀ {l : List α} {ys : List β}, l.mapM f = some ys → ∀ x ∈ l, ∃ y, f x = some y
  | [], _, _, x, hx => by cases hx
  | a :: l, ys, h, x, hx => by
    simp only [List.mapM_cons, Option.bind_eq_bind, Option.pure_def] at h
    cases ha : f a with
    | none => simp [ha] at h
    | some y =>
      cases hl : l.mapM f with
      | none => simp [ha, hl] at h
      | some zs =>
        rcases List.mem_cons.1 hx with rfl | hx
        · exact ⟨y, ha⟩
        · exact mapM_some hl x hx
def fldN (P : Program) (g : TypeId → Option Nat) : List Field → Nat → Option Nat
  | [], i => some i
  | f :: fs, i => match g f.type with
    | some m => if f.offset = i ∧ P.cellsOf f.type = m then fldN P g fs (i + m) else none
    | none => none
def intsN (P : Program) : Nat → TypeId → Option Nat
  | 0, _ => none
  | d + 1, t => match P.underlying t with
    | some (.int .i64) => some 1
    | some (.array n e) => match intsN P d e with
      | some m => if P.cellsOf e = m ∧ P.cellsOf t = n * m then some (n * m) else none
      | none => none
    | some (.struct fs) => match fldN P (intsN P d) fs.toList 0 with
      | some n => if P.cellsOf t = n then some n else none
      | none => none
    | _ => none
def IsInt (v : Value) : Prop := ∃ a : Int, v = .int .i64 a ∧ I64 a
theorem wf_I64 {n : Int} (h : (Lit.int .i64 n).wf = true) : I64 n := by
  simp only [Lit.wf, Bool.and_eq_true, decide_eq_true_eq] at h
  exact ⟨by have := h.1; simpa [IntKind.min, IntKind.signed, IntKind.bits] using this, by have := h.2; simpa [IntKind.max, IntKind.signed, IntKind.bits] using this⟩
section
variable {H : Type} {enc : TypeId × Value → H} {P : Program} {w : World} {base : Nat} {spare : Nat → Bool} {held : Bool}
theorem fldN_ints {g : TypeId → Option Nat} {fuel : Nat} {cs : List Value} (hg : ∀ t n, g t = some n → ∀ cs (x : DataW H × List MemPlace), DataW.trod enc P w base spare held fuel t cs = some x → ∀ v ∈ cs, IsInt v) :
    ∀ {fs : List Field} {i n : Nat}, fldN P g fs i = some n → (∀ f ∈ fs, ∃ y, DataW.trod enc P w base spare held fuel f.type ((cs.drop f.offset).take (P.cellsOf f.type)) = some y) →
      ∀ j v, i ≤ j → j < n → cs[j]? = some v → IsInt v
  | [], i, n, h, _, j, v, h1, h2, _ => by simp [fldN] at h; omega
  | f :: fs, i, n, h, hy, j, v, h1, h2, hv => by
    unfold fldN at h
    split at h
    · rename_i m hm
      split at h
      · rename_i hof
        by_cases hj : j < i + m
        · obtain ⟨y, hyf⟩ := hy f (by simp)
          refine hg _ _ hm _ _ hyf v (List.mem_iff_getElem?.2 ⟨j - i, ?_⟩)
          rw [hof.1, hof.2, List.getElem?_take, if_pos (by omega), List.getElem?_drop, show i + (j - i) = j by omega]
          exact hv
        · exact fldN_ints hg h (fun f hf => hy f (by simp [hf])) j v (by omega) h2 hv
      · cases h
    · cases h
theorem trod_ints : ∀ (d : Nat) (t : TypeId) (n : Nat), intsN P d t = some n → ∀ (fuel : Nat) (cs : List Value) (x : DataW H × List MemPlace), DataW.trod enc P w base spare held fuel t cs = some x →
    cs.length = n ∧ ∀ v ∈ cs, IsInt v
  | 0, t, n, h, _, _, _, _ => by simp [intsN] at h
  | d + 1, t, n, h, fuel, cs, x, hx => by
    cases fuel with
    | zero => simp [DataW.trod] at hx
    | succ fuel =>
    unfold intsN at h
    split at h
    · rename_i hu
      cases h
      obtain ⟨a, rfl, _, hw⟩ := DataW.trod_int hu hx
      exact ⟨rfl, fun v hv => by rw [List.mem_singleton] at hv; subst hv; exact ⟨a, rfl, wf_I64 hw⟩⟩
    · rename_i k e hu
      split at h
      · rename_i m hm
        split at h
        · rename_i hc
          cases h
          unfold DataW.trod at hx
          simp only [hu] at hx
          split at hx
          · rename_i hl
            refine ⟨by rw [hl, hc.2], fun v hv => ?_⟩
            cases hmp : (List.range k).mapM fun i => DataW.trod enc P w base spare held fuel e ((cs.drop (i * P.cellsOf e)).take (P.cellsOf e)) with
            | none => simp [hmp] at hx
            | some ys =>
              obtain ⟨j, hj⟩ := List.mem_iff_getElem?.1 hv
              have hjl : j < cs.length := (List.getElem?_eq_some_iff.1 hj).1
              rw [hl, hc.2] at hjl
              have hm0 : 0 < m := by
                rcases Nat.eq_zero_or_pos m with h0 | h0
                · subst h0; simp at hjl
                · exact h0
              have hi : j / m < k := by rw [Nat.div_lt_iff_lt_mul hm0]; exact hjl
              obtain ⟨y, hy⟩ := mapM_some hmp (j / m) (List.mem_range.2 hi)
              obtain ⟨_, hall⟩ := trod_ints d e m hm fuel _ y hy
              refine hall v (List.mem_iff_getElem?.2 ⟨j % m, ?_⟩)
              rw [hc.1, List.getElem?_take, if_pos (Nat.mod_lt _ hm0), List.getElem?_drop, show j / m * m + j % m = j by rw [Nat.mul_comm]; exact Nat.div_add_mod j m]
              exact hj
          · cases hx
        · cases h
      · cases h
    · rename_i fs hu
      split at h
      · rename_i m hm
        split at h
        · rename_i hc
          cases h
          unfold DataW.trod at hx
          simp only [hu] at hx
          split at hx
          · rename_i hl
            refine ⟨by rw [hl, hc], fun v hv => ?_⟩
            cases hmp : fs.toList.mapM fun f => DataW.trod enc P w base spare held fuel f.type ((cs.drop f.offset).take (P.cellsOf f.type)) with
            | none => simp [hmp] at hx
            | some ys =>
              obtain ⟨j, hj⟩ := List.mem_iff_getElem?.1 hv
              have hjl : j < cs.length := (List.getElem?_eq_some_iff.1 hj).1
              refine fldN_ints (fun t n hg cs x hx => (trod_ints d t n hg fuel cs x hx).2) hm (fun f hf => mapM_some hmp f hf) j v (Nat.zero_le _) (by omega) hj
          · cases hx
        · cases h
      · cases h
    · cases h
end
theorem trodAll_length {H : Type} {enc : TypeId × Value → H} {P : Program} {w : World} {base : Nat} {spare : Nat → Bool} {held : Bool} : ∀ {ts : List TypeId} {vs : List Value} {ds : List (DataW H)} {ps : List MemPlace},
    DataW.TrodAll enc P w base spare held ts vs ds ps → ds.length = ts.length
  | [], vs, ds, ps, h => by obtain ⟨_, rfl, _⟩ := trodAll_nil h; rfl
  | t :: ts, vs, ds, ps, h => by
    obtain ⟨v, vs', d, ds', p, q, rfl, rfl, rfl, _, h⟩ := trodAll_cons h
    simp [trodAll_length h]
theorem trodAll_below {H : Type} {enc : TypeId × Value → H} {P : Program} (hl : laidOutB P = true) {W W' : World} (hb : Below W.heap.size W W') :
    ∀ {ts : List TypeId} {vs : List Value} {ds : List (DataW H)} {ps : List MemPlace}, (ts.all fun t => P.readableRec t && decide (t < P.types.size)) = true →
      DataW.TrodAll enc P W 0 (fun _ => true) true ts vs ds ps → (∀ x ∈ ps, x.block < W.heap.size) → DataW.TrodAll enc P W' 0 (fun b => decide (b < W.heap.size)) true ts vs ds ps
  | [], vs, ds, ps, _, h, _ => by obtain ⟨rfl, rfl, rfl⟩ := trodAll_nil h; rfl
  | t :: ts, vs, ds, ps, hr, h, hlt => by
    obtain ⟨v, vs', d, ds', p, q, rfl, rfl, rfl, h1, h2⟩ := trodAll_cons h
    simp only [List.all_cons, Bool.and_eq_true, decide_eq_true_eq] at hr
    exact ⟨p, q, Below.trod hl hr.1.1 hr.1.2 h1 hb fun x hx => hlt x (List.mem_append.2 (.inl hx)),
      trodAll_below hl hb (by simpa using hr.2) h2 fun x hx => hlt x (List.mem_append.2 (.inr hx)), rfl⟩
theorem law_step {H : Type} {enc : TypeId × Value → H} {P : Program} {f : Func} {s : ChangeSpec} {W W' : World} {args : Array Value} {ds gs : List (DataW H)} {before : List MemPlace} {tb : TypeId}
    (hl : laidOutB P = true) (hr : (f.params.toList.all fun t => P.readableRec t && decide (t < P.types.size)) = true) (hrt : f.resultTypes = #[tb]) (htb : P.underlying tb = some .bool)
    (hs : s.vars = []) (hfn : ∀ ds : List (DataW H), ds.length = f.params.size → (s.fn H ds).results = [.lit (.bool true)] ∧ (s.fn H ds).args = ds ∧ (s.fn H ds).vars = [])
    (hW : DataW.Whole enc P f.params.toList s.vars false W args.toList ds gs before) (hb : Below W.heap.size W W') : s.post enc P f false true false false W args (.bool true) W' := by
  have hlt : ∀ p ∈ before, p.block < W.heap.size := fun p hp => hW.lt p hp
  have hW0 := hW
  obtain ⟨p, q, hA, hV, rfl, _, _⟩ := hW
  rw [hs] at hV
  obtain ⟨rfl, rfl⟩ := trodVars_none hV
  simp only [List.append_nil] at hlt hW0
  have hlen := trodAll_length hA
  obtain ⟨h1, h2, h3⟩ := hfn ds (by rw [hlen]; simp)
  refine ⟨ds, [], p, [], p, [], hW0, ?_, ?_, ?_, World.keptBut_mono (fun x hx => ⟨hx, .inr (.inl hx)⟩) (hb.frame (· ∈ p)), fun h => by cases h⟩
  · rw [List.append_nil, h1, hrt]
    exact trodAll_mk1 (shut_bool htb true)
  · rw [List.append_nil, h2]
    exact trodAll_below hl hb hr hA hlt
  · rw [List.append_nil, h3, hs]
    rfl
end Go.Sy
namespace Go.Sy
open Go.RowKit Go.ChangeShapes Go.WideShapes Go.ChangeAt
inductive Shp where
  | int
  | str
  | sl (n : Nat)
def shpF (P : Program) (g : TypeId → Option (List Shp)) : List Field → Nat → Option (List Shp)
  | [], _ => some []
  | f :: fs, i => match g f.type with
    | some l => if f.offset = i ∧ P.cellsOf f.type = l.length then (match shpF P g fs (i + l.length) with | some r => some (l ++ r) | none => none) else none
    | none => none
def shpT (P : Program) : Nat → TypeId → Option (List Shp)
  | 0, _ => none
  | d + 1, t => match intsN P 8 t with
    | some n => some (List.replicate n .int)
    | none => match P.underlying t with
      | some .string => some [.str]
      | some (.slice e) => match intsN P 8 e with
        | some n => if P.cellsOf e = n ∧ 0 < n then some [.sl n] else none
        | none => none
      | some (.struct fs) => match shpF P (shpT P d) fs.toList 0 with
        | some l => if P.cellsOf t = l.length then some l else none
        | none => none
      | _ => none
def OpC (w : World) : Shp → Value → Prop
  | .int, v => IsInt v
  | .str, v => ∃ s, v = .string s ∧ s.size ≤ maxLen
  | .sl n, v => v = .slice none 0 0 ∨ ∃ (a : Addr) (len cap : Nat), v = .slice (some a) len cap ∧ len ≤ cap ∧ cap ≤ maxLen ∧ ∀ j, j < len * n → ∃ k : Int, w.cell? (a.add j) = some (.int .i64 k) ∧ I64 k
section
variable {H : Type} {enc : TypeId × Value → H} {P : Program} {w : World} {base : Nat} {spare : Nat → Bool} {held : Bool}
theorem cells?_get {a : Addr} : ∀ {n : Nat} {cs : List Value}, w.cells? base a n = some cs → cs.length = n ∧ ∀ j, j < n → w.cell? (a.add j) = cs[j]? := by
  intro n cs h
  unfold World.cells? at h
  split at h
  · have key : ∀ (l : List Nat) (cs : List Value), (l.mapM fun i => w.cell? (a.add i)) = some cs → cs.length = l.length ∧ ∀ j, j < l.length → w.cell? (a.add (l.getD j 0)) = cs[j]? := by
      intro l
      induction l with
      | nil => intro cs h; simp at h; subst h; exact ⟨rfl, fun j hj => by simp at hj⟩
      | cons x l ih =>
        intro cs h
        simp only [List.mapM_cons, Option.bind_eq_bind, Option.pure_def] at h
        cases hx : w.cell? (a.add x) with
        | none => simp [hx] at h
        | some y =>
          cases hl : (l.mapM fun i => w.cell? (a.add i)) with
          | none => simp [hx, hl] at h
          | some zs =>
            simp [hx, hl] at h
            subst h
            obtain ⟨h1, h2⟩ := ih zs hl
            refine ⟨by simp [h1], fun j hj => ?_⟩
            cases j with
            | zero => simpa using hx
            | succ j => simpa using h2 j (by simpa using hj)
    obtain ⟨h1, h2⟩ := key _ _ h
    refine ⟨by simpa using h1, fun j hj => ?_⟩
    have := h2 j (by simpa using hj)
    simpa [List.getD, hj] using this
  · cases h
theorem trod_sl {t e : TypeId} {fuel n : Nat} {cs : List Value} {x : DataW H × List MemPlace} (ht : P.underlying t = some (.slice e)) (hn : intsN P 8 e = some n) (hc : P.cellsOf e = n) (h0 : 0 < n)
    (h : DataW.trod enc P w base spare held fuel t cs = some x) : ∃ v, cs = [v] ∧ OpC w (.sl n) v := by
  rcases Go.Deep.open_slice ht h with ⟨rfl, _⟩ | ⟨a, len, cap, m, k, D, Pl, rfl, hb, hl, hm, hmm, _, hx⟩
  · exact ⟨_, rfl, .inl rfl⟩
  · refine ⟨_, rfl, .inr ⟨a, len, cap, rfl, hl, hm, fun j hj => ?_⟩⟩
    have hi : j / n < len := by rw [Nat.div_lt_iff_lt_mul h0]; exact hj
    have him : j / n < m := by rw [hmm]; split <;> omega
    obtain ⟨cs', h1, h2⟩ := hx (j / n) him
    obtain ⟨hl', hall⟩ := trod_ints 8 e n hn k cs' _ h2
    rw [hc] at h1
    obtain ⟨_, hget⟩ := cells?_get h1
    have hd : j % n < n := Nat.mod_lt _ h0
    have := hget (j % n) hd
    rw [Go.Deep.add_add, show j / n * n + j % n = j by rw [Nat.mul_comm]; exact Nat.div_add_mod j n] at this
    rw [List.getElem?_eq_getElem (by omega)] at this
    obtain ⟨z, hz, hz2⟩ := hall (cs'[j % n]'(by omega)) (List.getElem_mem _)
    exact ⟨z, by rw [this, hz], hz2⟩
theorem shpF_ok {g : TypeId → Option (List Shp)} {fuel : Nat} {cs : List Value} (hg : ∀ t l, g t = some l → ∀ cs (x : DataW H × List MemPlace), DataW.trod enc P w base spare held fuel t cs = some x → cs.length = l.length ∧ ∀ (i : Nat) s v, l[i]? = some s → cs[i]? = some v → OpC w s v) :
    ∀ {fs : List Field} {i : Nat} {l : List Shp}, shpF P g fs i = some l → (∀ f ∈ fs, ∃ y, DataW.trod enc P w base spare held fuel f.type ((cs.drop f.offset).take (P.cellsOf f.type)) = some y) →
      ∀ (j : Nat) s v, l[j]? = some s → cs[i + j]? = some v → OpC w s v
  | [], i, l, h, _, j, s, v, h1, _ => by simp [shpF] at h; subst h; simp at h1
  | f :: fs, i, l, h, hy, j, s, v, h1, hv => by
    unfold shpF at h
    split at h
    · rename_i l1 hl1
      split at h
      · rename_i hof
        split at h
        · rename_i r hr
          simp at h
          subst h
          by_cases hj : j < l1.length
          · obtain ⟨y, hyf⟩ := hy f (by simp)
            obtain ⟨_, hall⟩ := hg _ _ hl1 _ _ hyf
            refine hall j s v (by rwa [List.getElem?_append_left hj] at h1) ?_
            rw [hof.1, hof.2, List.getElem?_take, if_pos hj, List.getElem?_drop]
            exact hv
          · refine shpF_ok hg hr (fun f hf => hy f (by simp [hf])) (j - l1.length) s v (by rwa [List.getElem?_append_right (by omega)] at h1) ?_
            rwa [show i + l1.length + (j - l1.length) = i + j by omega]
        · cases h
      · cases h
    · cases h
theorem trod_shp : ∀ (d : Nat) (t : TypeId) (l : List Shp), shpT P d t = some l → ∀ (fuel : Nat) (cs : List Value) (x : DataW H × List MemPlace), DataW.trod enc P w base spare held fuel t cs = some x →
    cs.length = l.length ∧ ∀ (i : Nat) s v, l[i]? = some s → cs[i]? = some v → OpC w s v
  | 0, t, l, h, _, _, _, _ => by simp [shpT] at h
  | d + 1, t, l, h, fuel, cs, x, hx => by
    unfold shpT at h
    split at h
    · rename_i n hn
      simp at h
      subst h
      obtain ⟨h1, h2⟩ := trod_ints 8 t n hn fuel cs x hx
      refine ⟨by simpa using h1, fun i s v hs hv => ?_⟩
      have : s = .int := by
        rw [List.getElem?_replicate] at hs
        split at hs
        · simpa using hs.symm
        · cases hs
      subst this
      exact h2 v (List.mem_of_getElem? hv)
    · split at h
      · rename_i hu
        simp at h
        subst h
        cases fuel with
        | zero => simp [DataW.trod] at hx
        | succ fuel =>
          unfold DataW.trod at hx
          simp only [hu] at hx
          split at hx <;> first | (rename_i heq; cases heq; done) | skip
          all_goals first | (simp at hx; done) | skip
          all_goals (rename_i heq; try (cases heq))
          all_goals (split at hx)
          all_goals first | (cases hx; done) | (refine ⟨rfl, fun i s v hs hv => ?_⟩; match i, hs, hv with | 0, hs, hv => (simp at hs hv; subst hs; subst hv; exact ⟨_, rfl, by assumption⟩) | i + 1, hs, hv => (simp at hs))
      · rename_i e hu
        split at h
        · rename_i n hn
          split at h
          · rename_i hc
            simp at h
            subst h
            obtain ⟨v, rfl, ho⟩ := trod_sl hu hn hc.1 hc.2 hx
            refine ⟨rfl, fun i s u hs hv => ?_⟩
            match i, hs, hv with
            | 0, hs, hv => simp at hs hv; subst hs; subst hv; exact ho
            | i + 1, hs, hv => simp at hs
          · cases h
        · cases h
      · rename_i fs hu
        split at h
        · rename_i l' hl'
          split at h
          · rename_i hc
            simp at h
            subst h
            cases fuel with
            | zero => simp [DataW.trod] at hx
            | succ fuel =>
            unfold DataW.trod at hx
            simp only [hu] at hx
            split at hx
            · rename_i hlen
              refine ⟨by rw [hlen, hc], fun i s v hs hv => ?_⟩
              cases hmp : fs.toList.mapM fun f => DataW.trod enc P w base spare held fuel f.type ((cs.drop f.offset).take (P.cellsOf f.type)) with
              | none => simp [hmp] at hx
              | some ys => exact shpF_ok (fun t l hl cs x hx => trod_shp d t l hl fuel cs x hx) hl' (fun f hf => mapM_some hmp f hf) i s v hs (by rwa [Nat.zero_add])
            · cases hx
          · cases h
        · cases h
      · cases h
theorem okCell_spot {r : Reach} {b0 : Nat} {t : TypeId} {a : Addr} {len cap : Nat} (h : Cell.okWide P w r b0 t (.slice (some a) len cap)) : a.spot = none := by
  unfold Cell.okWide at h
  split at h <;> first | (rename_i heq; cases heq; done) | skip
  all_goals try (rename_i heq _; cases heq; done)
  unfold Cell.ok at h
  split at h <;> first | (rename_i heq; cases heq; done) | skip
  all_goals first | exact h.elim | skip
  all_goals (rename_i heq; cases heq; exact h.2.2.2.1)
theorem ok_spot {r : Reach} {b0 : Nat} {t : TypeId} {v : Value} (h : Value.okWide P w r b0 t v) : ∀ (i : Nat) (a : Addr) (len cap : Nat), v.cells[i]? = some (.slice (some a) len cap) → a.spot = none := by
  intro i a len cap hi
  have row : ∀ {cs : Array Value}, Row.okWide P w r b0 t cs → cs[i]? = some (.slice (some a) len cap) → a.spot = none := by
    intro cs ⟨ts, _, _, h⟩ hc
    obtain ⟨u, _, hu⟩ := h i _ hc
    exact okCell_spot hu
  unfold Value.okWide at h
  split at h
  · obtain ⟨cs, rfl, _, h⟩ := h; exact row h hi
  · obtain ⟨cs, rfl, _, h⟩ := h; exact row h hi
  · rename_i h1 h2
    have : v = .slice (some a) len cap ∨ ∃ cs, v = .agg cs := by
      cases v with
      | agg cs => exact .inr ⟨cs, rfl⟩
      | _ =>
        simp only [Value.cells] at hi
        match i, hi with
        | 0, hi => left; first | (simp at hi; done) | simpa using hi
        | i + 1, hi => simp at hi
    rcases this with rfl | ⟨cs, rfl⟩
    · exact okCell_spot h
    · exfalso
      unfold Cell.okWide at h
      split at h <;> first | (rename_i heq; cases heq; done) | skip
      all_goals try (rename_i heq _; cases heq; done)
      unfold Cell.ok at h
      split at h <;> first | (rename_i heq; cases heq; done) | exact h
end
structure SlA (w : World) (n : Nat) (v : Value) (a : Option Nm) (len cap : Nat) : Prop where
  eq : v = den (.sl 0 a 0 n len cap)
  pos : 0 < len → a.isSome = true
  le : len ≤ cap
  max : cap ≤ 9223372036854775807
  cell : ∀ nm, a = some nm → ∀ j, j < len * n → ∃ k : Int, w.cell? ⟨nm.g, nm.b + j, none⟩ = some (.int .i64 k) ∧ I64 k
theorem OpC.sl {w : World} {n : Nat} {v : Value} (h : OpC w (.sl n) v) (hs : ∀ a len cap, v = .slice (some a) len cap → a.spot = none) : ∃ a len cap, SlA w n v a len cap := by
  rcases h with rfl | ⟨a, len, cap, rfl, h1, h2, h3⟩
  · exact ⟨none, 0, 0, rfl, fun h => by omega, by omega, by omega, fun nm h => by cases h⟩
  · have := hs a len cap rfl
    obtain ⟨g, b, s⟩ := a
    simp only at this
    subst this
    refine ⟨some ⟨g, b⟩, len, cap, by simp [den], fun _ => rfl, h1, by simpa [maxLen] using h2, fun nm he j hj => ?_⟩
    cases he
    have := h3 j hj
    rwa [Go.WideShapes.add_plain] at this
def numAt (w : World) (a : Option Nm) (j : Nat) : Int :=
  match a with
  | some nm => match w.cell? ⟨nm.g, nm.b + j, none⟩ with
    | some (.int .i64 k) => k
    | _ => 0
  | none => 0
theorem SlA.num {w : World} {n : Nat} {v : Value} {a : Option Nm} {len cap : Nat} (h : SlA w n v a len cap) {nm : Nm} (ha : a = some nm) {j : Nat} (hj : j < len * n) :
    w.cell? ⟨nm.g, nm.b + j, none⟩ = some (.int .i64 (numAt w a j)) ∧ I64 (numAt w a j) := by
  obtain ⟨k, h1, h2⟩ := h.cell nm ha j hj
  subst ha
  have : numAt w (some nm) j = k := by simp [numAt, h1]
  rw [this]; exact ⟨h1, h2⟩
theorem SlA.blk {w : World} {n : Nat} {v : Value} {a : Option Nm} {len cap : Nat} (h : SlA w n v a len cap) {c : Cts} (hs : c.s = n) (hl : c.len = len)
    (hr : ∀ k d, k < len → d < n → (c.row k).getD d .und = .int .i64 (numAt w a (k * n + d))) : HB.ok ⟨a, false, .ro, c⟩ w := by
  cases a with
  | none =>
    have h0 : len = 0 := by
      rcases Nat.eq_zero_or_pos len with h' | h'
      · exact h'
      · have := h.pos h'; simp at this
    show c.n = 0
    unfold Cts.n; rw [hl, h0]; simp
  | some nm =>
    intro o ho
    have ho : o < c.n := ho
    obtain ⟨h1, h2, h3, h4⟩ := c.n_at ho
    have hlt : o < len * n := by unfold Cts.n at ho; rw [hl, hs] at ho; exact ho
    rw [(h.num rfl hlt).1]
    show _ = some (den (c.get o))
    unfold Cts.get
    rw [hs] at h2 h3 h4 ⊢
    rw [hl] at h2
    rw [hr _ _ h2 h3, ← h4]; rfl
theorem getD_range {α : Type} {f : Nat → α} {n k : Nat} (d : α) (hk : k < n) : ((List.range n).map f).getD k d = f k := by
  simp [List.getD, hk]
theorem SlA.cx {w : World} {v : Value} {a : Option Nm} {len cap : Nat} (h : SlA w 4 v a len cap) : ∃ cs : List Cel, cs.length = len ∧ HB.ok ⟨a, false, .ro, .cx cs⟩ w :=
  ⟨(List.range len).map fun k => ⟨numAt w a (k * 4), numAt w a (k * 4 + 1), numAt w a (k * 4 + 2), numAt w a (k * 4 + 3)⟩, by simp, h.blk rfl (by simp [Cts.len]) fun k d hk hd => by
    simp only [Cts.row]; rw [getD_range _ hk]
    match d, hd with | 0, _ | 1, _ | 2, _ | 3, _ => rfl⟩
theorem SlA.qx {w : World} {v : Value} {a : Option Nm} {len cap : Nat} (h : SlA w 2 v a len cap) : ∃ cs : List Rat2, cs.length = len ∧ HB.ok ⟨a, false, .ro, .qx cs⟩ w :=
  ⟨(List.range len).map fun k => ⟨numAt w a (k * 2), numAt w a (k * 2 + 1)⟩, by simp, h.blk rfl (by simp [Cts.len]) fun k d hk hd => by
    simp only [Cts.row]; rw [getD_range _ hk]
    match d, hd with | 0, _ | 1, _ => rfl⟩
theorem SlA.ix {w : World} {v : Value} {a : Option Nm} {len cap : Nat} (h : SlA w 1 v a len cap) : ∃ cs : List Int, cs.length = len ∧ (∀ c ∈ cs, I64 c) ∧ HB.ok ⟨a, false, .ro, .ix cs⟩ w :=
  ⟨(List.range len).map fun k => numAt w a k, by simp, fun c hc => by
      obtain ⟨k, hk, rfl⟩ := List.mem_map.1 hc
      have hk := List.mem_range.1 hk
      cases a with
      | none => have := h.pos (by omega); simp at this
      | some nm => exact (h.num rfl (j := k) (by omega)).2,
    h.blk rfl (by simp [Cts.len]) fun k d hk hd => by
    simp only [Cts.row]; rw [getD_range _ hk]
    match d, hd with | 0, _ => simp⟩
section
variable {H : Type} {enc : TypeId × Value → H} {P : Program} {w : World} {base : Nat} {spare : Nat → Bool} {held : Bool}
theorem open_row {r : Reach} {b0 : Nat} {t : TypeId} {v : Value} {d : DataW H} {ps : List MemPlace} {ss : List Shp} (hn : shpT P 8 t = some ss) (hagg : (match P.underlying t with | some (.struct _) => true | _ => false) = true)
    (hval : Value.okWide P w r b0 t v) (hd : DataW.Trod enc P w base spare held t v d ps) : ∃ vs : List Value, v = .agg vs.toArray ∧ vs.length = ss.length ∧
      ∀ (i : Nat) s u, ss[i]? = some s → vs[i]? = some u → OpC w s u ∧ ∀ a len cap, u = .slice (some a) len cap → a.spot = none := by
  obtain ⟨fuel, hf⟩ := hd
  obtain ⟨hl, hi⟩ := trod_shp 8 t ss hn fuel _ _ hf
  have hsp := ok_spot hval
  have hv : ∃ cs, v = .agg cs := by
    unfold Value.okWide at hval
    split at hagg
    · rename_i fs hu; rw [hu] at hval; obtain ⟨cs, h, _⟩ := hval; exact ⟨cs, h⟩
    · cases hagg
  obtain ⟨cs, rfl⟩ := hv
  simp only [Value.cells] at hi hl hsp
  refine ⟨cs.toList, by simp, hl, fun i s u hs hu => ⟨hi i s u hs hu, fun a len cap he => hsp i a len cap ?_⟩⟩
  subst he
  simpa using hu
theorem open_sl {r : Reach} {b0 : Nat} {t e : TypeId} {n : Nat} {v : Value} {d : DataW H} {ps : List MemPlace} (ht : P.underlying t = some (.slice e)) (hn : intsN P 8 e = some n) (hc : P.cellsOf e = n) (h0 : 0 < n)
    (hval : Value.okWide P w r b0 t v) (hd : DataW.Trod enc P w base spare held t v d ps) : ∃ a len cap, SlA w n v a len cap := by
  obtain ⟨fuel, hf⟩ := hd
  obtain ⟨u, hu, ho⟩ := trod_sl ht hn hc h0 hf
  have hsp := ok_spot hval
  have hv : v = u := by
    cases v with
    | agg cs =>
      exfalso
      unfold Value.okWide at hval
      rw [ht] at hval
      unfold Cell.okWide at hval
      rw [ht] at hval
      unfold Cell.ok at hval
      rw [ht] at hval
      exact hval
    | _ => simpa [Value.cells] using hu
  subst hv
  refine ho.sl fun a len cap he => hsp 0 a len cap ?_
  subst he
  simp [Value.cells]
theorem open_lq {r : Reach} {b0 : Nat} {t e : TypeId} {v : Value} {d : DataW H} {ps : List MemPlace} (ht : P.underlying t = some (.slice e)) (hn : intsN P 8 e = some 2) (hc : P.cellsOf e = 2)
    (hval : Value.okWide P w r b0 t v) (hd : DataW.Trod enc P w base spare held t v d ps) : ∃ (cs : List Rat2) (a : Option Nm) (cap : Nat), v = den (.sl 0 a 0 2 cs.length cap) ∧ cs.length ≤ cap ∧ cap ≤ 9223372036854775807 ∧ (0 < cs.length → a.isSome = true) ∧ HB.ok ⟨a, false, .ro, .qx cs⟩ w := by
  obtain ⟨a, len, cap, h⟩ := open_sl ht hn hc (by omega) hval hd
  obtain ⟨cs, rfl, hb⟩ := h.qx
  exact ⟨cs, a, cap, h.eq, h.le, h.max, h.pos, hb⟩
theorem open_li {r : Reach} {b0 : Nat} {t e : TypeId} {v : Value} {d : DataW H} {ps : List MemPlace} (ht : P.underlying t = some (.slice e)) (hn : intsN P 8 e = some 1) (hc : P.cellsOf e = 1)
    (hval : Value.okWide P w r b0 t v) (hd : DataW.Trod enc P w base spare held t v d ps) : ∃ (cs : List Int) (a : Option Nm) (cap : Nat), v = den (.sl 0 a 0 1 cs.length cap) ∧ (∀ c ∈ cs, I64 c) ∧ cs.length ≤ cap ∧ cap ≤ 9223372036854775807 ∧ (0 < cs.length → a.isSome = true) ∧ HB.ok ⟨a, false, .ro, .ix cs⟩ w := by
  obtain ⟨a, len, cap, h⟩ := open_sl ht hn hc (by omega) hval hd
  obtain ⟨cs, rfl, hi, hb⟩ := h.ix
  exact ⟨cs, a, cap, h.eq, hi, h.le, h.max, h.pos, hb⟩
theorem open_grd {r : Reach} {b0 : Nat} {t : TypeId} {v : Value} {d : DataW H} {ps : List MemPlace} (hn : shpT P 8 t = some [.int, .int, .sl 4]) (hagg : (match P.underlying t with | some (.struct _) => true | _ => false) = true)
    (hval : Value.okWide P w r b0 t v) (hd : DataW.Trod enc P w base spare held t v d ps) : ∃ (g : Grd) (a : Option Nm) (cap : Nat), v = den (.agg [.int .i64 g.w, .int .i64 g.h, .sl 0 a 0 4 g.cs.length cap]) ∧ (I64 g.w ∧ I64 g.h ∧ g.cs.length ≤ cap ∧ cap ≤ 9223372036854775807) ∧ (0 < g.cs.length → a.isSome = true) ∧ HB.ok ⟨a, false, .ro, .cx g.cs⟩ w := by
  obtain ⟨vs, rfl, hl, h⟩ := open_row hn hagg hval hd
  match vs, hl with
  | [x, y, z], _ =>
    obtain ⟨x', rfl, hx⟩ := (h 0 _ _ rfl rfl).1
    obtain ⟨y', rfl, hy⟩ := (h 1 _ _ rfl rfl).1
    obtain ⟨h1, h2⟩ := h 2 _ _ rfl rfl
    obtain ⟨a, len, cap, hs⟩ := h1.sl h2
    obtain ⟨cs, rfl, hb⟩ := hs.cx
    exact ⟨⟨x', y', cs⟩, a, cap, by rw [hs.eq]; simp [den, denL], ⟨hx, hy, hs.le, hs.max⟩, hs.pos, hb⟩
end
end Go.Sy
set_option maxRecDepth 100000
namespace Go.Proofs.Ytbjgdlmiofgdnaa
open Go.Sy Go.RowKit
def c_lawH_FieldWeighs : Ctr := fun args hp K => match args with
  | [x0, x1, x2, x3, x4] => lq x0 hp fun l => li x1 hp fun ns => g1 x2 hp fun g => i1 x3 fun wide => i1 x4 fun high => ((l.length ≤ 9223372036854775807 ∧ ns.length ≤ 9223372036854775807) ∧ g.cs.length ≤ 9223372036854775807 ∧ I64 wide ∧ I64 high) ∧ K (.bool .tt)
  | _ => False
noncomputable def X_lawH_FieldWeighs : Env Try.prog := ⟨Try.f6.ntmps, TT, G65, E17, Try.f6.results.toList, [(17, .x [0, 1, 2, 3, 4, 5, 6, 7, 8, 9, 10, 11, 12, 13, 14, 15, 16] [17] (.one 18 (.done))), (21, .x [0, 1, 2, 3, 4, 5, 6, 7, 8, 9, 10, 11, 12, 13, 14, 15, 16, 17, 18, 19, 20, 21, 22, 23, 24, 25, 26, 27, 28, 29, 30, 31] [] (.done))], TT_ok, okG65, okE17, mixed⟩
set_option maxHeartbeats 16000000 in
theorem k_lawH_FieldWeighs : COk Try.prog 6 c_lawH_FieldWeighs :=
  ctr_of_wk X_lawH_FieldWeighs Try.func6 rfl (by kernel_rfl) rfl rfl fun args hp K hK => by
    unfold c_lawH_FieldWeighs at hK
    split at hK
    · obtain ⟨l, al, capl, hK1, sl⟩ := iff_lq hK; clear hK; have hK := hK1; clear hK1
      have posl : 0 < l.length → al.isSome = true := sl.pos
      obtain ⟨ns, ans, capns, hK1, sns⟩ := iff_li hK; clear hK; have hK := hK1; clear hK1
      have posns : 0 < ns.length → ans.isSome = true := sns.pos
      obtain ⟨g, ag, capg, hK1, e2, posg, vwg⟩ := iff_g1 hK; clear hK; have hK := hK1; clear hK1
      obtain ⟨wide, hK1, e3⟩ := iff_i1 hK; clear hK; have hK := hK1; clear hK1
      obtain ⟨high, hK1, e4⟩ := iff_i1 hK; clear hK; have hK := hK1; clear hK1
      obtain ⟨hpre, hK⟩ := hK
      refine ⟨[.sl 0 al 0 2 l.length capl, .sl 1 ans 0 1 ns.length capns, .agg [.int .i64 g.w, .int .i64 g.h, .sl 2 ag 0 4 g.cs.length capg], .int .i64 wide, .int .i64 high], [⟨al, false, .ro, .qx l⟩, ⟨ans, false, .ro, .ix ns⟩, ⟨ag, false, .ro, .cx g.cs⟩], _, denL_cons (sl.eq) (denL_cons (sns.eq) (denL_cons (e2) (denL_cons (e3.symm) (denL_cons (e4.symm) (rfl))))), ⟨trivial, ⟨trivial, ⟨trivial, trivial⟩⟩⟩, fun w hw b hb => (by simp only [List.mem_cons, List.not_mem_nil, or_false] at hb; rcases hb with rfl | rfl | rfl <;> first | exact sl.ok w hw | exact sns.ok w hw | exact vwg w hw), hK, Nat.le_of_ble_eq_true rfl, ?_⟩
      clear hK
      refine Wk.nil 35 (.qx []) rfl ?_
      refine Wk.nil 3 (.ix []) rfl ?_
      rcases weighW g wide high with ⟨hB, hl, hE⟩ | ⟨hB, hl, hE⟩ | ⟨hB, hl, hE, H⟩ <;> (first | (have hx := H.hx; have hy := H.hy) | (have hx := True.intro; have hy := True.intro))
      all_goals (repeat' (first | ((with_reducible refine wk_ops ?_); (first | (refine Wk.op ?_; intro K' hK') | (refine Wk.step rfl ?_))) | ((with_reducible refine wk_rs ?_); (first | (refine Wk.rsTake ?_; intro K' hK') | (refine Wk.rsOne ?_ (fun K' hR' => ?_)) | (refine Wk.rsTwo ?_ ?_ (fun K' hR' => ?_) (fun K' hR' => ?_)) | (refine Wk.rsDone ?_))) | ((with_reducible refine wk_rg ?_); (first | (refine Wk.rgOne ?_; intro K' hK') | (refine Wk.rgPure ?_; intro K' hP') | (refine Wk.rgX ?_; intro K' hP') | (refine Wk.rgDone ?_) | (refine Wk.rgTwo ?_ ?_ <;> intro K' hK') | (refine Wk.rgH ?_ ?_))) | ((with_reducible refine wk_xq ?_); (first | (refine Wk.xqOp ?_; intro K' hP') | (refine Wk.xqNew ?_; intro K' hK') | (refine Wk.xqEnd ?_))) | ((with_reducible refine wk_c ?_); (first | (refine Wk.cond ?_; intro KT KF hKT hKF) | (refine Wk.ret ?_) | (refine Wk.draw ?_ ?_ ?_; rotate_left 2; (intro K' hP')) | (refine Wk.step rfl ?_))) | ((fail_if_success (with_reducible refine g_ile ?_)); (fail_if_success (with_reducible refine g_ilt ?_)); (fail_if_success (with_reducible refine g_nle ?_)); (fail_if_success (with_reducible refine g_nlt ?_)); (fail_if_success (with_reducible refine g_ieq ?_)); (fail_if_success (with_reducible refine g_neq ?_)); (first | (with_reducible refine And.intro ?_ ?_) | (with_reducible refine I64_two ?_ ?_) | ((with_reducible intro hq); (try simp only [BF.H, Cel.eta, Rul.eta, Grd.eta, if_true, if_false, Int.toNat_natCast, Nat.add_zero] at hq); (try simp only [Grd.eta, Pnt.eta, hB, hE, hx, hy, tqB_eq, decide_true, decide_eq_true_eq, decide_eq_false_iff_not, not_true_eq_false, not_false_eq_true] at hq); (try (exfalso; (try clear hKT hKF); (try clear hK'); (try clear hP'); (try clear hR'); first | omega | (simp [BF.b] at hq; done)))) | (refine hK' _ _ ?_; clear hK' K') | (refine hR' _ _ ?_ ?_ <;> clear hR' K') | (refine hP' _ ?_; clear hP' K') | (refine hKT _ ?_; clear hKT hKF KT KF) | (refine hKF _ ?_; clear hKT hKF KT KF) | (refine Wk.op ?_; intro K' hK') | (refine Wk.xqOp ?_; intro K' hP') | (refine Wk.rgOne ?_; intro K' hK') | (refine Wk.rgPure ?_; intro K' hP') | (refine Wk.rgX ?_; intro K' hP') | (refine Wk.xqNew ?_; intro K' hK') | (refine Wk.xqEnd ?_) | (refine Wk.rgDone ?_) | (refine Wk.rgTwo ?_ ?_ <;> intro K' hK') | (refine Wk.rgH ?_ ?_) | (refine Wk.rsTake ?_; intro K' hK') | (refine Wk.rsOne ?_ (fun K' hR' => ?_)) | (refine Wk.rsTwo ?_ ?_ (fun K' hR' => ?_) (fun K' hR' => ?_)) | (refine Wk.rsDone ?_) | (refine Wk.cond ?_; intro KT KF hKT hKF) | (refine Wk.ret ?_) | (refine Wk.draw ?_ ?_ ?_; rotate_left 2; (intro K' hP')) | (refine Wk.step rfl ?_) | (refine Wk.inv (X := X_lawH_FieldWeighs) (t := .b 0 :: _) (ι := Nat × Option Nm × Nat × Option Nm × Nat) (fun ⟨k, ν, cap, ν2, cap2⟩ => k ≤ (tabL g wide high).length ∧ (0 < k → ν.isSome = true) ∧ (k ≤ cap ∧ cap ≤ 9223372036854775807) ∧ (0 < k → ν2.isSome = true) ∧ k ≤ cap2 ∧ cap2 ≤ 9223372036854775807) [3, 4, 7, 15] (fun ⟨k, ν, cap, ν2, cap2⟩ => [(17, .sl 3 ν 0 2 k cap), (18, .sl 4 ν2 0 1 k cap2), (19, .int .i64 (k : Int))]) (fun ⟨k, ν, cap, ν2, cap2⟩ => [(3, fun b => ⟨ν, true, .wr 35 (cap * 2), .qx (tqL g wide high k)⟩), (4, fun b => ⟨ν2, true, .wr 3 (cap2 * 1), .ix (List.replicate k (wide * high))⟩)]) (fun ⟨k, ν, cap, ν2, cap2⟩ => (tabL g wide high).length - k) ?_; intro K' hK'; ((refine hK' _ ⟨⟨0, none, 0, none, 0⟩, ?_, ?_, ?_⟩ ?_) <;> clear hK' K'); rotate_left 3; (intro i hi; obtain ⟨k, ν, cap, ν2, cap2⟩ := i; have hO : k ≤ (tabL g wide high).length ∧ (0 < k → ν.isSome = true) ∧ (k ≤ cap ∧ cap ≤ 9223372036854775807) ∧ (0 < k → ν2.isSome = true) ∧ k ≤ cap2 ∧ cap2 ≤ 9223372036854775807 := hi; clear hi)) | (refine Wk.kp (X := X_lawH_FieldWeighs) (t := .b 0 :: _) [] ?_; intro K' hK'; refine hK' _ (exAt (k + 1) ?_); apply ex4; refine ⟨?_, ?_, ?_, ?_⟩) | (refine Wk.done ?_) | (refine Fin.plain trivial ?_) | ((with_reducible refine top_goal ?_); kernel_rfl) | ((with_reducible refine takes_goal ?_); kernel_rfl) | ((with_reducible refine drop_goal ?_); kernel_rfl) | ((with_reducible refine held_goal ?_); (repeat refine And.intro rfl ?_); exact trivial) | ((with_reducible refine allB_goal ?_); kernel_rfl) | ((with_reducible refine mine_goal ?_); exact mine_of rfl) | ((with_reducible refine withV_goal ?_); refine withV_mk rfl ?_) | ((with_reducible refine hsel_goal ?_); (first | (exact hsel.nil) | (refine hsel.take (HB.like.refl _) (.inr fun _ h => h) ?_) | (refine hsel.take (like_l ?_) (.inl rfl) ?_) | (refine hsel.take (like_cts ?_) (.inl rfl) ?_) | (refine hsel.skip (spare_own rfl rfl) ?_) | (refine hsel.skip spare_ro ?_))) | (refine denL_cons ?_ ?_) | (refine sl_like ?_) | ((with_reducible refine withMC_goal ?_); refine withMC_mk rfl ?_) | (refine And.intro ?_ ?_) | (intro hq; (try simp only [BF.H, Cel.eta, Rul.eta, Grd.eta, if_true, if_false, Int.toNat_natCast, Nat.add_zero] at hq); (try simp only [Grd.eta, Pnt.eta, hB, hE, hx, hy, tqB_eq, decide_true, decide_eq_true_eq, decide_eq_false_iff_not, not_true_eq_false, not_false_eq_true] at hq); (try (exfalso; (try clear hKT hKF); (try clear hK'); (try clear hP'); (try clear hR'); first | omega | (simp [BF.b] at hq; done))))))))
      all_goals (try simp only [Cel.eta, Rul.eta, Grd.eta, Pnt.eta, if_true, if_false, Int.toNat_natCast, Int.toNat_zero, Nat.add_zero, Nat.zero_add])
      all_goals (first | (with_reducible rfl) | (with_reducible exact trivial) | (with_reducible exact splitN_zero) | ((with_reducible refine fsub_goal ?_); exact trivial) | (with_reducible assumption) | ((with_reducible refine ble_goal ?_); rfl) | (with_reducible exact Nat.beq_refl _) | ((with_reducible refine band_goal ?_ ?_); (first | exact Nat.beq_refl _ | rfl | kernel_rfl)) | ((with_reducible refine ble2_goal ?_); (first | rfl | kernel_rfl)) | ((with_reducible refine beq_goal ?_); rfl) | omega | skip)
      all_goals (try (have hgb := gok_bds H.hv; have hs := H.hs; have hqb := H.hqb; have hwp := H.hwp; have hF := H.hF; have hZ := H.hZ; have hM := H.hM))
      all_goals (first | assumption | (with_reducible rfl) | omega | (simp only [Cts.len, List.length_nil]; done) | (simp only [Cts.len, List.length_nil, Int.toNat_natCast, Nat.add_zero, Nat.zero_add]; omega) | exact isSome_of (by assumption) | (simp only [Cts.len, Int.toNat_natCast, Nat.add_zero, Nat.zero_add] at *; first | assumption | omega) | exact int_eq (by omega) | exact cst_eq (by omega) | exact lit_eq (by omega) | exact posl (by omega) | exact opt_getD (posl (by omega)) _ | exact posns (by omega) | exact opt_getD (posns (by omega)) _ | exact posg (by omega) | exact opt_getD (posg (by omega)) _ | rfl | exact mine_of rfl | exact hpre.2.2.1 | exact hpre.2.2.2 | exact hpre.2.2.1.1 | exact hpre.2.2.1.2 | exact hpre.2.2.2.1 | exact hpre.2.2.2.2 | exact hO.2.1 (by omega) | exact hO.2.2.2.1 (by omega) | (apply_assumption; omega) | (refine opt_getD ?_ _; apply_assumption; omega) | exact (‹0 < _ + 1 → Option.isSome _ = true›) (by omega) | (have h8 := Int.natAbs_tdiv_le_natAbs (k : Int) (g.w.tdiv wide); omega) | (have h7 := Int.tmod_eq_emod_of_nonneg (a := (k : Int)) (b := g.w.tdiv wide) (by omega); have h6 := Int.emod_nonneg (k : Int) (show g.w.tdiv wide ≠ 0 by omega); have h5 := Int.emod_lt_of_pos (k : Int) (show 0 < g.w.tdiv wide by omega); omega) | (have h8 := Int.natAbs_tdiv_le_natAbs g.w wide; omega) | (have hf := hF k (by omega); have h8 := Int.natAbs_tdiv_le_natAbs (wide * high) (densR g (tqA g wide high k) (tqB g wide high k)).d; simp only [hx, hy, Pnt.eta, tqB_eq, hf.2.1]; omega) | (simp only [Cts.len, tqL_len, List.length_replicate] at *; omega) | (simp only [Cts.len, tqL_len, List.length_replicate]; done) | exact tqL_len .. | exact (tqL_len ..).symm | (have hf := hF k (by omega); simp only [hx, hy, Pnt.eta, tqB_eq]; omega) | (have hf := hF k (by omega); simp only [hx, hy, Pnt.eta, tqB_eq, hf.2.1]; omega) | (have hf := hF k (by omega); simp only [hx, hy, Pnt.eta, tqB_eq, hf.2.1, hf.2.2.2.1]; omega) | (exfalso; have hf := hF k (by omega); simp only [hx, hy, Pnt.eta, tqB_eq, hf.1, hf.2.1, hf.2.2.2.1] at *; first | omega | contradiction) | (refine Eq.trans (b := Cts.qx (tqL g wide high k ++ [⟨(tqD g wide high k).n, (tqD g wide high k).d⟩])) ?_ (tqL_app g wide high k rfl rfl); simp only [hx, hy, Pnt.eta, tqB_eq]; rfl) | (refine (Eq.trans (b := Cts.qx (tqL g wide high k ++ [⟨(tqD g wide high k).n, (tqD g wide high k).d⟩])) ?_ (tqL_app g wide high k rfl rfl)).symm; simp only [hx, hy, Pnt.eta, tqB_eq]; rfl) | (have hf := hF k (by omega); simp only [hx, hy, Pnt.eta, tqB_eq, hf.2.1]; exact repI_app _ _ rfl) | (have hf := hF k (by omega); simp only [hx, hy, Pnt.eta, tqB_eq, hf.2.1]; exact (repI_app _ _ rfl).symm) | (have hm := hM k (by omega) (by omega); simp [Cel.eta, Rul.eta, Grd.eta, den, denL, den_ofConst, BF.b, bfOf, Cel.sv, Rul.sv, hm.1, hm.2, hZ]; done) | (have hm := hM k (by omega) (by omega); simp only [hm.1, hm.2, hZ]; simp [Cel.eta, Rul.eta, Grd.eta, den, denL, den_ofConst, BF.b, bfOf, Cel.sv, Rul.sv]; done) | (exfalso; have hm := hM k (by omega) (by omega); simp only [hm.1, hm.2, hZ] at *; first | omega | contradiction) | fail)
    · exact hK.elim
def G66 : List (Nat × Ctr) := (6, c_lawH_FieldWeighs) :: G65
theorem okG66 : GsOk Try.prog G66 := GsOk.cons k_lawH_FieldWeighs okG65
end Go.Proofs.Ytbjgdlmiofgdnaa
namespace Go.Proofs.Ytbjgdlmiofgdnaa
open Go.Sy Go.RowKit Go.ChangeShapes Go.WideShapes Go.ChangeAt
theorem own : ownKnob Try.prog.godebug = none := by kernel_rfl
theorem laidOut : laidOutB Try.prog = true := by kernel_rfl
set_option maxRecDepth 100000 in
theorem fieldWeighs_lifted (os : Os) (started : os.Started) (H : Type) (enc : TypeId × Value → H) :
    ReturnsInHanded {} Try.checked os 6 .any (Rows.fieldWeighsSpec.pre6 enc Try.prog Try.f6 Rows.fieldWeighsRow.domain false) (Rows.fieldWeighsSpec.post enc Try.prog Try.f6 false true false false) := by
  refine returnsInHanded_of_change (C := Try.checked) own started (by kernel_rfl) Try.func6
    (ChangeSpec.witness6 (enc := enc) (C := Try.checked) false ⟨#[], #[.slice none 0 0, .slice none 0 0, .agg #[.int .i64 0, .int .i64 0, .slice none 0 0], .int .i64 0, .int .i64 0], []⟩ 8 (by kernel_rfl) (by kernel_rfl) (by kernel_rfl) (by kernel_rfl)) ?_
  intro W base args ds gs before hval0 hW hcnd _
  have hval : ∀ (j : Nat) t v, Try.f6.params[j]? = some t → args[j]? = some v → Value.okWide Try.prog W .any base t v := hval0
  have hW' := hW
  obtain ⟨p, q, hA0, hV, rfl, hfz, hnd⟩ := hW
  have hA : DataW.TrodAll enc Try.prog W 0 (fun _ => true) true Try.f6.params.toList args.toList ds p := hA0
  rw [Try.params6] at hA hval
  obtain ⟨v0, vs0, d0, ds0, p0, q0, hargs, rfl, rfl, h0, r0⟩ := trodAll_cons hA
  obtain ⟨v1, vs1, d1, ds1, p1, q1, rfl, rfl, rfl, h1, r1⟩ := trodAll_cons r0
  obtain ⟨v2, vs2, d2, ds2, p2, q2, rfl, rfl, rfl, h2, r2⟩ := trodAll_cons r1
  obtain ⟨v3, vs3, d3, ds3, p3, q3, rfl, rfl, rfl, h3, r3⟩ := trodAll_cons r2
  obtain ⟨v4, vs4, d4, ds4, p4, q4, rfl, rfl, rfl, h4, r4⟩ := trodAll_cons r3
  obtain ⟨rfl, rfl, rfl⟩ := trodAll_nil r4
  obtain rfl : args = #[v0, v1, v2, v3, v4] := by apply Array.ext'; exact hargs
  obtain ⟨l, al, capl, rfl, le_l, mx_l, posl, b_l⟩ := open_lq Try.underlying44 (by kernel_rfl) (by kernel_rfl) (hval 0 44 _ rfl rfl) h0
  obtain ⟨ns, ans, capns, rfl, i_ns, le_ns, mx_ns, posns, b_ns⟩ := open_li Try.underlying45 (by kernel_rfl) (by kernel_rfl) (hval 1 45 _ rfl rfl) h1
  obtain ⟨g, ag, capg, rfl, i_g, posg, b_g⟩ := open_grd (t := 24) (by kernel_rfl) (by kernel_rfl) (hval 2 24 _ rfl rfl) h2
  obtain ⟨wide, rfl, rfl, rfl, wfwide⟩ := open_int Try.underlying3 (hval 3 3 _ rfl rfl) h3
  have i_wide := wf_I64 wfwide
  obtain ⟨high, rfl, rfl, rfl, wfhigh⟩ := open_int Try.underlying3 (hval 4 3 _ rfl rfl) h4
  have i_high := wf_I64 wfhigh
  obtain ⟨v, hv, hc⟩ := k_lawH_FieldWeighs.get ⟨_, Try.func6, (by kernel_rfl), rfl⟩ [.sl 0 al 0 2 l.length capl, .sl 1 ans 0 1 ns.length capns, .agg [.int .i64 g.w, .int .i64 g.h, .sl 2 ag 0 4 g.cs.length capg], .int .i64 wide, .int .i64 high] [⟨al, false, .ro, .qx l⟩, ⟨ans, false, .ro, .ix ns⟩, ⟨ag, false, .ro, .cx g.cs⟩] (fun v => den v = .bool true) (⟨⟨rfl, rfl, rfl, posl⟩, ⟨⟨rfl, rfl, rfl, posns⟩, ⟨⟨rfl, rfl, rfl, posg⟩, ⟨⟨⟨Nat.le_trans le_l mx_l, Nat.le_trans le_ns mx_ns⟩, Nat.le_trans i_g.2.2.1 i_g.2.2.2, i_wide, i_high⟩, rfl⟩⟩⟩⟩)
  refine (hc W (fun _ hb => by simp only [List.mem_cons, List.not_mem_nil, or_false] at hb; rcases hb with rfl | rfl | rfl <;> first | exact b_l | exact b_ns | exact b_g)).mono fun e W' ⟨he, hb⟩ => ⟨_, by rw [he, hv], law_step (tb := 4) laidOut (by kernel_rfl) rfl Try.underlying4 rfl (fun ds hl => ?_) hW' hb⟩
  match ds, hl with
  | [_, _, _, _, _], _ => exact ⟨rfl, rfl, rfl⟩
theorem fieldWeighs_holds : Rows.FieldWeighsSaid :=
  OpenClaim.holds_of_wide 6 Try.f6 rfl rfl rfl rfl rfl rfl rfl ⟨rfl, rfl, rfl, rfl, rfl⟩ rfl rfl rfl rfl rfl (by kernel_rfl) Try.func6 (by kernel_rfl)
    (of_decide_eq_true (by kernel_rfl)) (by unfold Func.isWrapper; rw [if_neg (of_decide_eq_false (by kernel_rfl))]; exact ⟨rfl, rfl⟩)
    (fun os started H enc _ => fieldWeighs_lifted os started H enc)
#print axioms fieldWeighs_holds
end Go.Proofs.Ytbjgdlmiofgdnaa
