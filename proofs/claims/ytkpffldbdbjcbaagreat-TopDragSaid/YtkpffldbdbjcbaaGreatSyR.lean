/- From the walk to the row: arguments opened, the law's last step. -/
import Derived.Test.YtkpffldbdbjcbaaGreatSyK
import Derived.ProofKit
set_option linter.unusedSimpArgs false
set_option linter.unusedVariables false
namespace Go.Sy
open Go.RowKit Go.ChangeShapes Go.WideShapes Go.ChangeAt

theorem mapM_some {α β : Type} {f : α → Option β} : ∀ {l : List α} {ys : List β}, l.mapM f = some ys → ∀ x ∈ l, ∃ y, f x = some y
  | [], _, _, x, hx => by cases hx
  | a :: l, ys, h, x, hx => by
    simp only [List.mapM_cons, Option.bind_eq_bind, Option.pure_def] at h
    cases ha : f a with
    | none => simp [ha] at h
    | some y =>
      cases hl : l.mapM f with
      | none => simp [ha, hl] at h
      | some zs =>
        rcases List.mem_cons.1 hx with rfl | hx
        · exact ⟨y, ha⟩
        · exact mapM_some hl x hx

/-- So many whole numbers of kind int make up the type. -/
def fldN (P : Program) (g : TypeId → Option Nat) : List Field → Nat → Option Nat
  | [], i => some i
  | f :: fs, i => match g f.type with
    | some m => if f.offset = i ∧ P.cellsOf f.type = m then fldN P g fs (i + m) else none
    | none => none
def intsN (P : Program) : Nat → TypeId → Option Nat
  | 0, _ => none
  | d + 1, t => match P.underlying t with
    | some (.int .i64) => some 1
    | some (.array n e) => match intsN P d e with
      | some m => if P.cellsOf e = m ∧ P.cellsOf t = n * m then some (n * m) else none
      | none => none
    | some (.struct fs) => match fldN P (intsN P d) fs.toList 0 with
      | some n => if P.cellsOf t = n then some n else none
      | none => none
    | _ => none

def IsInt (v : Value) : Prop := ∃ a : Int, v = .int .i64 a ∧ I64 a
theorem wf_I64 {n : Int} (h : (Lit.int .i64 n).wf = true) : I64 n := by
  simp only [Lit.wf, Bool.and_eq_true, decide_eq_true_eq] at h
  exact ⟨by have := h.1; simpa [IntKind.min, IntKind.signed, IntKind.bits] using this, by have := h.2; simpa [IntKind.max, IntKind.signed, IntKind.bits] using this⟩

section
variable {H : Type} {enc : TypeId × Value → H} {P : Program} {w : World} {base : Nat} {spare : Nat → Bool} {held : Bool}

theorem fldN_ints {g : TypeId → Option Nat} {fuel : Nat} {cs : List Value} (hg : ∀ t n, g t = some n → ∀ cs (x : DataW H × List MemPlace), DataW.trod enc P w base spare held fuel t cs = some x → ∀ v ∈ cs, IsInt v) :
    ∀ {fs : List Field} {i n : Nat}, fldN P g fs i = some n → (∀ f ∈ fs, ∃ y, DataW.trod enc P w base spare held fuel f.type ((cs.drop f.offset).take (P.cellsOf f.type)) = some y) →
      ∀ j v, i ≤ j → j < n → cs[j]? = some v → IsInt v
  | [], i, n, h, _, j, v, h1, h2, _ => by simp [fldN] at h; omega
  | f :: fs, i, n, h, hy, j, v, h1, h2, hv => by
    unfold fldN at h
    split at h
    · rename_i m hm
      split at h
      · rename_i hof
        by_cases hj : j < i + m
        · obtain ⟨y, hyf⟩ := hy f (by simp)
          refine hg _ _ hm _ _ hyf v (List.mem_iff_getElem?.2 ⟨j - i, ?_⟩)
          rw [hof.1, hof.2, List.getElem?_take, if_pos (by omega), List.getElem?_drop, show i + (j - i) = j by omega]
          exact hv
        · exact fldN_ints hg h (fun f hf => hy f (by simp [hf])) j v (by omega) h2 hv
      · cases h
    · cases h

theorem trod_ints : ∀ (d : Nat) (t : TypeId) (n : Nat), intsN P d t = some n → ∀ (fuel : Nat) (cs : List Value) (x : DataW H × List MemPlace), DataW.trod enc P w base spare held fuel t cs = some x →
    cs.length = n ∧ ∀ v ∈ cs, IsInt v
  | 0, t, n, h, _, _, _, _ => by simp [intsN] at h
  | d + 1, t, n, h, fuel, cs, x, hx => by
    cases fuel with
    | zero => simp [DataW.trod] at hx
    | succ fuel =>
    unfold intsN at h
    split at h
    · rename_i hu
      cases h
      obtain ⟨a, rfl, _, hw⟩ := DataW.trod_int hu hx
      exact ⟨rfl, fun v hv => by rw [List.mem_singleton] at hv; subst hv; exact ⟨a, rfl, wf_I64 hw⟩⟩
    · rename_i k e hu
      split at h
      · rename_i m hm
        split at h
        · rename_i hc
          cases h
          unfold DataW.trod at hx
          simp only [hu] at hx
          split at hx
          · rename_i hl
            refine ⟨by rw [hl, hc.2], fun v hv => ?_⟩
            cases hmp : (List.range k).mapM fun i => DataW.trod enc P w base spare held fuel e ((cs.drop (i * P.cellsOf e)).take (P.cellsOf e)) with
            | none => simp [hmp] at hx
            | some ys =>
              obtain ⟨j, hj⟩ := List.mem_iff_getElem?.1 hv
              have hjl : j < cs.length := (List.getElem?_eq_some_iff.1 hj).1
              rw [hl, hc.2] at hjl
              have hm0 : 0 < m := by
                rcases Nat.eq_zero_or_pos m with h0 | h0
                · subst h0; simp at hjl
                · exact h0
              have hi : j / m < k := by rw [Nat.div_lt_iff_lt_mul hm0]; exact hjl
              obtain ⟨y, hy⟩ := mapM_some hmp (j / m) (List.mem_range.2 hi)
              obtain ⟨_, hall⟩ := trod_ints d e m hm fuel _ y hy
              refine hall v (List.mem_iff_getElem?.2 ⟨j % m, ?_⟩)
              rw [hc.1, List.getElem?_take, if_pos (Nat.mod_lt _ hm0), List.getElem?_drop, show j / m * m + j % m = j by rw [Nat.mul_comm]; exact Nat.div_add_mod j m]
              exact hj
          · cases hx
        · cases h
      · cases h
    · rename_i fs hu
      split at h
      · rename_i m hm
        split at h
        · rename_i hc
          cases h
          unfold DataW.trod at hx
          simp only [hu] at hx
          split at hx
          · rename_i hl
            refine ⟨by rw [hl, hc], fun v hv => ?_⟩
            cases hmp : fs.toList.mapM fun f => DataW.trod enc P w base spare held fuel f.type ((cs.drop f.offset).take (P.cellsOf f.type)) with
            | none => simp [hmp] at hx
            | some ys =>
              obtain ⟨j, hj⟩ := List.mem_iff_getElem?.1 hv
              have hjl : j < cs.length := (List.getElem?_eq_some_iff.1 hj).1
              refine fldN_ints (fun t n hg cs x hx => (trod_ints d t n hg fuel cs x hx).2) hm (fun f hf => mapM_some hmp f hf) j v (Nat.zero_le _) (by omega) hj
          · cases hx
        · cases h
      · cases h
    · cases h

theorem allInt : ∀ {cs : List Value}, (∀ v ∈ cs, IsInt v) → ∃ xs : List Int, cs = xs.map (Value.int .i64) ∧ ∀ a ∈ xs, I64 a
  | [], _ => ⟨[], rfl, fun _ h => by cases h⟩
  | v :: cs, h => by
    obtain ⟨a, rfl, ha⟩ := h v (by simp)
    obtain ⟨xs, rfl, hx⟩ := allInt (cs := cs) fun u hu => h u (by simp [hu])
    exact ⟨a :: xs, rfl, fun b hb => by
      rcases List.mem_cons.1 hb with rfl | hb
      · exact ha
      · exact hx b hb⟩

/-- A struct or an array of whole numbers, by value. -/
theorem open_ints_agg {r : Reach} {b0 : Nat} {t : TypeId} {v : Value} {d : DataW H} {ps : List MemPlace} {n : Nat} (hn : intsN P 8 t = some n) (hagg : (match P.underlying t with | some (.struct _) | some (.array _ _) => true | _ => false) = true)
    (hval : Value.okWide P w r b0 t v) (hd : DataW.Trod enc P w base spare held t v d ps) : ∃ xs : List Int, v = .agg (xs.map (Value.int .i64)).toArray ∧ xs.length = n ∧ ∀ a ∈ xs, I64 a := by
  obtain ⟨fuel, hf⟩ := hd
  obtain ⟨hl, hi⟩ := trod_ints 8 t n hn fuel _ _ hf
  obtain ⟨xs, hx, hb⟩ := allInt hi
  have hv : ∃ cs, v = .agg cs := by
    unfold Value.okWide at hval
    split at hagg
    · rename_i fs hu; rw [hu] at hval; obtain ⟨cs, h, _⟩ := hval; exact ⟨cs, h⟩
    · rename_i k e hu; rw [hu] at hval; obtain ⟨cs, h, _⟩ := hval; exact ⟨cs, h⟩
    · cases hagg
  obtain ⟨cs, rfl⟩ := hv
  simp only [Value.cells] at hx hl
  refine ⟨xs, by rw [← hx], by rw [hx] at hl; simpa using hl, hb⟩
end
theorem trodAll_length {H : Type} {enc : TypeId × Value → H} {P : Program} {w : World} {base : Nat} {spare : Nat → Bool} {held : Bool} : ∀ {ts : List TypeId} {vs : List Value} {ds : List (DataW H)} {ps : List MemPlace},
    DataW.TrodAll enc P w base spare held ts vs ds ps → ds.length = ts.length
  | [], vs, ds, ps, h => by obtain ⟨_, rfl, _⟩ := trodAll_nil h; rfl
  | t :: ts, vs, ds, ps, h => by
    obtain ⟨v, vs', d, ds', p, q, rfl, rfl, rfl, _, h⟩ := trodAll_cons h
    simp [trodAll_length h]

theorem trodAll_below {H : Type} {enc : TypeId × Value → H} {P : Program} (hl : laidOutB P = true) {W W' : World} (hb : Below W.heap.size W W') :
    ∀ {ts : List TypeId} {vs : List Value} {ds : List (DataW H)} {ps : List MemPlace}, (ts.all fun t => P.readableRec t && decide (t < P.types.size)) = true →
      DataW.TrodAll enc P W 0 (fun _ => true) true ts vs ds ps → (∀ x ∈ ps, x.block < W.heap.size) → DataW.TrodAll enc P W' 0 (fun b => decide (b < W.heap.size)) true ts vs ds ps
  | [], vs, ds, ps, _, h, _ => by obtain ⟨rfl, rfl, rfl⟩ := trodAll_nil h; rfl
  | t :: ts, vs, ds, ps, hr, h, hlt => by
    obtain ⟨v, vs', d, ds', p, q, rfl, rfl, rfl, h1, h2⟩ := trodAll_cons h
    simp only [List.all_cons, Bool.and_eq_true, decide_eq_true_eq] at hr
    exact ⟨p, q, Below.trod hl hr.1.1 hr.1.2 h1 hb fun x hx => hlt x (List.mem_append.2 (.inl hx)),
      trodAll_below hl hb (by simpa using hr.2) h2 fun x hx => hlt x (List.mem_append.2 (.inr hx)), rfl⟩

/-- The law's last step: true is handed back, and nothing that was there has turned. -/
theorem law_step {H : Type} {enc : TypeId × Value → H} {P : Program} {f : Func} {s : ChangeSpec} {W W' : World} {args : Array Value} {ds gs : List (DataW H)} {before : List MemPlace} {tb : TypeId}
    (hl : laidOutB P = true) (hr : (f.params.toList.all fun t => P.readableRec t && decide (t < P.types.size)) = true) (hrt : f.resultTypes = #[tb]) (htb : P.underlying tb = some .bool)
    (hs : s.vars = []) (hfn : ∀ ds : List (DataW H), ds.length = f.params.size → (s.fn H ds).results = [.lit (.bool true)] ∧ (s.fn H ds).args = ds ∧ (s.fn H ds).vars = [])
    (hW : DataW.Whole enc P f.params.toList s.vars false W args.toList ds gs before) (hb : Below W.heap.size W W') : s.post enc P f false true false false W args (.bool true) W' := by
  have hlt : ∀ p ∈ before, p.block < W.heap.size := fun p hp => hW.lt p hp
  have hW0 := hW
  obtain ⟨p, q, hA, hV, rfl, _, _⟩ := hW
  rw [hs] at hV
  obtain ⟨rfl, rfl⟩ := trodVars_none hV
  simp only [List.append_nil] at hlt hW0
  have hlen := trodAll_length hA
  obtain ⟨h1, h2, h3⟩ := hfn ds (by rw [hlen]; simp)
  refine ⟨ds, [], p, [], p, [], hW0, ?_, ?_, ?_, World.keptBut_mono (fun x hx => ⟨hx, .inr (.inl hx)⟩) (hb.frame (· ∈ p)), fun h => by cases h⟩
  · rw [List.append_nil, h1, hrt]
    exact trodAll_mk1 (shut_bool htb true)
  · rw [List.append_nil, h2]
    exact trodAll_below hl hb hr hA hlt
  · rw [List.append_nil, h3, hs]
    rfl
end Go.Sy
