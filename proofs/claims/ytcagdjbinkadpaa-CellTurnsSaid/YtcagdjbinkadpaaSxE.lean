/- Operations with an effect, regions in whatever order, code, functions. -/
import Derived.Test.YtcagdjbinkadpaaSxD
set_option linter.unusedSimpArgs false
set_option linter.unusedVariables false
namespace Go.Sx
open Go.RowKit

/-! ### A region whose order is open, quiet but for a tail in one order -/
section
variable {P : Program} {ops : Array Oper} {md : Region.Mode} {C : World → Prop}

def wpAnyT (P : Program) (md : Region.Mode) (ops : Array Oper) (C : World → Prop) (n : Nat) (L : Array Bool → Act → Prop) : Nat → Array Bool → Act → Prop
  | 0, listed, a => L listed a
  | f + 1, listed, a => Region.ready md ops listed ≠ [] ∧ ∀ i ∈ Region.ready md ops listed, i < n ∧ qOp P ops C i (wpAnyT P md ops C n L f (listed.setIfInBounds i true)) a

theorem wpAny_of_T {n g : Nat} {L : Array Bool → Act → Prop} {Q' : Exit → Act → World → Prop} (hL : ∀ listed a w, C w → L listed a → wpAny P md ops Q' g listed a w) :
    ∀ (f : Nat) (listed : Array Bool) (a : Act) (w : World), C w → wpAnyT P md ops C n L f listed a → wpAny P md ops Q' (f + g) listed a w
  | 0, listed, a, w, hw, h => by rw [Nat.zero_add]; exact hL _ _ _ hw h
  | f + 1, listed, a, w, hw, h => by
    rw [show f + 1 + g = (f + g) + 1 by omega]
    exact ⟨fun h0 => absurd h0 h.1, fun i hi => wpOp_of_qOp hw (fun a' w' hw' h' => wpAny_of_T hL f _ a' w' hw' h') (h.2 i hi).2⟩

theorem wpAnyT_first {n i : Nat} {oi : Oper} {v : Value} {L : Array Bool → Act → Prop} (hi : ops[i]? = some oi) (hsel : ∀ (j : Nat) (o : Oper) cs b, ops[j]? = some o → o.op ≠ .select cs b)
    (hs : Region.sinkB md ops n = true) (hc : Region.chainB md ops n = true) (hn : n < ops.size) (hin : i < n)
    (hdone : ∀ listed a, L listed a → ∀ j ∈ Region.ready md ops listed, n ≤ j) :
    ∀ (f : Nat) (listed : Array Bool) (a : Act), HeadInv md ops n listed →
      (∀ j oj, ops[j]? = some oj → j ≠ i → listed.getD j true = false → (∀ e ∈ oj.after, Region.binds md e = true → e.on ≠ i) → oi.apart ops oj = true) →
      i ∈ Region.ready md ops listed → YieldsIn P ops C oi v a →
      wpAnyT P md ops C n L f (listed.setIfInBounds i true) (a.put oi.dst v) → wpAnyT P md ops C n L (f + 1) listed a := by
  intro f
  induction f with
  | zero =>
    intro listed a inv _ hr hy H
    have hun := (mem_ready.1 hr).1
    refine ⟨fun h => (by rw [h] at hr; cases hr), fun j hj => ?_⟩
    have hjn : j < n := (Nat.lt_or_ge j n).resolve_right fun h => absurd hj (tail_waits hs hc hn inv _ i rfl hin hun j h)
    refine ⟨hjn, ?_⟩
    by_cases hji : j = i
    · subst hji; exact hy.qOp hi H
    · have := hdone _ _ H j (ready_mono hj hji)
      omega
  | succ f ih =>
    intro listed a inv hfree hr hy H
    have hun := (mem_ready.1 hr).1
    refine ⟨fun h => (by rw [h] at hr; cases hr), fun j hj => ?_⟩
    have hjn : j < n := (Nat.lt_or_ge j n).resolve_right fun h => absurd hj (tail_waits hs hc hn inv _ i rfl hin hun j h)
    refine ⟨hjn, ?_⟩
    by_cases hji : j = i
    · subst hji; exact hy.qOp hi H
    · have h1 := (H.2 j (ready_mono hj hji)).2
      obtain ⟨hjun, oj, hoj, hall⟩ := mem_ready.1 hj
      have hnot : ∀ e ∈ oj.after, Region.binds md e = true → e.on ≠ i := fun e he hb heq => by
        have h1 := hall e he hb
        rw [heq, getD_both hun] at h1
        cases h1
      have h2 := qOp_put hoj (hfree j oj hoj hji hjun hnot) (fun cs b => hsel i oi cs b hi) (fun cs b => hsel j oj cs b hoj) hy h1
      have hfree' : ∀ k ok, ops[k]? = some ok → k ≠ i → (listed.setIfInBounds j true).getD k true = false →
          (∀ e ∈ ok.after, Region.binds md e = true → e.on ≠ i) → oi.apart ops ok = true := fun k ok hk hki hun2 hno => by
        refine hfree k ok hk hki ?_ hno
        by_cases hjk : j = k
        · subst hjk; exact hjun
        · rw [getD_set_ne true hjk] at hun2; exact hun2
      refine qOp_mono (fun a' h3 => ih (listed.setIfInBounds j true) a' (inv.set hj hjn) hfree' (ready_mono hr (Ne.symm hji)) h3.1 ?_) h2
      rw [Array.setIfInBounds_comm _ _ hji]
      exact h3.2

theorem wpAnyT_lex {n g : Nat} {Lq : Act → Prop} (hsel : Region.noSelect ops = true) (hs : Region.sinkB md ops n = true) (hc : Region.chainB md ops n = true) (hn : n < ops.size) :
    ∀ (l : List Oper) (k : Nat) (listed : Array Bool) (a : Act), (∀ j, j < l.length → l[j]? = ops[k + j]?) → k + l.length = n → HeadInv md ops n listed →
    Region.lexHead md ops g l.length k listed = true → wpQuiet P ops C Lq l a →
    wpAnyT P md ops C n (fun listed' a' => Region.seqB md ops g n listed' = true ∧ Lq a') l.length listed a
  | [], k, listed, a, _, hk, _, hB, h => by
    have : k = n := by simpa using hk
    subst this
    exact ⟨by simpa [Region.lexHead] using hB, h⟩
  | o :: l, k, listed, a, hl, hk, inv, hB, h => by
    have h0 : ops[k]? = some o := by simpa using (hl 0 (by simp)).symm
    simp only [List.length_cons, Region.lexHead, Bool.and_eq_true] at hB
    obtain ⟨⟨hr, hf⟩, hB'⟩ := hB
    have hkn : k < n := by simp only [List.length_cons] at hk; omega
    have hr' : k ∈ Region.ready md ops listed := by simpa using hr
    have hst : qOp P ops C k (wpQuiet P ops C Lq l) a := by unfold qOp; simp only [h0]; exact h
    obtain ⟨v, hy, hK⟩ := yieldsIn_of_qOp h0 hst
    exact wpAnyT_first h0 (Region.noSelect_spec hsel) hs hc hn hkn (fun listed' a' hL => seqB_ready hL.1) l.length listed a inv (Region.free_spec h0 hf) hr' hy
      (wpAnyT_lex hsel hs hc hn l (k + 1) _ _ (fun j hj => by have := hl (j + 1) (by simp; omega); simpa [Nat.add_assoc, Nat.add_comm 1 j] using this) (by simp only [List.length_cons] at hk; omega) (inv.set hr' hkn) hB' hK)

theorem wp_region_quiet_tail {id : Nat} {Q : Exit → Act → World → Prop} {a : Act} {w : World} {l : List Oper} (n : Nat) (hm : P.follows .mixedOrders = true) (hB : Region.lexTailB .any l.toArray n = true)
    (hC : C { w with drawn := w.drawn + 1 }) (h : wpQuiet P l.toArray C (fun a' => ∀ w', C w' → wpList P l.toArray Q (l.drop n) a' w') (l.take n) a) : (Code.region id l.toArray true).wp P Q a w := by
  simp only [Region.lexTailB, Bool.and_eq_true, decide_eq_true_eq] at hB
  obtain ⟨⟨⟨⟨hsel, hn⟩, hs⟩, hc⟩, hlex⟩ := hB
  have hn' : n < l.length := by simpa using hn
  have htl : (l.take n).length = n := by simp; omega
  have hdl : (l.drop n).length = l.toArray.size - n := by simp
  have inv0 : HeadInv .any l.toArray n (Array.replicate l.toArray.size false) :=
    ⟨by simp, fun j oj _ hl => (by rw [getD_replicate_false] at hl; cases hl), fun t _ ht => getD_in (by simpa using ht) (getD_replicate_false _ _)⟩
  have H := wpAnyT_lex (C := C) (md := .any) (g := l.toArray.size - n) hsel hs hc hn (l.take n) 0 _ a (fun j hj => by
    have hj' : j < n := by rw [htl] at hj; exact hj
    simp [hj']) (by simpa using htl) inv0 (by rw [htl]; exact hlex) h
  refine wp_region_any hm ?_
  have := wpAny_of_T (Q' := Q) (g := l.toArray.size - n) (fun listed a' w' hw' hL => by
    have := wpAny_of_seq (md := .any) (Q' := Q) (l.drop n) n listed a' w' (fun j => by simp [List.getElem?_drop]) (by rw [hdl]; exact hL.1) (hL.2 w' hw')
    rwa [hdl] at this) _ _ _ _ hC H
  rw [htl, show n + (l.toArray.size - n) = l.toArray.size by omega] at this
  exact this
end

/-! ### Operations with an effect -/
/-- A contract with an effect on the blocks. -/
abbrev ECtr := List SV → List HB → (SV → List HB → Prop) → Prop
structure EOk (P : Program) (f : FuncId) (c : ECtr) : Prop where
  enters : Enters P f
  ok : ∀ (args : List SV) (hp : List HB) (K : SV → List HB → Prop), c args hp K → ∀ w0 w, Holds w0 w hp →
    Calls P f (denL args).toArray w fun e w' => ∃ v hp', K v hp' ∧ e = .returned (den v) ∧ Holds w0 w' hp'
def EsOk (P : Program) (E : List (Nat × ECtr)) : Prop := ∀ f c, lookN E f = some c → EOk P f c
theorem EsOk.nil (P : Program) : EsOk P [] := fun _ _ h => by simp [lookN] at h
theorem EsOk.cons {P : Program} {E : List (Nat × ECtr)} {f : Nat} {c : ECtr} (h : EOk P f c) (hE : EsOk P E) : EsOk P ((f, c) :: E) := fun u j hj => by
  unfold lookN at hj
  split at hj
  · rename_i he
    have : f = u := Nat.eq_of_beq_eq_true he
    subst this
    cases hj
    exact h
  · exact hE u j hj

def appK : List HB → HB → (List HB → Prop) → Prop
  | [], b, K => K [b]
  | x :: xs, b, K => appK xs b fun ys => K (x :: ys)
theorem appK_eq : ∀ (hp : List HB) (b : HB) (K : List HB → Prop), appK hp b K = K (hp ++ [b])
  | [], _, _ => rfl
  | x :: xs, b, K => by rw [appK, appK_eq xs b]; rfl
def lenK : List HB → Nat → (Nat → Prop) → Prop
  | [], n, K => K n
  | _ :: xs, n, K => lenK xs (n + 1) K
theorem lenK_eq : ∀ (hp : List HB) (n : Nat) (K : Nat → Prop), lenK hp n K = K (n + hp.length)
  | [], _, _ => rfl
  | x :: xs, n, K => by rw [lenK, lenK_eq xs]; simp [Nat.add_assoc, Nat.add_comm 1]
def setHK : List HB → Nat → HB → (List HB → Prop) → Prop
  | [], _, _, K => K []
  | _ :: xs, 0, b, K => K (b :: xs)
  | x :: xs, n + 1, b, K => setHK xs n b fun ys => K (x :: ys)
theorem setHK_eq : ∀ (hp : List HB) (i : Nat) (b : HB) (K : List HB → Prop), setHK hp i b K = K (hp.set i b)
  | [], _, _, _ => rfl
  | _ :: _, 0, _, _ => rfl
  | x :: xs, n + 1, b, K => by rw [setHK, setHK_eq xs n]; rfl
def setSK : List SV → Nat → SV → (List SV → Prop) → Prop
  | [], _, _, K => K []
  | _ :: xs, 0, v, K => K (v :: xs)
  | x :: xs, n + 1, v, K => setSK xs n v fun ys => K (x :: ys)
theorem setSK_eq : ∀ (xs : List SV) (i : Nat) (b : SV) (K : List SV → Prop), setSK xs i b K = K (xs.set i b)
  | [], _, _, _ => rfl
  | _ :: _, 0, _, _ => rfl
  | x :: xs, n + 1, b, K => by rw [setSK, setSK_eq xs n]; rfl
def setLK : List SV → Nat → List SV → (List SV → Prop) → Prop
  | xs, _, [], K => K xs
  | xs, o, v :: vs, K => setSK xs o v fun ys => setLK ys (o + 1) vs K
theorem setLK_eq : ∀ (vs xs : List SV) (o : Nat) (K : List SV → Prop), setLK xs o vs K = K (setL xs o vs)
  | [], _, _, _ => rfl
  | v :: vs, xs, o, K => by rw [setLK, setSK_eq, setLK_eq vs]; rfl
def setCK (c : Cts) (o : Nat) (vs : List SV) (K : Cts → Prop) : Prop :=
  match c with
  | .l xs => setLK xs o vs fun ys => K (.l ys)
  | c => K (c.set o vs)
theorem setCK_eq (c : Cts) (o : Nat) (vs : List SV) (K : Cts → Prop) : setCK c o vs K = K (c.set o vs) := by
  cases c <;> first | rfl | (rw [setCK, setLK_eq]; rfl)

def newBlk (hp : List HB) (t : TypeId) (xs : List SV) (K : SV → List HB → Prop) : Prop :=
  ∀ g : Nat, lenK hp 0 fun n => appK hp ⟨⟨g, 0⟩, true, true, t, .l xs⟩ fun hp' => K (.ptr n ⟨g, 0⟩ 0) hp'

theorem newBlk_sound {hp : List HB} {t : TypeId} {xs : List SV} {K : SV → List HB → Prop} (h : newBlk hp t xs K) {w0 w : World} (hw : Holds w0 w hp) :
    ∃ v hp', K v hp' ∧ Value.pointer (some ⟨w.heap.size, 0, none⟩) = den v ∧ Holds w0 (w.alloc (.cells (denL xs).toArray t)) hp' :=
  by
  have h := h w.heap.size
  rw [lenK_eq, appK_eq] at h
  exact ⟨_, _, h, rfl, hw.new _ t (.l xs) (by simp [denL_map, Cts.n]) (fun o ho => by
    have ho : o < xs.length := ho
    simp [denL_map, Cts.get, ho])⟩

def evAlloc (T : List (Nat × TyI)) (t : TypeId) (hp : List HB) (K : SV → List HB → Prop) : Prop :=
  match lookN T t with
  | some ty => newBlk hp t ty.zero K
  | none => False
def evBox (t : TypeId) (v : SV) (hp : List HB) (K : SV → List HB → Prop) : Prop :=
  match v.row with
  | some xs => newBlk hp t xs K
  | none => False
def evStore (T : List (Nat × TyI)) (t : TypeId) (x v : SV) (hp : List HB) (K : SV → List HB → Prop) : Prop :=
  match x with
  | .ptr i nm o =>
    match hp[i]?, lookN T t, v.row with
    | some b, some ty, some vs =>
      match b.wr, Nat.beq vs.length ty.size with
      | true, true => b.nm = nm ∧ o + vs.length ≤ b.cts.n ∧ setCK b.cts o vs fun c => setHK hp i ⟨b.nm, b.wr, b.own, b.ty, c⟩ fun hp' => K .und hp'
      | _, _ => False
    | _, _, _ => False
  | _ => False

theorem evStore_sound {P : Program} {T : List (Nat × TyI)} (hT : TOk P T) {t : TypeId} {x v : SV} {hp : List HB} {K : SV → List HB → Prop} (h : evStore T t x v hp K) {w0 w : World} (hw : Holds w0 w hp) :
    ∃ hp' w', K .und hp' ∧ (Instr.storeAt t (den x) (den v)).run P w = .ok () w' ∧ Holds w0 w' hp' := by
  unfold evStore at h
  split at h
  · rename_i i nm o
    split at h
    · rename_i b ty vs hb hty hv
      split at h
      · rename_i hwr hsz
        obtain ⟨rfl, hn, h⟩ := h
        rw [setCK_eq, setHK_eq] at h
        have hty := hT _ _ hty
        have hsz := Nat.eq_of_beq_eq_true hsz
        obtain ⟨hc, h1⟩ := SV.row_sound hv
        have hbk := hw.blk b (List.mem_of_getElem? hb)
        have hbk' := hbk
        unfold HB.ok at hbk'
        rw [if_pos hwr] at hbk'
        obtain ⟨hb0, cs, hcs, hcsz, hcell⟩ := hbk'
        have hl : (denL vs).length = vs.length := by simp [denL_map]
        obtain ⟨w', hr, he, e1, e2, e3, e4, e5⟩ := run_storeCells_in P b.nm.g (0 + o) b.ty (denL vs) 0 cs w hcs (by omega) h1
        refine ⟨_, w', h, ?_, hw.set hb hwr hcs hcsz hcell (by rw [Nat.zero_add, Nat.add_zero] at he; exact he) hn e1 e2 e3 e4 e5⟩
        have hs2 : (denL vs).toArray.size = ty.size := by rw [← hsz, ← hl]; simp
        simp only [Instr.storeAt, den, Instr.sureAddr, Sem.run_bind, Sem.run_pure, Result.andThen_ok, storeVar, hc, run_sizeOf hty.sz, hs2]
        rw [hb0]
        simpa using hr
      · exact h.elim
    · exact h.elim
  · exact h.elim

/-- Does an operation act? -/
def isEff (E : List (Nat × ECtr)) (fr : List (Nat × SV)) : Op → Bool
  | .alloc _ | .box .. | .store .. | .buildSlice .. | .makeSlice .. => true
  | .call ⟨.builtin .append, _, _⟩ | .call ⟨.builtin .copy, _, _⟩ => true
  | .call ⟨.value (.func f), _, _⟩ => (lookN E f).isSome
  | _ => false

def evECall (E : List (Nat × ECtr)) (fv : SV) (args : List SV) (hp : List HB) (K : SV → List HB → Prop) (K' : Prop) : Prop :=
  match fv with
  | .fn f first cap => match lookN E f with
    | some c => c (first ++ args ++ cap) hp K
    | none => K'
  | _ => K'

/-- One operation. -/
def evE (T : List (Nat × TyI)) (G : List (Nat × Ctr)) (E : List (Nat × ECtr)) (op : Op) (ty : TypeId) (fr : List (Nat × SV)) (hp : List HB) (K : SV → List HB → Prop) : Prop :=
  match op with
  | .alloc t => evAlloc T t hp K
  | .box t x => withV (ev fr x) fun v => evBox t v hp K
  | .store t x v => withV (ev fr x) fun x => withV (ev fr v) fun v => evStore T t x v hp K
  | .call ⟨.value f, args, tys⟩ => withV (ev fr f) fun f' => withVs fr args.toList fun xs => evECall E f' xs hp K (evQ T G (.call ⟨.value f, args, tys⟩) ty fr hp fun v => K v hp)
  | op => evQ T G op ty fr hp fun v => K v hp

/-- What comes of one operation in one world. -/
theorem evE_sound {P : Program} {T : List (Nat × TyI)} {G : List (Nat × Ctr)} {E : List (Nat × ECtr)} (hT : TOk P T) (hG : GsOk P G) (hE : EsOk P E) {N : Nat} {o : Oper} {fr : List (Nat × SV)} {hp : List HB}
    {K : SV → List HB → Prop} (h : evE T G E o.op o.type fr hp K) {a : Act} {w0 w : World} (hf : FrOk N fr a) (hw : Holds w0 w hp) {next : Act → World → Prop} {Q : Exit → Act → World → Prop}
    (hn : ∀ v hp' w', K v hp' → Holds w0 w' hp' → next (a.put o.dst (den v)) w') : o.wp P a w next Q := by
  have quiet : ∀ {v : SV}, K v hp → Yields P N fr hp o v → o.wp P a w next Q := fun {v} hK hy => by
    have := hy a w0 w hf hw
    unfold Oper.quietAt at this
    unfold Oper.wp
    generalize (execOp a.eval o).run P w = r at *
    cases r with
    | ok n w' =>
      cases n <;> simp only [Oper.quietUpon] at this <;> simp only [Oper.upon]
      case value u => obtain ⟨rfl, rfl⟩ := this; exact hn v hp _ hK hw
      case skip => obtain ⟨rfl, e⟩ := this; rw [← e]; exact hn v hp _ hK hw
      case enter f args =>
        obtain ⟨rfl, hc⟩ := this
        exact hc.mono fun e w'' ⟨he, hw''⟩ => by subst he; exact hn v hp _ hK hw''
    | halt x w' => simp only [Oper.quietUpon] at this
  obtain ⟨dst, op, ty, pos, after, guard⟩ := o
  simp only [evE] at h
  split at h
  · rename_i t
    unfold evAlloc at h
    split at h
    · rename_i i hi
      have hty := hT _ _ hi
      obtain ⟨f, z, hf1, _, hz, hzc⟩ := hty.info
      obtain ⟨v, hp', hK, hv, hw'⟩ := newBlk_sound h hw
      have hrun : (execOp a.eval ⟨dst, .alloc t, ty, pos, after, guard⟩).run P w = .ok (.value (den v)) (w.alloc (.cells (denL i.zero).toArray t)) := by
        have hzc' : z.cells = (denL i.zero).toArray := by rw [← hzc]
        simp [execOp, Instr.alloc, zeroValue, typeInfo, hf1, hz, newVar, newRow, hzc', ← hv]
      unfold Oper.wp
      rw [hrun]
      exact hn v hp' _ hK hw'
    · exact h.elim
  · rename_i t x
    obtain ⟨xv, hx, h⟩ := withV_iff h
    unfold evBox at h
    split at h
    · rename_i xs hxs
      obtain ⟨v, hp', hK, hv, hw'⟩ := newBlk_sound h hw
      have hrun : (execOp a.eval ⟨dst, .box t x, ty, pos, after, guard⟩).run P w = .ok (.value (den v)) (w.alloc (.cells (denL xs).toArray t)) := by
        simp [execOp, Instr.box, newVar, newRow, ev_sound hf hx, (SV.row_sound hxs).1, ← hv]
      unfold Oper.wp
      rw [hrun]
      exact hn v hp' _ hK hw'
    · exact h.elim
  · rename_i t x y
    obtain ⟨xv, hx, h⟩ := withV_iff h
    obtain ⟨yv, hy, h⟩ := withV_iff h
    obtain ⟨hp', w', hK, hr, hw'⟩ := evStore_sound hT h hw
    have hrun : (execOp a.eval ⟨dst, .store t x y, ty, pos, after, guard⟩).run P w = .ok .skip w' := by
      simp [execOp, ev_sound hf hx, ev_sound hf hy, hr]
    unfold Oper.wp
    rw [hrun]
    exact hn .und hp' _ hK hw'
  · rename_i f args tys
    obtain ⟨fv, hfv, h⟩ := withV_iff h
    obtain ⟨xs, h, hxs⟩ := withVs_iff h
    have other : evQ T G (.call ⟨.value f, args, tys⟩) ty fr hp (fun v => K v hp) → Oper.wp P ⟨dst, .call ⟨.value f, args, tys⟩, ty, pos, after, guard⟩ a w next Q := fun h => by
      obtain ⟨v, hK, hy⟩ := evQ_sound (N := N) (o := ⟨dst, .call ⟨.value f, args, tys⟩, ty, pos, after, guard⟩) hT hG h
      exact quiet hK hy
    unfold evECall at h
    split at h
    · rename_i fid first cap _
      split at h
      · rename_i c hc
        obtain ⟨hen, hok⟩ := hE _ _ hc
        have e1 : args.map a.eval = (denL xs).toArray := by apply Array.ext'; rw [← hxs hf]; simp
        have e2 := ev_sound hf hfv
        have hrun : (execOp a.eval ⟨dst, .call ⟨.value f, args, tys⟩, ty, pos, after, guard⟩).run P w = .ok (.enter fid (denL (first ++ xs ++ cap)).toArray) w := by
          simp only [execOp, resolve, e2, den, Deferred.ofValue, Sem.run_bind, Sem.run_pure, Result.andThen_ok, invoke, e1]
          rw [run_callFunc hen]
          simp [denL_map]
        unfold Oper.wp
        rw [hrun]
        exact (hok _ _ _ h w0 w hw).mono fun e w' ⟨v, hp', hK, he, hw'⟩ => by subst he; exact hn v hp' w' hK hw'
      · exact other h
    · exact other h
  · obtain ⟨v, hK, hy⟩ := evQ_sound (N := N) (o := ⟨dst, op, ty, pos, after, guard⟩) hT hG h
    exact quiet hK hy
end Go.Sx
