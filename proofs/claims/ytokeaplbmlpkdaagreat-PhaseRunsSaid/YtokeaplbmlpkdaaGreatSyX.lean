/- Calls that only lay new blocks, beside new variables, in whatever order: one order is enough. -/
import Derived.Test.YtokeaplbmlpkdaaGreatSyW
set_option linter.unusedSimpArgs false
set_option linter.unusedVariables false
namespace Go.Sy
open Go.RowKit

/-- Whatever lay there lies there still, and the new blocks beside it. -/
def Frames (w w' : World) (news : List HB) : Prop := ∀ (w0 : World) (hq : List HB), Holds w0 w hq → Holds w0 w' (hq ++ news)
theorem Frames.of {w w' : World} {news : List HB} (hn' : Holds w w' news) (h3 : allFresh news = true) : Frames w w' news := fun w0 hp hw => by
  have hfr := allFresh_mem h3
  have hbel : Below w.heap.size w w' := hn'.toBelow (fun b hb => (hfr b hb).2.1) fun b hb _ => (hfr b hb).1
  have hold := hw.below hbel
  have hge : ∀ b ∈ news, ∀ g, b.touch g → w.heap.size ≤ g := fun b hb g ht => hn'.own b hb (hfr b hb).1 g ((hfr b hb).2.2 g ht)
  have hlt : ∀ b ∈ hp, ∀ g, b.touch g → g < w.heap.size := fun b hb g ht => (hw.blk b hb).lt ht
  refine ⟨hold.size, fun hg => ?_, fun b hb => ?_, fun b hb hbo g hbg => ?_, ?_⟩
  · obtain ⟨q1, q2, q3, q4⟩ := hold.base fun b hb => hg b (List.mem_append.2 (.inl hb))
    exact ⟨q1, q2, q3, fun k hk hnn => q4 k hk fun b hb => hnn b (List.mem_append.2 (.inl hb))⟩
  · rcases List.mem_append.1 hb with hb | hb
    · exact hold.blk b hb
    · exact hn'.blk b hb
  · rcases List.mem_append.1 hb with hb | hb
    · exact hold.own b hb hbo g hbg
    · exact Nat.le_trans hw.size (hge b hb g (.inl hbg))
  · rw [sep_iff, List.pairwise_append]
    refine ⟨sep_iff.1 hold.sep, sep_iff.1 hn'.sep, fun b hb c hc g => ⟨fun h1 h2 => ?_, fun h1 h2 => ?_⟩⟩
    · have := hlt b hb g (.inl h1); have := hge c hc g h2; omega
    · have := hlt b hb g h2; have := hge c hc g (.inl h1); omega
theorem Frames.below {w w' : World} (h : Below w.heap.size w w') : Frames w w' [] := fun w0 hq hw => by rw [List.append_nil]; exact hw.below h
theorem Frames.same (w : World) : Frames w w [] := fun w0 hq hw => by rw [List.append_nil]; exact hw

/-- A contract of a function that only lays new blocks. -/
structure WOk (P : Program) (f : FuncId) (c : ECtr) : Prop where
  enters : Enters P f
  ok : ∀ (args : List SV) (hp : List HB) (K : SV → List HB → Prop), c args hp K → ∀ w, (∀ b ∈ hp, b.ok w) →
    Calls P f (denL args).toArray w fun e w' => ∃ v news, K v (hp ++ news) ∧ e = .returned (den v) ∧ Frames w w' news
theorem WOk.eok {P : Program} {f : FuncId} {c : ECtr} (h : WOk P f c) : EOk P f c :=
  ⟨h.enters, fun args hp K hc w0 w hw => (h.ok args hp K hc w hw.blk).mono fun e w' ⟨v, news, hK, he, hf⟩ => ⟨v, hp ++ news, hK, he, hf w0 hp hw⟩⟩
theorem wok_of_wk {P : Program} (X : Env P) {f : FuncId} {fn : Func} {code : Code} (hf : P.funcs[f]? = some fn) (hb : fn.body = some code)
    (hname : (fn.name == "runtime.NumGoroutine") = false) (hN : fn.ntmps = X.N) (hrs : fn.results.toList = X.rs) {c : ECtr}
    (h : ∀ (args : List SV) (hp : List HB) (K : SV → List HB → Prop), c args hp K → ∃ (args' : List SV) (hp0 : List HB), denL args' = denL args ∧ allRo hp0 ∧ (∀ w, (∀ b ∈ hp, b.ok w) → ∀ b ∈ hp0, b.ok w) ∧
      args'.length ≤ X.N ∧ Wk X none (endP X fun v hq => ∃ v' news, den v' = den v ∧ hsel news hq ∧ allFresh news = true ∧ K v' (hp ++ news)) [.c code] [] (argFr 0 args') hp0) : WOk P f c :=
  ⟨⟨fn, hf, hname, by rw [hb]; rfl⟩, fun args hp K hc w hw => by
    obtain ⟨args', hp0, ha, hro, hsub, hn, hv⟩ := h args hp K hc
    rw [← ha]
    refine (calls_of_wk X hf hb hN hrs hn hv (Holds.ofRo (hsub w hw) hro)).mono fun e w' ⟨v, hq, ⟨v', news, h1, h2, h3, hK⟩, he, hw'⟩ => ?_
    exact ⟨v', news, hK, by rw [he, h1], Frames.of (hw'.sel h2) h3⟩⟩
def WsOk (P : Program) (W : List (Nat × ECtr)) : Prop := ∀ f c, lookN W f = some c → WOk P f c
theorem WsOk.nil (P : Program) : WsOk P [] := fun _ _ h => by simp [lookN] at h
theorem WsOk.cons {P : Program} {W : List (Nat × ECtr)} {f : Nat} {c : ECtr} (h : WOk P f c) (hW : WsOk P W) : WsOk P ((f, c) :: W) := fun u j hj => by
  unfold lookN at hj
  split at hj
  · rename_i he
    have : f = u := Nat.eq_of_beq_eq_true he
    subst this
    cases hj; exact h
  · exact hW u j hj

section
variable {P : Program} {X : Env P} {ds : List Nat}
/-- An operation that is quiet, or a call that only lays new blocks. -/
def evW (X : Env P) (W : List (Nat × ECtr)) (op : Op) (fr : List (Nat × SV)) (hp : List HB) (K : SV → List HB → Prop) : Prop :=
  match op with
  | .call ⟨.value f, args, tys⟩ => withV (ev fr f) fun f' => withVs fr args.toList fun xs => evECall W f' xs hp K (evQ X.T X.G (.call ⟨.value f, args, tys⟩) fr hp fun v => K v hp)
  | op => evQ X.T X.G op fr hp fun v => K v hp
theorem evW_sound {W : List (Nat × ECtr)} (hW : WsOk P W) {o : Oper} {fr : List (Nat × SV)} {hp : List HB} {K : SV → List HB → Prop} (h : evW X W o.op fr hp K) {a : Act} {w : World} (hf : FrOk X.N ds fr a) (hw : ∀ b ∈ hp, b.ok w)
    {next : Act → World → Prop} {Q : Exit → Act → World → Prop} (hn : ∀ v news w', K v (hp ++ news) → Frames w w' news → next (a.put o.dst (den v)) w') : o.wp P a w next Q := by
  have quiet : ∀ {v : SV}, K v hp → Yields P X.N ds fr hp o v → o.wp P a w next Q := fun {v} hK hy => by
    have := hy a w hf hw
    unfold Oper.quietAt at this
    unfold Oper.wp
    have hK' : K v (hp ++ []) := by rw [List.append_nil]; exact hK
    generalize (execOp a.eval o).run P w = r at *
    cases r with
    | ok n w' =>
      cases n <;> simp only [Oper.quietUpon] at this <;> simp only [Oper.upon]
      case value u => obtain ⟨rfl, rfl⟩ := this; exact hn v [] _ hK' (Frames.same _)
      case skip => obtain ⟨rfl, e⟩ := this; rw [← e]; exact hn v [] _ hK' (Frames.same _)
      case enter f args =>
        obtain ⟨rfl, hc⟩ := this
        exact hc.mono fun e w'' ⟨he, hb⟩ => by subst he; exact hn v [] _ hK' (Frames.below hb)
    | halt x w' => simp only [Oper.quietUpon] at this
  obtain ⟨dst, op, ty, pos, after, guard⟩ := o
  simp only [evW] at h
  split at h
  · rename_i f args tys
    obtain ⟨fv, hfv, h⟩ := withV_iff h
    obtain ⟨xs, h, hxs⟩ := withVs_iff h
    have other : evQ X.T X.G (.call ⟨.value f, args, tys⟩) fr hp (fun v => K v hp) → Oper.wp P ⟨dst, .call ⟨.value f, args, tys⟩, ty, pos, after, guard⟩ a w next Q := fun h => by
      obtain ⟨v, hK, hy⟩ := evQ_sound (N := X.N) (ds := ds) (o := ⟨dst, .call ⟨.value f, args, tys⟩, ty, pos, after, guard⟩) X.hT X.hG h
      exact quiet hK hy
    unfold evECall at h
    split at h
    · rename_i fid first cap _
      split at h
      · rename_i c hc
        obtain ⟨hen, hok⟩ := hW _ _ hc
        have e1 : args.map a.eval = (denL xs).toArray := by apply Array.ext'; rw [← hxs hf]; simp
        have e2 := ev_sound hf hfv
        have hrun : (execOp a.eval ⟨dst, .call ⟨.value f, args, tys⟩, ty, pos, after, guard⟩).run P w = .ok (.enter fid (denL (first ++ xs ++ cap)).toArray) w := by
          simp only [execOp, resolve, e2, den, Deferred.ofValue, Sem.run_bind, Sem.run_pure, Result.andThen_ok, invoke, e1]
          rw [run_callFunc hen]
          simp [denL_map]
        unfold Oper.wp
        rw [hrun]
        exact (hok _ _ _ h w hw).mono fun e w' ⟨v, news, hK, he, hfr⟩ => by subst he; exact hn v news w' hK hfr
      · exact other h
    · exact other h
  · obtain ⟨v, hK, hy⟩ := evQ_sound (N := X.N) (ds := ds) (o := ⟨dst, op, ty, pos, after, guard⟩) X.hT X.hG h
    exact quiet hK hy

theorem putS_cases {N : Nat} {d : Option Tmp} {v : SV} {fr : List (Nat × SV)} {K : List (Nat × SV) → Prop} (h : putS N d v fr K) : (d = none ∧ K fr) ∨ ∃ t, d = some t ∧ t < N ∧ K ((t, v) :: fr) := by
  unfold putS at h
  split at h
  · exact .inl ⟨rfl, h⟩
  · rename_i t
    split at h
    · rename_i hb; exact .inr ⟨t, rfl, Nat.le_of_ble_eq_true hb, h⟩
    · exact h.elim
theorem FrOk.cons {N : Nat} {fr : List (Nat × SV)} {a : Act} (hf : FrOk N ds fr a) {t : Nat} {v : SV} (h : a.tmps[t]? = some (den v)) : FrOk N ds ((t, v) :: fr) a :=
  ⟨hf.size, hf.defers, fun u x hx => by
    unfold lookN at hx
    split at hx
    · rename_i he
      have : t = u := Nat.eq_of_beq_eq_true he
      subst this
      cases hx; exact h
    · exact hf.slot u x hx⟩
theorem FrOk.other {N : Nat} {fr : List (Nat × SV)} {a : Act} (hf : FrOk N ds fr a) {t : Nat} {v : Value} (h : lookN fr t = none) : FrOk N ds fr (a.put (some t) v) :=
  ⟨by simp [Act.put, hf.size], hf.defers, fun u x hx => by
    have hne : t ≠ u := fun e => by subst e; rw [h] at hx; cases hx
    simp only [Act.put, Array.getElem?_setIfInBounds, if_neg hne]
    exact hf.slot u x hx⟩
theorem FrOk.put1 {N : Nat} {fr : List (Nat × SV)} {a : Act} (hf : FrOk N ds fr a) {t : Nat} {v : SV} (ht : t < N) : FrOk N ds ((t, v) :: fr) (a.put (some t) (den v)) :=
  ⟨by simp [Act.put, hf.size], hf.defers, fun u x hx => by
    unfold lookN at hx
    split at hx
    · rename_i he
      have : t = u := Nat.eq_of_beq_eq_true he
      subst this
      cases hx
      simp [Act.put, hf.size, ht]
    · rename_i he
      have hne : t ≠ u := fun e => he (by subst e; exact Nat.beq_refl t)
      simp only [Act.put, Array.getElem?_setIfInBounds, if_neg hne]
      exact hf.slot u x hx⟩
theorem look_cons {t u : Nat} {v : SV} {fr : List (Nat × SV)} (hne : t ≠ u) (h : lookN fr u = none) : lookN ((t, v) :: fr) u = none := by
  unfold lookN
  split
  · rename_i he; exact absurd (Nat.eq_of_beq_eq_true he) hne
  · exact h

/-- The calls one after the other, as if no new variable came between them. -/
def grC (X : Env P) (W : List (Nat × ECtr)) (full : List Oper) : List Nat → List (Nat × SV) → List HB → (List (Nat × SV) → List HB → Prop) → Prop
  | [], fr, hp, K => K fr hp
  | j :: js, fr, hp, K => match full[j]? with
    | some ⟨dst, op, _, _, _, none⟩ => evW X W op fr hp fun v hp' => putS X.N dst v fr fun fr' => grC X W full js fr' hp' K
    | _ => False
/-- Then the new variables. -/
def grA (N : Nat) (full : List Oper) : List (Nat × TypeId × Cts) → List (Nat × SV) → List HB → (List (Nat × SV) → List HB → Prop) → Prop
  | [], fr, hp, K => K fr hp
  | (i, t, c) :: as, fr, hp, K => ∀ g : Nat, lenK hp 0 fun n => appK hp ⟨some ⟨g, 0⟩, true, .wr t c.n, c⟩ fun hp' => putS N ((full[i]?).bind (·.dst)) (.ptr n ⟨g, 0⟩ 0 0 0) fr fun fr' => grA N full as fr' hp' K
def blkG (gs : Nat → Nat) (x : Nat × TypeId × Cts) : HB := ablk x.2.1 x.2.2 (gs x.1)
theorem grA_sound {N : Nat} {full : List Oper} {K : List (Nat × SV) → List HB → Prop} {gs : Nat → Nat} {w0 : World} {a : Act} {w : World} : ∀ (as : List (Nat × TypeId × Cts)) (fr : List (Nat × SV)) (hp : List HB), grA N full as fr hp K → FrOk N ds fr a → Holds w0 w (hp ++ as.map (blkG gs)) →
    (∀ x ∈ as, ∀ d, dstOf full.toArray x.1 = some d → a.tmps[d]? = some (aptr (gs x.1))) → ∃ fr' hp', K fr' hp' ∧ FrOk N ds fr' a ∧ Holds w0 w hp'
  | [], fr, hp, h, hf, hw, _ => ⟨fr, hp, h, hf, by simpa using hw⟩
  | (i, t, c) :: as, fr, hp, h, hf, hw, hg => by
    have h := h (gs i)
    rw [lenK_eq, appK_eq] at h
    have hw' : Holds w0 w ((hp ++ [ablk t c (gs i)]) ++ as.map (blkG gs)) := by
      rw [List.append_assoc]; exact hw
    have hg' : ∀ x ∈ as, ∀ d, dstOf full.toArray x.1 = some d → a.tmps[d]? = some (aptr (gs x.1)) := fun x hx => hg x (List.mem_cons_of_mem _ hx)
    rcases putS_cases h with ⟨_, h⟩ | ⟨t', hd, _, h⟩
    · exact grA_sound as fr _ h hf hw' hg'
    · have h1 := hg (i, t, c) (List.mem_cons_self ..) t' (by simp [dstOf]; simpa using hd)
      have h2 : a.tmps[t']? = some (den (.ptr (0 + hp.length) ⟨gs i, 0⟩ 0 0 0)) := by rw [h1]; simp [den, aptr]
      exact grA_sound as _ _ h (hf.cons h2) hw' hg'

/-- In whatever order: the next call, or a new variable. -/
def growB (ops : Array Oper) : Nat → List Nat → List Nat → List Nat → Bool
  | 0, _, js, as => js.isEmpty && as.isEmpty
  | n + 1, ls, js, as => (js.isEmpty && as.isEmpty) || (decide (ls.length < ops.size) && (!(Region.ready .any ops (listedOf ops.size ls)).isEmpty && (Region.ready .any ops (listedOf ops.size ls)).all fun i =>
      (match js with
        | j :: js' => Nat.beq i j && growB ops n (ls ++ [i]) js' as
        | [] => false) || (as.contains i && growB ops n (ls ++ [i]) js (as.erase i))))
def readyB (ops : Array Oper) : List Nat → List Nat → Bool
  | _, [] => true
  | ls, j :: js => (Region.ready .any ops (listedOf ops.size ls)).contains j && readyB ops (ls ++ [j]) js
theorem readyB_down {ops : Array Oper} : ∀ {js ls : List Nat}, readyB ops ls js = true → Down ops (listedOf ops.size ls) → Down ops (listedOf ops.size (ls ++ js))
  | [], ls, _, hd => by rw [List.append_nil]; exact hd
  | j :: js, ls, h, hd => by
    simp only [readyB, Bool.and_eq_true] at h
    have := readyB_down h.2 (down_add hd (by simpa using h.1))
    simpa using this
/-- The slots of the new variables: nobody else's. -/
def slotsB (ops : Array Oper) (N : Nat) (fr : List Nat) (js as : List Nat) : Bool :=
  as.all fun i => match dstOf ops i with
    | some d => decide (d < N) && ((js.all fun j => dstOf ops j != some d) && ((as.all fun k => Nat.beq k i || dstOf ops k != some d) && !fr.contains d))
    | none => false
theorem look_none {u : Nat} : ∀ {fr : List (Nat × SV)}, (fr.map (·.1)).contains u = false → lookN fr u = none
  | [], _ => rfl
  | (t, v) :: r, h => by
    simp only [List.map_cons, List.contains_cons, Bool.or_eq_false_iff] at h
    have hne : t ≠ u := fun e => by subst e; simp at h
    exact look_cons hne (look_none h.2)

section
variable {full : List Oper} {T : List Nat} {H : List (Nat × List HB)} {Q : Exit → Act → World → Prop} {w0 : World}
theorem listedOf_perm {n : Nat} {l l' : List Nat} (h : l.Perm l') : listedOf n l = listedOf n l' := by
  refine ext_listed (by simp [listedOf, foldl_set_size]) fun j hj => ?_
  have hj' : j < n := by simpa [listedOf, foldl_set_size] using hj
  rw [listedOf_getD _ _ _ _ hj', listedOf_getD _ _ _ _ hj', Bool.eq_iff_iff]
  simp only [List.contains_iff_mem]
  exact h.mem_iff
theorem RS_perm {ls ls' : List Nat} {a : Act} {w : World} (h : ls.Perm ls') (hr : RS P full.toArray Q T H ls' a w) : RS P full.toArray Q T H ls a w := by
  unfold RS at *
  rw [h.length_eq, listedOf_perm h]
  exact hr
theorem grow_sound {W : List (Nat × ECtr)} (hW : WsOk P W) {L0 : List Nat} {asF : List (Nat × TypeId × Cts)} (hak : ∀ x ∈ asF, AK P full.toArray x.1 x.2.1 x.2.2) {F : List (Nat × SV) → List HB → Prop} {hp0 : List HB} (hH : ∀ x ∈ H, ∀ b ∈ x.2, b ∈ hp0)
    (hfin : ∀ (fr : List (Nat × SV)) (hp : List HB) (gs : Nat → Nat) (a : Act) (w : World), F fr hp → FrOk X.N ds fr a → Holds w0 w (hp ++ asF.map (blkG gs)) → (∀ x ∈ asF, ∀ d, dstOf full.toArray x.1 = some d → a.tmps[d]? = some (aptr (gs x.1))) → (∀ b ∈ hp0, b ∈ hp) → RS P full.toArray Q T H L0 a w) :
    ∀ (n : Nat) (ls js : List Nat) (as dn : List (Nat × TypeId × Cts)) (gs : Nat → Nat) (fr : List (Nat × SV)) (hp : List HB) (a : Act) (w : World), growB full.toArray n ls js (as.map (·.1)) = true →
      (ls ++ (js ++ as.map (·.1))).Perm L0 → (dn ++ as).Perm asF → (asF.map (·.1)).Nodup →
      (∀ x ∈ asF, ∃ d, dstOf full.toArray x.1 = some d ∧ d < X.N ∧ (∀ j ∈ js, dstOf full.toArray j ≠ some d) ∧ (∀ y ∈ asF, y.1 ≠ x.1 → dstOf full.toArray y.1 ≠ some d) ∧ lookN fr d = none) →
      (∀ b ∈ hp0, b ∈ hp) → grC X W full js fr hp F → FrOk X.N ds fr a → Holds w0 w (hp ++ dn.map (blkG gs)) → (∀ x ∈ dn, ∀ d, dstOf full.toArray x.1 = some d → a.tmps[d]? = some (aptr (gs x.1))) → RS P full.toArray Q T H ls a w := by
  have hend : ∀ (ls js : List Nat) (as dn : List (Nat × TypeId × Cts)) (gs : Nat → Nat) (fr : List (Nat × SV)) (hp : List HB) (a : Act) (w : World), (js.isEmpty && (as.map (·.1)).isEmpty) = true → (ls ++ (js ++ as.map (·.1))).Perm L0 → (dn ++ as).Perm asF →
      (∀ b ∈ hp0, b ∈ hp) → grC X W full js fr hp F → FrOk X.N ds fr a → Holds w0 w (hp ++ dn.map (blkG gs)) → (∀ x ∈ dn, ∀ d, dstOf full.toArray x.1 = some d → a.tmps[d]? = some (aptr (gs x.1))) → RS P full.toArray Q T H ls a w := by
    intro ls js as dn gs fr hp a w hb hp1 hp2 hsub hc hf hw hg
    simp only [Bool.and_eq_true, List.isEmpty_iff, List.map_eq_nil_iff] at hb
    obtain ⟨rfl, rfl⟩ := hb
    simp only [List.map_nil, List.append_nil] at hp1 hp2
    refine RS_perm hp1 (hfin fr hp gs a w hc hf (hw.perm (List.Perm.append_left hp (hp2.map (blkG gs)))) (fun x hx => hg x (hp2.mem_iff.2 hx)) hsub)
  intro n
  induction n with
  | zero => intro ls js as dn gs fr hp a w hb hp1 hp2 _ _ hsub hc hf hw hg; exact hend ls js as dn gs fr hp a w hb hp1 hp2 hsub hc hf hw hg
  | succ n ih =>
    intro ls js as dn gs fr hp a w hb hp1 hp2 hnd hds hsub hc hf hw hg
    unfold growB at hb
    rw [Bool.or_eq_true] at hb
    rcases hb with hb | hb
    · exact hend ls js as dn gs fr hp a w hb hp1 hp2 hsub hc hf hw hg
    simp only [Bool.and_eq_true, decide_eq_true_eq, Bool.not_eq_true', List.all_eq_true] at hb
    obtain ⟨hl, hne, hall⟩ := hb
    refine RS_all hl rfl (by intro e; rw [e] at hne; simp at hne) fun i hi => ?_
    have hSS : ∀ {w' : World} {hq : List HB}, (∀ b ∈ hp0, b ∈ hq) → (∀ b ∈ hq, b.ok w') → SS full.toArray T H (listedOf full.toArray.size (ls ++ [i])) w' := fun {w' hq} h1 h2 x hx _ b hb => h2 b (h1 b (hH x hx b hb))
    have hi' := hall i hi
    rw [Bool.or_eq_true] at hi'
    rcases hi' with hi' | hi'
    · cases js with
      | nil => cases hi'
      | cons j js =>
        simp only [Bool.and_eq_true] at hi'
        obtain ⟨hij, hb⟩ := hi'
        have : i = j := Nat.eq_of_beq_eq_true hij
        subst this
        unfold grC at hc
        split at hc
        case h_2 => exact hc.elim
        rename_i dst op ty pos after ho
        unfold wpOp
        have ho' : full.toArray[i]? = some ⟨dst, op, ty, pos, after, none⟩ := by simpa using ho
        rw [ho']
        have hwant : Region.wanted ⟨dst, op, ty, pos, after, none⟩ (yielded full.toArray a.tmps) = true := by simp [Region.wanted]
        simp only [hwant, if_true]
        refine .inl (evW_sound (ds := ds) hW (o := ⟨dst, op, ty, pos, after, none⟩) hc hf (fun b hb => hw.blk b (List.mem_append.2 (.inl hb))) fun v news w' hv hfr => ?_)
        have hw' := hfr w0 _ hw
        have hw2 : Holds w0 w' ((hp ++ news) ++ dn.map (blkG gs)) := hw'.perm (by
          rw [List.append_assoc, List.append_assoc]
          exact List.Perm.append_left hp List.perm_append_comm)
        have hsub' : ∀ b ∈ hp0, b ∈ hp ++ news := fun b hb => List.mem_append.2 (.inl (hsub b hb))
        have hdst : dstOf full.toArray i = dst := by simp [dstOf, ho]
        have hp1' : ((ls ++ [i]) ++ (js ++ as.map (·.1))).Perm L0 := by simpa using hp1
        refine ⟨hSS hsub' fun b hb => hw2.blk b (List.mem_append.2 (.inl hb)), ?_⟩
        have hmem : ∀ x ∈ dn, x ∈ asF := fun x hx => hp2.mem_iff.1 (List.mem_append.2 (.inl hx))
        rcases putS_cases hv with ⟨rfl, hv⟩ | ⟨t, rfl, htN, hv⟩
        · exact ih (ls ++ [i]) js as dn gs fr (hp ++ news) _ w' hb hp1' hp2 hnd (fun x hx => by
            obtain ⟨d, q1, q2, q3, q4, q5⟩ := hds x hx
            exact ⟨d, q1, q2, fun j hj => q3 j (List.mem_cons_of_mem _ hj), q4, q5⟩) hsub' hv hf hw2 hg
        · have hne' : ∀ x ∈ asF, ∀ d, dstOf full.toArray x.1 = some d → t ≠ d := fun x hx d hd e => by
            obtain ⟨d', q1, _, q3, _⟩ := hds x hx
            rw [hd] at q1; cases q1
            subst e
            exact q3 i (List.mem_cons_self ..) hdst
          refine ih (ls ++ [i]) js as dn gs ((t, v) :: fr) (hp ++ news) _ w' hb hp1' hp2 hnd (fun x hx => ?_) hsub' hv ?_ hw2 (fun x hx d hd => ?_)
          · obtain ⟨d, q1, q2, q3, q4, q5⟩ := hds x hx
            exact ⟨d, q1, q2, fun j hj => q3 j (List.mem_cons_of_mem _ hj), q4, look_cons (hne' x hx d q1) q5⟩
          · exact hf.put1 htN
          · have := hg x hx d hd
            simp only [Act.put, Array.getElem?_setIfInBounds, if_neg (hne' x (hmem x hx) d hd)]
            exact this
    · simp only [Bool.and_eq_true] at hi'
      obtain ⟨hia, hb⟩ := hi'
      obtain ⟨x, hx, rfl⟩ : ∃ x ∈ as, x.1 = i := by simpa using hia
      obtain ⟨l1, l2, rfl⟩ := List.append_of_mem hx
      have hxF : x ∈ asF := hp2.mem_iff.1 (by simp)
      have hnd1 : ((dn ++ (l1 ++ x :: l2)).map (·.1)).Nodup := (hp2.map (·.1)).nodup_iff.2 hnd
      have hx1 : x.1 ∉ l1.map (·.1) := fun hm => by
        simp only [List.map_append, List.map_cons] at hnd1
        have h1 := (List.nodup_append.1 hnd1).2.1
        exact (List.nodup_append.1 h1).2.2 _ hm _ (List.mem_cons_self ..) rfl
      have her : ((l1 ++ x :: l2).map (·.1)).erase x.1 = (l1 ++ l2).map (·.1) := by
        simp only [List.map_append, List.map_cons]
        rw [List.erase_append_right _ hx1, List.erase_cons_head]
      rw [her] at hb
      obtain ⟨o, cs, ho, hog, hA, hs, hcs⟩ := (hak x hxF).get
      obtain ⟨d, q1, q2, q3, q4, q5⟩ := hds x hxF
      have hod : o.dst = some d := by
        have : dstOf full.toArray x.1 = o.dst := by simp only [dstOf, ho, Option.bind_some]
        rw [← this]; exact q1
      unfold wpOp
      rw [ho]
      have hwant : Region.wanted o (yielded full.toArray a.tmps) = true := by simp [Region.wanted, hog]
      simp only [hwant, if_true]
      refine .inl ?_
      unfold Oper.wp
      rw [hA a.eval w]
      let gs' : Nat → Nat := fun k => if k = x.1 then w.heap.size else gs k
      have hdnx : ∀ y ∈ dn, y.1 ≠ x.1 := fun y hy e => by
        simp only [List.map_append, List.map_cons] at hnd1
        exact (List.nodup_append.1 hnd1).2.2 y.1 (List.mem_map.2 ⟨y, hy, rfl⟩) x.1 (by simp) e
      have hmap : dn.map (blkG gs') = dn.map (blkG gs) := List.map_congr_left fun y hy => by simp only [blkG, gs', if_neg (hdnx y hy)]
      have hw1 := hw.new cs x.2.1 x.2.2 x.2.2.n hs (Nat.le_refl _) hcs
      have hw2 : Holds w0 (w.alloc (.cells cs x.2.1)) (hp ++ (dn ++ [x]).map (blkG gs')) := by
        rw [List.map_append, hmap, ← List.append_assoc]
        have : [x].map (blkG gs') = [(⟨some ⟨w.heap.size, 0⟩, true, .wr x.2.1 x.2.2.n, x.2.2⟩ : HB)] := by simp [blkG, gs', ablk]
        rw [this]; exact hw1
      refine ⟨hSS hsub fun b hb => hw2.blk b (List.mem_append.2 (.inl hb)), ?_⟩
      rw [hod]
      refine ih (ls ++ [x.1]) js (l1 ++ l2) (dn ++ [x]) gs' fr hp _ _ hb ?_ ?_ hnd hds hsub hc (hf.other q5) hw2 (fun y hy d' hd' => ?_)
      · refine List.Perm.trans ?_ hp1
        simp only [List.map_append, List.map_cons, List.append_assoc]
        refine List.Perm.append_left ls ?_
        have : (js ++ (l1.map (·.1) ++ x.1 :: l2.map (·.1))).Perm (x.1 :: (js ++ (l1.map (·.1) ++ l2.map (·.1)))) := by
          rw [← List.append_assoc, ← List.append_assoc]; exact List.perm_middle
        exact this.symm
      · refine List.Perm.trans ?_ hp2
        rw [List.append_assoc]
        exact List.Perm.append_left dn ((List.perm_middle (a := x) (l₁ := l1) (l₂ := l2)).symm)
      · rcases List.mem_append.1 hy with hy | hy
        · have hyF : y ∈ asF := hp2.mem_iff.1 (List.mem_append.2 (.inl hy))
          have hdd : d ≠ d' := fun e => by subst e; exact q4 y hyF (hdnx y hy) hd'
          have := hg y hy d' hd'
          simp only [Act.put, Array.getElem?_setIfInBounds, if_neg hdd, gs', if_neg (hdnx y hy)]
          exact this
        · rw [List.mem_singleton] at hy; subst hy
          rw [q1] at hd'; cases hd'
          simp [Act.put, hf.size, q2, gs', aptr]
end

variable {r : Option Nat} {Q : Post} {t : List It} {fr : List (Nat × SV)} {hp : List HB}
/-- Calls that only lay new blocks stand one behind the other, and new variables come anywhere: one order is walked, the calls first. -/
theorem Wk.rsGrow {full : List Oper} {T ls : List Nat} {H : List (Nat × Option (Nat × HB))} {p0 : Plan} {W : List (Nat × ECtr)} (hW : WsOk P W) (js as : List Nat) (p : Plan) {as' : List (Nat × TypeId × Cts)} (has : asOf X.T full.toArray as = some as')
    (hg : growB full.toArray (js.length + as.length) ls js as = true) (hs : slotsB full.toArray X.N (fr.map (·.1)) js as = true) (hnd : decide as.Nodup = true) (hpk : (p.ok full.toArray (ls ++ (js ++ as)) && (p.takes T && readyB full.toArray ls (js ++ as))) = true) (hh : heldC hp H)
    (h : ∀ K' : List (Nat × SV) → List HB → Prop, (∀ fr hp, Wk X r Q (.rs full T H (ls ++ (js ++ as)) p :: t) ds fr hp → K' fr hp) → grC X W full js fr hp fun fr hp => grA X.N full as' fr hp K') : Wk X r Q (.rs full T H ls p0 :: t) ds fr hp := by
  have h := h _ fun _ _ h => h
  simp only [Bool.and_eq_true] at hpk
  refine ⟨fun w0 a w hf hw hsel hd hok hT hS => ?_⟩
  have hmap : ∀ {as : List Nat} {as' : List (Nat × TypeId × Cts)}, asOf X.T full.toArray as = some as' → as'.map (·.1) = as ∧ ∀ x ∈ as', akOf X.T full.toArray x.1 = some x.2 := by
    intro as
    induction as with
    | nil => intro as' h; simp [asOf] at h; subst h; exact ⟨rfl, fun _ h => (by cases h)⟩
    | cons i as ih =>
      intro as' h
      simp only [asOf, List.mapM_cons, Option.bind_eq_bind, Option.pure_def] at h
      cases hi : akOf X.T full.toArray i with
      | none => simp [hi] at h
      | some tc =>
        cases hr : as.mapM (fun i => (akOf X.T full.toArray i).map fun x => (i, x)) with
        | none => simp [hi, hr] at h
        | some rr =>
          simp [hi, hr] at h
          subst h
          obtain ⟨q1, q2⟩ := ih hr
          refine ⟨by simp [q1], fun x hx => ?_⟩
          rcases List.mem_cons.1 hx with rfl | hx
          · exact hi
          · exact q2 x hx
  obtain ⟨e1, e2⟩ := hmap has
  have hdn : Down full.toArray (listedOf full.toArray.size (ls ++ (js ++ as))) := by
    exact readyB_down hpk.2.2 hd
  refine grow_sound (ds := ds) (X := X) hW (L0 := ls ++ (js ++ as)) (asF := as') (fun x hx => akOf_ok X.hT (by rw [e2 x hx])) (hp0 := hp) (H := toH H) ?_ ?_ (js.length + as.length) ls js as' [] (fun _ => 0) fr hp a w (by rw [e1]; exact hg) (by rw [e1]) (by simp) (by rw [e1]; exact of_decide_eq_true hnd) ?_ (fun _ h => h) h hf (by simpa using hw) (fun x hx => by cases hx)
  · intro x hx b hb
    obtain ⟨⟨i, ob⟩, hy, rfl⟩ := List.mem_map.1 hx
    cases ob with
    | none => cases hb
    | some jb =>
      have hb : b ∈ [jb.2] := hb
      rw [List.mem_singleton] at hb; subst hb
      exact heldC_mem hh i jb.1 jb.2 hy
  · intro fr' hp' gs a' w' hF hf' hw' hg' hsub
    obtain ⟨fr2, hp2, hk, hf2, hw2⟩ := grA_sound (ds := ds) as' fr' hp' hF hf' hw' hg'
    refine hk.out w0 a' w' hf2 hw2 hsel hdn hpk.1 hpk.2.1 fun x hx _ b hb => ?_
    obtain ⟨⟨i, ob⟩, hy, rfl⟩ := List.mem_map.1 hx
    cases ob with
    | none => cases hb
    | some jb =>
      have hb : b ∈ [jb.2] := hb
      rw [List.mem_singleton] at hb; subst hb
      exact hw'.blk _ (List.mem_append.2 (.inl (hsub _ (heldC_mem hh i jb.1 jb.2 hy))))
  · intro x hx
    have hxa : x.1 ∈ as := by rw [← e1]; exact List.mem_map.2 ⟨x, hx, rfl⟩
    have := List.all_eq_true.1 hs x.1 hxa
    split at this
    case h_2 => cases this
    rename_i d hd'
    simp only [Bool.and_eq_true, decide_eq_true_eq, Bool.not_eq_true', List.all_eq_true] at this
    obtain ⟨h1, h2, h3, h4⟩ := this
    refine ⟨d, hd', h1, fun j hj e => ?_, fun y hy hne e => ?_, look_none h4⟩
    · have := h2 j hj; rw [e] at this; simp at this
    · have hya : y.1 ∈ as := by rw [← e1]; exact List.mem_map.2 ⟨y, hy, rfl⟩
      have := h3 y.1 hya
      rw [e] at this
      simp only [bne_self_eq_false, Bool.or_false] at this
      exact hne (Nat.eq_of_beq_eq_true this)
end
end Go.Sy
