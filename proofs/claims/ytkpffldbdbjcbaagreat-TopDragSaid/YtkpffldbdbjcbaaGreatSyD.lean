/- Callees without an effect; one operation that leaves the world alone; a region in whatever order: quiet operations and new variables ahead, others behind. -/
import Derived.Test.YtkpffldbdbjcbaaGreatSyC
set_option linter.unusedSimpArgs false
set_option linter.unusedVariables false
namespace Go.Sy
open Go.RowKit

/-! ### Contracts without an effect -/
/-- It leaves all that was there as it was; what it hands back is known ahead. -/
abbrev Ctr := List SV → List HB → (SV → Prop) → Prop
def CtrOk (P : Program) (f : FuncId) (c : Ctr) : Prop :=
  ∀ (args : List SV) (hp : List HB) (K : SV → Prop), c args hp K → ∃ v, K v ∧ ∀ w, (∀ b ∈ hp, b.ok w) → Calls P f (denL args).toArray w fun e w' => e = .returned (den v) ∧ Below w.heap.size w w'

/-- A function of the program's own text. -/
def Enters (P : Program) (f : FuncId) : Prop := ∃ fn, P.funcs[f]? = some fn ∧ (fn.name == "runtime.NumGoroutine") = false ∧ fn.body.isNone = false
theorem run_callFunc {P : Program} {f : FuncId} (h : Enters P f) (args : Array Value) (w : World) : (callFunc f args).run P w = .ok (.enter f args) w := by
  obtain ⟨fn, h1, h2, h3⟩ := h
  simp only [callFunc, Sem.run_bind, run_program, Result.andThen_ok, h1, h2, Bool.false_eq_true, if_false, h3, Sem.run_pure]

/-- A contract of a function of the text, or of one that hands back at once. -/
inductive COk (P : Program) (f : FuncId) (c : Ctr) : Prop where
  | own (enters : Enters P f) (ok : CtrOk P f c)
  | ext (h : ∀ (args : List SV) (hp : List HB) (K : SV → Prop), c args hp K → ∃ v, K v ∧ ∀ w, (callFunc f (denL args).toArray).run P w = .ok (.value (den v)) w)
theorem COk.get {P : Program} {f : FuncId} {c : Ctr} (h : COk P f c) (he : Enters P f) : CtrOk P f c := by
  cases h with
  | own _ ok => exact ok
  | ext h =>
    intro args hp K hc
    obtain ⟨v, hK, hr⟩ := h args hp K hc
    refine ⟨v, hK, fun w _ => ?_⟩
    have h1 := hr w
    rw [run_callFunc he] at h1
    cases h1
def GsOk (P : Program) (G : List (Nat × Ctr)) : Prop := ∀ f c, lookN G f = some c → COk P f c
theorem GsOk.nil (P : Program) : GsOk P [] := fun _ _ h => by simp [lookN] at h
theorem GsOk.cons {P : Program} {G : List (Nat × Ctr)} {f : Nat} {c : Ctr} (h : COk P f c) (hG : GsOk P G) : GsOk P ((f, c) :: G) := fun u j hj => by
  unfold lookN at hj
  split at hj
  · rename_i he
    have : f = u := Nat.eq_of_beq_eq_true he
    subst this
    cases hj
    exact h
  · exact hG u j hj

def evCall (G : List (Nat × Ctr)) (fv : SV) (args : List SV) (hp : List HB) (K : SV → Prop) : Prop :=
  match fv with
  | .fn f first cap => match lookN G f with
    | some c => c (first ++ args ++ cap) hp K
    | none => False
  | _ => False

/-! ### Operations whose value no world has a say in -/
def evP (T : List (Nat × TyI)) (op : Op) (fr : List (Nat × SV)) (K : SV → Prop) : Prop :=
  match op with
  | .move x | .assign x => withV (ev fr x) K
  | .pick c x y => withV (ev fr c) fun c => evPick c (ev fr x) (ev fr y) K
  | .build t ps => withPs fr ps.toList fun ps => evBuild T t ps K
  | .binOp op t x y _ => withV (ev fr x) fun x => withV (ev fr y) fun y => evBin T op t x y K
  | .unOp op _ x => withV (ev fr x) fun x => evUn op x K
  | .convert s d x => withV (ev fr x) fun x => evConv T s d x K
  | .fieldAddr t x f => withV (ev fr x) fun x => evFieldAddr T t x f K
  | .indexAddr t x ix => withV (ev fr x) fun x => withV (ev fr ix) fun ix => evIndexAddr T t x ix K
  | .index t x ix => withV (ev fr x) fun x => withV (ev fr ix) fun ix => evIndex T t x ix K
  | .slice t x lo hi mx => withV (ev fr x) fun x =>
    match lo, hi, mx with
    | none, none, none => evSlice T t x none none none K
    | some l, none, none => withV (ev fr l) fun l => evSlice T t x (some l) none none K
    | none, some h, none => withV (ev fr h) fun h => evSlice T t x none (some h) none K
    | some l, some h, none => withV (ev fr l) fun l => withV (ev fr h) fun h => evSlice T t x (some l) (some h) none K
    | none, some h, some m => withV (ev fr h) fun h => withV (ev fr m) fun m => evSlice T t x none (some h) (some m) K
    | some l, some h, some m => withV (ev fr l) fun l => withV (ev fr h) fun h => withV (ev fr m) fun m => evSlice T t x (some l) (some h) (some m) K
    | _, _, _ => False
  | .extract x j => withV (ev fr x) fun x => evExtract x j K
  | .field t x f => withV (ev fr x) fun x => evField T t x f K
  | .makeFunc (.func f) first cap => withVs fr first.toList fun first => withVs fr cap.toList fun cap => K (.fn f first cap)
  | .nilCheck x => withV (ev fr x) fun x => match x with
    | .ptr i nm k s d => K (.ptr i nm k s d)
    | .fn f a b => K (.fn f a b)
    | .yld l => K (.yld l)
    | _ => False
  | .call ⟨.builtin .len, args, tys⟩ => match args.toList, tys.toList with
    | [x], [t] => withV (ev fr x) fun x => evLen T t x K
    | _, _ => False
  | .call ⟨.builtin .min, args, _⟩ => withVs fr args.toList fun xs => evMin false xs K
  | .call ⟨.builtin .max, args, _⟩ => withVs fr args.toList fun xs => evMin true xs K
  | _ => False

/-- The value of one operation, whatever the world. -/
def PYields (P : Program) (N : Nat) (ds : List Nat) (fr : List (Nat × SV)) (o : Oper) (v : SV) : Prop :=
  ∀ a, FrOk N ds fr a → ∀ w, (execOp a.eval o).run P w = .ok (.value (den v)) w

theorem evP_sound {P : Program} {T : List (Nat × TyI)} (hT : TOk P T) {N : Nat} {ds : List Nat} {o : Oper} {fr : List (Nat × SV)} {K : SV → Prop}
    (h : evP T o.op fr K) : ∃ v, K v ∧ PYields P N ds fr o v := by
  obtain ⟨dst, op, ty, pos, after, guard⟩ := o
  simp only [evP] at h
  split at h
  case h_1 x =>
    obtain ⟨v, hv, h⟩ := withV_iff h
    exact ⟨v, h, fun a hf w => by simp [execOp, ev_sound hf hv]⟩
  case h_2 x =>
    obtain ⟨v, hv, h⟩ := withV_iff h
    exact ⟨v, h, fun a hf w => by simp [execOp, ev_sound hf hv]⟩
  case h_3 c x y =>
    obtain ⟨cv, hc, h⟩ := withV_iff h
    obtain ⟨v, b, hK, hb, hv⟩ := evPick_sound h
    refine ⟨v, hK, fun a hf w => ?_⟩
    have h1 := ev_sound hf hc
    rw [hb] at h1
    cases b
    · simp [execOp, asBool, h1, ev_sound hf hv]
    · simp [execOp, asBool, h1, ev_sound hf hv]
  case h_4 t ps =>
    obtain ⟨vs, h, hvs⟩ := withPs_iff h
    obtain ⟨v, hK, hr⟩ := evBuild_sound hT h
    refine ⟨v, hK, fun a hf w => ?_⟩
    have e : (ps.map fun x => (x.1, a.eval x.2)) = (vs.map fun p => (p.1, den p.2)).toArray := by
      apply Array.ext'
      rw [← hvs hf]; simp
    simp [execOp, e, hr]
  case h_5 op t x y yt =>
    obtain ⟨xv, hx, h⟩ := withV_iff h
    obtain ⟨yv, hy, h⟩ := withV_iff h
    obtain ⟨v, hK, hr⟩ := evBin_sound hT h
    refine ⟨v, hK, fun a hf w => ?_⟩
    have := hr w x y
    simp only [execOp, ev_sound hf hx, ev_sound hf hy, Sem.run_bind] at this ⊢
    rw [this]; rfl
  case h_6 op t x =>
    obtain ⟨xv, hx, h⟩ := withV_iff h
    obtain ⟨v, hK, hr⟩ := evUn_sound (P := P) h
    exact ⟨v, hK, fun a hf w => by simp [execOp, ev_sound hf hx, hr w]⟩
  case h_7 s d x =>
    obtain ⟨xv, hx, h⟩ := withV_iff h
    obtain ⟨v, hK, hr⟩ := evConv_sound hT h
    exact ⟨v, hK, fun a hf w => by simp [execOp, ev_sound hf hx, hr w]⟩
  case h_8 t x f =>
    obtain ⟨xv, hx, h⟩ := withV_iff h
    obtain ⟨v, hK, hr⟩ := evFieldAddr_sound hT h
    exact ⟨v, hK, fun a hf w => by simp [execOp, ev_sound hf hx, hr w]⟩
  case h_9 t x ix =>
    obtain ⟨xv, hx, h⟩ := withV_iff h
    obtain ⟨yv, hy, h⟩ := withV_iff h
    obtain ⟨v, hK, hr⟩ := evIndexAddr_sound hT h
    exact ⟨v, hK, fun a hf w => by simp [execOp, ev_sound hf hx, ev_sound hf hy, hr w]⟩
  case h_10 t x ix =>
    obtain ⟨xv, hx, h⟩ := withV_iff h
    obtain ⟨yv, hy, h⟩ := withV_iff h
    obtain ⟨v, hK, hr⟩ := evIndex_sound hT h
    exact ⟨v, hK, fun a hf w => by simp [execOp, ev_sound hf hx, ev_sound hf hy, hr w]⟩
  case h_11 t x lo hi mx =>
    obtain ⟨xv, hx, h⟩ := withV_iff h
    split at h
    · obtain ⟨v, hK, hr⟩ := evSlice_sound hT h
      exact ⟨v, hK, fun a hf w => by have := hr w; simp only [Option.map_none] at this; simp [execOp, ev_sound hf hx, this]⟩
    · rename_i l
      obtain ⟨lv, hl, h⟩ := withV_iff h
      obtain ⟨v, hK, hr⟩ := evSlice_sound hT h
      exact ⟨v, hK, fun a hf w => by have := hr w; simp only [Option.map_none, Option.map_some] at this; simp [execOp, ev_sound hf hx, ev_sound hf hl, this]⟩
    · rename_i l
      obtain ⟨lv, hl, h⟩ := withV_iff h
      obtain ⟨v, hK, hr⟩ := evSlice_sound hT h
      exact ⟨v, hK, fun a hf w => by have := hr w; simp only [Option.map_none, Option.map_some] at this; simp [execOp, ev_sound hf hx, ev_sound hf hl, this]⟩
    · obtain ⟨lv, hl, h⟩ := withV_iff h
      obtain ⟨mv, hm, h⟩ := withV_iff h
      obtain ⟨v, hK, hr⟩ := evSlice_sound hT h
      exact ⟨v, hK, fun a hf w => by have := hr w; simp only [Option.map_none, Option.map_some] at this; simp [execOp, ev_sound hf hx, ev_sound hf hl, ev_sound hf hm, this]⟩
    · obtain ⟨lv, hl, h⟩ := withV_iff h
      obtain ⟨mv, hm, h⟩ := withV_iff h
      obtain ⟨v, hK, hr⟩ := evSlice_sound hT h
      exact ⟨v, hK, fun a hf w => by have := hr w; simp only [Option.map_none, Option.map_some] at this; simp [execOp, ev_sound hf hx, ev_sound hf hl, ev_sound hf hm, this]⟩
    · obtain ⟨lv, hl, h⟩ := withV_iff h
      obtain ⟨mv, hm, h⟩ := withV_iff h
      obtain ⟨nv, hn, h⟩ := withV_iff h
      obtain ⟨v, hK, hr⟩ := evSlice_sound hT h
      exact ⟨v, hK, fun a hf w => by have := hr w; simp only [Option.map_some] at this; simp [execOp, ev_sound hf hx, ev_sound hf hl, ev_sound hf hm, ev_sound hf hn, this]⟩
    · exact h.elim
  case h_12 x j =>
    obtain ⟨xv, hx, h⟩ := withV_iff h
    obtain ⟨v, hK, hr⟩ := evExtract_sound (P := P) h
    exact ⟨v, hK, fun a hf w => by simp [execOp, ev_sound hf hx, hr w]⟩
  case h_13 t x f =>
    obtain ⟨xv, hx, h⟩ := withV_iff h
    obtain ⟨v, hK, hr⟩ := evField_sound hT h
    exact ⟨v, hK, fun a hf w => by simp [execOp, ev_sound hf hx, hr w]⟩
  case h_14 f first cap =>
    obtain ⟨xs, h, hxs⟩ := withVs_iff h
    obtain ⟨ys, h, hys⟩ := withVs_iff h
    refine ⟨_, h, fun a hf w => ?_⟩
    have e1 : first.map a.eval = (denL xs).toArray := by apply Array.ext'; rw [← hxs hf]; simp
    have e2 : cap.map a.eval = (denL ys).toArray := by apply Array.ext'; rw [← hys hf]; simp
    simp [execOp, Instr.makeFunc, e1, e2, den]
  case h_15 x =>
    obtain ⟨xv, hx, h⟩ := withV_iff h
    split at h
    · exact ⟨_, h, fun a hf w => by simp [execOp, ev_sound hf hx, den]⟩
    · exact ⟨_, h, fun a hf w => by simp [execOp, ev_sound hf hx, den]⟩
    · exact ⟨_, h, fun a hf w => by simp [execOp, ev_sound hf hx, den]⟩
    · exact h.elim
  case h_16 args tys =>
    split at h
    · rename_i x t ha ht
      obtain ⟨xv, hx, h⟩ := withV_iff h
      obtain ⟨v, hK, hr⟩ := evLen_sound hT h
      have ha : args = #[x] := by apply Array.ext'; simpa using ha
      have ht : tys = #[t] := by apply Array.ext'; simpa using ht
      subst ha; subst ht
      exact ⟨v, hK, fun a hf w => by simp [execOp, resolve, invoke, builtin, ev_sound hf hx, hr]⟩
    · exact h.elim
  case h_17 args tys =>
    obtain ⟨xs, h, hxs⟩ := withVs_iff h
    obtain ⟨v, hK, hr⟩ := evMin_sound (P := P) h
    refine ⟨v, hK, fun a hf w => ?_⟩
    have e1 : args.map a.eval = (denL xs).toArray := by apply Array.ext'; rw [← hxs hf]; simp
    have := hr tys ty w
    simp only [Bool.false_eq_true, if_false] at this
    simp [execOp, resolve, invoke, builtin, e1, this]
  case h_18 args tys =>
    obtain ⟨xs, h, hxs⟩ := withVs_iff h
    obtain ⟨v, hK, hr⟩ := evMin_sound (P := P) h
    refine ⟨v, hK, fun a hf w => ?_⟩
    have e1 : args.map a.eval = (denL xs).toArray := by apply Array.ext'; rw [← hxs hf]; simp
    have := hr tys ty w
    simp only [if_true] at this
    simp [execOp, resolve, invoke, builtin, e1, this]
  case h_19 => exact h.elim

/-! ### Operations that leave the world alone -/
def evQ (T : List (Nat × TyI)) (G : List (Nat × Ctr)) (op : Op) (fr : List (Nat × SV)) (hp : List HB) (K : SV → Prop) : Prop :=
  match op with
  | .load t x => withV (ev fr x) fun x => evLoad T t hp x K
  | .call ⟨.value f, args, _⟩ => withV (ev fr f) fun f => withVs fr args.toList fun xs => evCall G f xs hp K
  | op => evP T op fr K

/-- The value of one operation, in every world that holds the blocks. -/
def Yields (P : Program) (N : Nat) (ds : List Nat) (fr : List (Nat × SV)) (hp : List HB) (o : Oper) (v : SV) : Prop :=
  ∀ a w, FrOk N ds fr a → (∀ b ∈ hp, b.ok w) → o.quietAt P a (fun w' => Below w.heap.size w w') w (den v)
theorem PYields.yields {P : Program} {N : Nat} {ds : List Nat} {fr : List (Nat × SV)} {o : Oper} {v : SV} (h : PYields P N ds fr o v) (hp : List HB) : Yields P N ds fr hp o v := fun a w hf _ => by
  unfold Oper.quietAt
  rw [h a hf w]
  exact ⟨rfl, rfl⟩

theorem evQ_sound {P : Program} {T : List (Nat × TyI)} {G : List (Nat × Ctr)} (hT : TOk P T) (hG : GsOk P G) {N : Nat} {ds : List Nat} {o : Oper} {fr : List (Nat × SV)} {hp : List HB} {K : SV → Prop}
    (h : evQ T G o.op fr hp K) : ∃ v, K v ∧ Yields P N ds fr hp o v := by
  obtain ⟨dst, op, ty, pos, after, guard⟩ := o
  simp only [evQ] at h
  split at h
  · rename_i t x
    obtain ⟨xv, hx, h⟩ := withV_iff h
    obtain ⟨v, hK, hr⟩ := evLoad_sound hT h
    refine ⟨v, hK, fun a w hf hw => ?_⟩
    unfold Oper.quietAt
    have hrun : (execOp a.eval ⟨dst, .load t x, ty, pos, after, guard⟩).run P w = .ok (.value (den v)) w := by simp [execOp, ev_sound hf hx, hr w hw]
    rw [hrun]
    exact ⟨rfl, rfl⟩
  · rename_i f args tys
    obtain ⟨fv, hfv, h⟩ := withV_iff h
    obtain ⟨xs, h, hxs⟩ := withVs_iff h
    unfold evCall at h
    split at h
    · rename_i fid first cap _
      split at h
      · rename_i c hc
        cases hG _ _ hc with
        | own hen hok =>
          obtain ⟨v, hK, hr⟩ := hok _ _ _ h
          refine ⟨v, hK, fun a w hf hw => ?_⟩
          have e1 : args.map a.eval = (denL xs).toArray := by apply Array.ext'; rw [← hxs hf]; simp
          have e2 := ev_sound hf hfv
          unfold Oper.quietAt
          have hrun : (execOp a.eval ⟨dst, .call ⟨.value f, args, tys⟩, ty, pos, after, guard⟩).run P w = .ok (.enter fid (denL (first ++ xs ++ cap)).toArray) w := by
            simp only [execOp, resolve, e2, den, Deferred.ofValue, Sem.run_bind, Sem.run_pure, Result.andThen_ok, invoke, e1]
            rw [run_callFunc hen]
            simp [denL_map]
          rw [hrun]
          exact ⟨rfl, (hr w hw).mono fun e w' ⟨he, hb⟩ => ⟨he, hb⟩⟩
        | ext hx =>
          obtain ⟨v, hK, hr⟩ := hx _ _ _ h
          refine ⟨v, hK, fun a w hf hw => ?_⟩
          have e1 : args.map a.eval = (denL xs).toArray := by apply Array.ext'; rw [← hxs hf]; simp
          have e2 := ev_sound hf hfv
          unfold Oper.quietAt
          have hrun : (execOp a.eval ⟨dst, .call ⟨.value f, args, tys⟩, ty, pos, after, guard⟩).run P w = .ok (.value (den v)) w := by
            simp only [execOp, resolve, e2, den, Deferred.ofValue, Sem.run_bind, Sem.run_pure, Result.andThen_ok, invoke, e1]
            have := hr w
            rw [show (denL (first ++ xs ++ cap)).toArray = (denL first).toArray ++ (denL xs).toArray ++ (denL cap).toArray by simp [denL_map]] at this
            exact this
          rw [hrun]
          exact ⟨rfl, rfl⟩
      · exact h.elim
    · exact h.elim
  · obtain ⟨v, hv, hy⟩ := evP_sound (N := N) (ds := ds) (o := ⟨dst, op, ty, pos, after, guard⟩) hT h
    exact ⟨v, hv, hy.yields hp⟩
end Go.Sy
