/- The operations that leave the world alone, all of them; regions whose order is open. -/
import Derived.Test.YtcagdjbinkadpaaSxC
set_option linter.unusedSimpArgs false
set_option linter.unusedVariables false
namespace Go.Sx
open Go.RowKit

def fillS (place : Nat → Option (Nat × Nat)) : List SV → List (Nat × SV) → Option (List SV)
  | xs, [] => some xs
  | xs, (i, v) :: r =>
    match place i, v.row with
    | some (off, s), some vs => if Nat.beq vs.length s && Nat.ble (off + vs.length) xs.length then fillS place (setL xs off vs) r else none
    | _, _ => none

theorem denL_setL : ∀ (vs xs : List SV) (o : Nat), (denL (setL xs o vs)).toArray = setVs (denL xs).toArray o (denL vs)
  | [], xs, o => rfl
  | v :: vs, xs, o => by
    rw [setL, denL_setL vs (xs.set o v) (o + 1)]
    simp [denL, denL_map, setVs, List.map_set]
theorem foldl_setVs : ∀ (vs : List Value) (cs : Array Value) (off k : Nat), (vs.zipIdx k).foldl (fun cs x => cs.setIfInBounds (off + x.2) x.1) cs = setVs cs (off + k) vs
  | [], _, _, _ => rfl
  | v :: vs, cs, off, k => by
    simp only [List.zipIdx_cons, List.foldl_cons, setVs]
    rw [foldl_setVs vs _ off (k + 1)]; rfl

theorem fillS_sound {place : Nat → Option (Nat × Nat)} : ∀ {ps : List (Nat × SV)} {xs ys : List SV}, fillS place xs ps = some ys →
    Instr.fill place (denL xs).toArray (ps.map fun p => (p.1, den p.2)) = some (denL ys).toArray
  | [], xs, ys, h => by cases h; rfl
  | (i, v) :: r, xs, ys, h => by
    unfold fillS at h
    split at h
    · rename_i off s vs hp hv
      split at h
      · rename_i hb
        simp only [Bool.and_eq_true] at hb
        have h1 : vs.length = s := Nat.eq_of_beq_eq_true hb.1
        have h2 : off + vs.length ≤ xs.length := Nat.le_of_ble_eq_true hb.2
        have hc := (SV.row_sound hv).1
        simp only [List.map_cons, Instr.fill, hp, hc]
        have hsz : (denL vs).toArray.size = vs.length := by simp [denL_map]
        have hsx : (denL xs).toArray.size = xs.length := by simp [denL_map]
        rw [if_neg (by rw [hsz, hsx]; simp; omega)]
        have := fillS_sound h
        rw [denL_setL] at this
        rw [← this]
        congr 1
        have hz := foldl_setVs (denL vs) (denL xs).toArray off 0
        rw [Nat.add_zero] at hz
        rw [← hz]
        simp
      · cases h
    · cases h

def withPs (fr : List (Nat × SV)) : List (Nat × Operand) → (List (Nat × SV) → Prop) → Prop
  | [], K => K []
  | (i, x) :: xs, K => withV (ev fr x) fun v => withPs fr xs fun vs => K ((i, v) :: vs)
theorem withPs_iff {fr : List (Nat × SV)} : ∀ {xs : List (Nat × Operand)} {K : List (Nat × SV) → Prop}, withPs fr xs K →
    ∃ vs, K vs ∧ ∀ {N : Nat} {a : Act}, FrOk N fr a → xs.map (fun p => (p.1, a.eval p.2)) = vs.map fun p => (p.1, den p.2)
  | [], K, h => ⟨[], h, fun _ => rfl⟩
  | (i, x) :: xs, K, h => by
    obtain ⟨v, hv, h⟩ := withV_iff h
    obtain ⟨vs, hK, hvs⟩ := withPs_iff h
    exact ⟨(i, v) :: vs, hK, fun hf => by simp [ev_sound hf hv, hvs hf]⟩

def evBuild (T : List (Nat × TyI)) (t : TypeId) (ps : List (Nat × SV)) (K : SV → Prop) : Prop :=
  match lookN T t with
  | some ⟨.arr _ _ s, _, z, _⟩ => match fillS (fun i => some (i * s, s)) z ps with
    | some ys => forceL ys fun ys => K (.agg ys)
    | none => False
  | some ⟨.str fl _, _, z, _⟩ => match fillS (fun i => fl[i]?) z ps with
    | some ys => forceL ys fun ys => K (.agg ys)
    | none => False
  | _ => False
theorem mapM_flds {P : Program} : ∀ {fs : List Field} {fl : List (Nat × Nat)}, FldsOk P fs fl → fs.mapM (fun f => (P.info? f.type).map fun i => (f.offset, i.size)) = some fl
  | [], [], _ => rfl
  | f :: fs, p :: ps, h => by
    obtain ⟨h1, ⟨i, hi, hs⟩, h3⟩ := h
    simp [List.mapM_cons, hi, mapM_flds h3, h1, hs]
  | [], _ :: _, h => h.elim
  | _ :: _, [], h => h.elim
theorem evBuild_sound {P : Program} {T : List (Nat × TyI)} (hT : TOk P T) {t : TypeId} {ps : List (Nat × SV)} {K : SV → Prop} (h : evBuild T t ps K) :
    ∃ v, K v ∧ ∀ w, (Instr.build t (ps.map fun p => (p.1, den p.2)).toArray).run P w = .ok (den v) w := by
  unfold evBuild at h
  split at h
  · rename_i n e s sz z q hi
    have hty := hT _ _ hi
    obtain ⟨hu, ie, hie, hse⟩ := hty.und
    obtain ⟨it, zz, hit, _, hz, hzc⟩ := hty.info
    split at h
    · rename_i ys hf
      rw [forceL_eq] at h
      refine ⟨_, h, fun w => ?_⟩
      apply run_build
      have := fillS_sound hf
      have hc : zz.cells = (denL z).toArray := by rw [← hzc]
      simp only [Program.built, hit, hu, hz, hie, hc, hse]
      exact this
    · exact h.elim
  · rename_i fl _ sz z q hi
    have hty := hT _ _ hi
    obtain ⟨fs, hu, hfl, _⟩ := hty.und
    obtain ⟨it, zz, hit, _, hz, hzc⟩ := hty.info
    split at h
    · rename_i ys hf
      rw [forceL_eq] at h
      refine ⟨_, h, fun w => ?_⟩
      apply run_build
      have := fillS_sound hf
      have hc : zz.cells = (denL z).toArray := by rw [← hzc]
      simp only [Program.built, hit, hu, hz, hc, mapM_flds hfl]
      simpa using this
    · exact h.elim
  · exact h.elim

/-- A function of the program's own text. -/
def Enters (P : Program) (f : FuncId) : Prop := ∃ fn, P.funcs[f]? = some fn ∧ (fn.name == "runtime.NumGoroutine") = false ∧ fn.body.isNone = false
theorem run_callFunc {P : Program} {f : FuncId} (h : Enters P f) (args : Array Value) (w : World) : (callFunc f args).run P w = .ok (.enter f args) w := by
  obtain ⟨fn, h1, h2, h3⟩ := h
  simp only [callFunc, Sem.run_bind, run_program, Result.andThen_ok, h1, h2, Bool.false_eq_true, if_false, h3, Sem.run_pure]

structure COk (P : Program) (f : FuncId) (c : Ctr) : Prop where
  enters : Enters P f
  ok : CtrOk P f c
def GsOk (P : Program) (G : List (Nat × Ctr)) : Prop := ∀ f c, lookN G f = some c → COk P f c
theorem GsOk.nil (P : Program) : GsOk P [] := fun _ _ h => by simp [lookN] at h
theorem GsOk.cons {P : Program} {G : List (Nat × Ctr)} {f : Nat} {c : Ctr} (h : COk P f c) (hG : GsOk P G) : GsOk P ((f, c) :: G) := fun u j hj => by
  unfold lookN at hj
  split at hj
  · rename_i he
    have : f = u := Nat.eq_of_beq_eq_true he
    subst this
    cases hj
    exact h
  · exact hG u j hj

def evCall (G : List (Nat × Ctr)) (fv : SV) (args : List SV) (hp : List HB) (K : SV → Prop) : Prop :=
  match fv with
  | .fn f first cap => match lookN G f with
    | some c => c (first ++ args ++ cap) hp K
    | none => False
  | _ => False

/-- One operation that leaves the world alone. -/
def evQ (T : List (Nat × TyI)) (G : List (Nat × Ctr)) (op : Op) (ty : TypeId) (fr : List (Nat × SV)) (hp : List HB) (K : SV → Prop) : Prop :=
  match op with
  | .move x | .assign x => withV (ev fr x) K
  | .pick c x y => withV (ev fr c) fun c => evPick c (ev fr x) (ev fr y) K
  | .build t ps => withPs fr ps.toList fun ps => evBuild T t ps K
  | .load t x => withV (ev fr x) fun x => evLoad T t hp x K
  | .binOp op t x y _ => withV (ev fr x) fun x => withV (ev fr y) fun y => evBin T op t x y K
  | .unOp op _ x => withV (ev fr x) fun x => evUn op x K
  | .convert s d x => withV (ev fr x) fun x => evConv T s d x K
  | .fieldAddr t x f => withV (ev fr x) fun x => evFieldAddr T t x f K
  | .indexAddr t x ix => withV (ev fr x) fun x => withV (ev fr ix) fun ix => evIndexAddr T t x ix K
  | .index t x ix => withV (ev fr x) fun x => withV (ev fr ix) fun ix => evIndex T t x ix K
  | .slice t x lo hi mx => withV (ev fr x) fun x =>
    match lo, hi, mx with
    | none, none, none => evSlice T t x none none none K
    | some l, none, none => withV (ev fr l) fun l => evSlice T t x (some l) none none K
    | none, some h, none => withV (ev fr h) fun h => evSlice T t x none (some h) none K
    | some l, some h, none => withV (ev fr l) fun l => withV (ev fr h) fun h => evSlice T t x (some l) (some h) none K
    | none, some h, some m => withV (ev fr h) fun h => withV (ev fr m) fun m => evSlice T t x none (some h) (some m) K
    | some l, some h, some m => withV (ev fr l) fun l => withV (ev fr h) fun h => withV (ev fr m) fun m => evSlice T t x (some l) (some h) (some m) K
    | _, _, _ => False
  | .extract x j => withV (ev fr x) fun x => evExtract x j K
  | .field t x f => withV (ev fr x) fun x => evField T t x f K
  | .makeFunc (.func f) first cap => withVs fr first.toList fun first => withVs fr cap.toList fun cap => K (.fn f first cap)
  | .nilCheck x => withV (ev fr x) fun x => match x with
    | .ptr i nm o => K (.ptr i nm o)
    | .fn f a b => K (.fn f a b)
    | _ => False
  | .call ⟨.builtin .len, args, tys⟩ => match args.toList, tys.toList with
    | [x], [t] => withV (ev fr x) fun x => evLen T t x K
    | _, _ => False
  | .call ⟨.builtin .min, args, _⟩ => withVs fr args.toList fun xs => evMin false xs K
  | .call ⟨.builtin .max, args, _⟩ => withVs fr args.toList fun xs => evMin true xs K
  | .call ⟨.value f, args, _⟩ => withV (ev fr f) fun f => withVs fr args.toList fun xs => evCall G f xs hp K
  | _ => False

theorem evQ_sound {P : Program} {T : List (Nat × TyI)} {G : List (Nat × Ctr)} (hT : TOk P T) (hG : GsOk P G) {N : Nat} {o : Oper} {fr : List (Nat × SV)} {hp : List HB} {K : SV → Prop}
    (h : evQ T G o.op o.type fr hp K) : ∃ v, K v ∧ Yields P N fr hp o v := by
  obtain ⟨dst, op, ty, pos, after, guard⟩ := o
  simp only [evQ] at h
  split at h
  case h_1 x =>
    obtain ⟨v, hv, h⟩ := withV_iff h
    exact ⟨v, h, .of_run fun a w0 w hf hw => by simp [execOp, ev_sound hf hv]⟩
  case h_2 x =>
    obtain ⟨v, hv, h⟩ := withV_iff h
    exact ⟨v, h, .of_run fun a w0 w hf hw => by simp [execOp, ev_sound hf hv]⟩
  case h_3 c x y =>
    obtain ⟨cv, hc, h⟩ := withV_iff h
    obtain ⟨v, b, hK, hb, hv⟩ := evPick_sound h
    refine ⟨v, hK, .of_run fun a w0 w hf hw => ?_⟩
    have h1 := ev_sound hf hc
    rw [hb] at h1
    cases b
    · simp [execOp, asBool, h1, ev_sound hf hv]
    · simp [execOp, asBool, h1, ev_sound hf hv]
  case h_4 t ps =>
    obtain ⟨vs, h, hvs⟩ := withPs_iff h
    obtain ⟨v, hK, hr⟩ := evBuild_sound hT h
    refine ⟨v, hK, .of_run fun a w0 w hf hw => ?_⟩
    have e : (ps.map fun x => (x.1, a.eval x.2)) = (vs.map fun p => (p.1, den p.2)).toArray := by
      apply Array.ext'
      rw [← hvs hf]; simp
    simp [execOp, e, hr]
  case h_5 t x =>
    obtain ⟨xv, hx, h⟩ := withV_iff h
    obtain ⟨v, hK, hr⟩ := evLoad_sound hT h
    exact ⟨v, hK, .of_run fun a w0 w hf hw => by simp [execOp, ev_sound hf hx, hr w0 w hw]⟩
  case h_6 op t x y yt =>
    obtain ⟨xv, hx, h⟩ := withV_iff h
    obtain ⟨yv, hy, h⟩ := withV_iff h
    obtain ⟨v, hK, hr⟩ := evBin_sound hT h
    refine ⟨v, hK, .of_run fun a w0 w hf hw => ?_⟩
    have := hr w x y
    simp only [execOp, ev_sound hf hx, ev_sound hf hy, Sem.run_bind] at this ⊢
    rw [this]; rfl
  case h_7 op t x =>
    obtain ⟨xv, hx, h⟩ := withV_iff h
    obtain ⟨v, hK, hr⟩ := evUn_sound (P := P) h
    exact ⟨v, hK, .of_run fun a w0 w hf hw => by simp [execOp, ev_sound hf hx, hr w]⟩
  case h_8 s d x =>
    obtain ⟨xv, hx, h⟩ := withV_iff h
    obtain ⟨v, hK, hr⟩ := evConv_sound hT h
    exact ⟨v, hK, .of_run fun a w0 w hf hw => by simp [execOp, ev_sound hf hx, hr w]⟩
  case h_9 t x f =>
    obtain ⟨xv, hx, h⟩ := withV_iff h
    obtain ⟨v, hK, hr⟩ := evFieldAddr_sound hT h
    exact ⟨v, hK, .of_run fun a w0 w hf hw => by simp [execOp, ev_sound hf hx, hr w]⟩
  case h_10 t x ix =>
    obtain ⟨xv, hx, h⟩ := withV_iff h
    obtain ⟨yv, hy, h⟩ := withV_iff h
    obtain ⟨v, hK, hr⟩ := evIndexAddr_sound hT h
    exact ⟨v, hK, .of_run fun a w0 w hf hw => by simp [execOp, ev_sound hf hx, ev_sound hf hy, hr w]⟩
  case h_11 t x ix =>
    obtain ⟨xv, hx, h⟩ := withV_iff h
    obtain ⟨yv, hy, h⟩ := withV_iff h
    obtain ⟨v, hK, hr⟩ := evIndex_sound hT h
    exact ⟨v, hK, .of_run fun a w0 w hf hw => by simp [execOp, ev_sound hf hx, ev_sound hf hy, hr w]⟩
  case h_12 t x lo hi mx =>
    obtain ⟨xv, hx, h⟩ := withV_iff h
    split at h
    · obtain ⟨v, hK, hr⟩ := evSlice_sound hT h
      exact ⟨v, hK, .of_run fun a w0 w hf hw => by have := hr w; simp only [Option.map_none] at this; simp [execOp, ev_sound hf hx, this]⟩
    · rename_i l
      obtain ⟨lv, hl, h⟩ := withV_iff h
      obtain ⟨v, hK, hr⟩ := evSlice_sound hT h
      exact ⟨v, hK, .of_run fun a w0 w hf hw => by have := hr w; simp only [Option.map_none, Option.map_some] at this; simp [execOp, ev_sound hf hx, ev_sound hf hl, this]⟩
    · rename_i l
      obtain ⟨lv, hl, h⟩ := withV_iff h
      obtain ⟨v, hK, hr⟩ := evSlice_sound hT h
      exact ⟨v, hK, .of_run fun a w0 w hf hw => by have := hr w; simp only [Option.map_none, Option.map_some] at this; simp [execOp, ev_sound hf hx, ev_sound hf hl, this]⟩
    · obtain ⟨lv, hl, h⟩ := withV_iff h
      obtain ⟨mv, hm, h⟩ := withV_iff h
      obtain ⟨v, hK, hr⟩ := evSlice_sound hT h
      exact ⟨v, hK, .of_run fun a w0 w hf hw => by have := hr w; simp only [Option.map_none, Option.map_some] at this; simp [execOp, ev_sound hf hx, ev_sound hf hl, ev_sound hf hm, this]⟩
    · obtain ⟨lv, hl, h⟩ := withV_iff h
      obtain ⟨mv, hm, h⟩ := withV_iff h
      obtain ⟨v, hK, hr⟩ := evSlice_sound hT h
      exact ⟨v, hK, .of_run fun a w0 w hf hw => by have := hr w; simp only [Option.map_none, Option.map_some] at this; simp [execOp, ev_sound hf hx, ev_sound hf hl, ev_sound hf hm, this]⟩
    · obtain ⟨lv, hl, h⟩ := withV_iff h
      obtain ⟨mv, hm, h⟩ := withV_iff h
      obtain ⟨nv, hn, h⟩ := withV_iff h
      obtain ⟨v, hK, hr⟩ := evSlice_sound hT h
      exact ⟨v, hK, .of_run fun a w0 w hf hw => by have := hr w; simp only [Option.map_some] at this; simp [execOp, ev_sound hf hx, ev_sound hf hl, ev_sound hf hm, ev_sound hf hn, this]⟩
    · exact h.elim
  case h_13 x j =>
    obtain ⟨xv, hx, h⟩ := withV_iff h
    obtain ⟨v, hK, hr⟩ := evExtract_sound (P := P) h
    exact ⟨v, hK, .of_run fun a w0 w hf hw => by simp [execOp, ev_sound hf hx, hr w]⟩
  case h_14 t x f =>
    obtain ⟨xv, hx, h⟩ := withV_iff h
    obtain ⟨v, hK, hr⟩ := evField_sound hT h
    exact ⟨v, hK, .of_run fun a w0 w hf hw => by simp [execOp, ev_sound hf hx, hr w]⟩
  case h_15 f first cap =>
    obtain ⟨xs, h, hxs⟩ := withVs_iff h
    obtain ⟨ys, h, hys⟩ := withVs_iff h
    refine ⟨_, h, .of_run fun a w0 w hf hw => ?_⟩
    have e1 : first.map a.eval = (denL xs).toArray := by apply Array.ext'; rw [← hxs hf]; simp
    have e2 : cap.map a.eval = (denL ys).toArray := by apply Array.ext'; rw [← hys hf]; simp
    simp [execOp, Instr.makeFunc, e1, e2, den]
  case h_16 x =>
    obtain ⟨xv, hx, h⟩ := withV_iff h
    split at h
    · exact ⟨_, h, .of_run fun a w0 w hf hw => by simp [execOp, ev_sound hf hx, den]⟩
    · exact ⟨_, h, .of_run fun a w0 w hf hw => by simp [execOp, ev_sound hf hx, den]⟩
    · exact h.elim
  case h_17 args tys =>
    split at h
    · rename_i x t ha ht
      obtain ⟨xv, hx, h⟩ := withV_iff h
      obtain ⟨v, hK, hr⟩ := evLen_sound hT h
      have ha : args = #[x] := by apply Array.ext'; simpa using ha
      have ht : tys = #[t] := by apply Array.ext'; simpa using ht
      subst ha; subst ht
      exact ⟨v, hK, .of_run fun a w0 w hf hw => by simp [execOp, resolve, invoke, builtin, ev_sound hf hx, hr]⟩
    · exact h.elim
  case h_18 args tys =>
    obtain ⟨xs, h, hxs⟩ := withVs_iff h
    obtain ⟨v, hK, hr⟩ := evMin_sound (P := P) h
    refine ⟨v, hK, .of_run fun a w0 w hf hw => ?_⟩
    have e1 : args.map a.eval = (denL xs).toArray := by apply Array.ext'; rw [← hxs hf]; simp
    have := hr tys ty w
    simp only [Bool.false_eq_true, if_false] at this
    simp [execOp, resolve, invoke, builtin, e1, this]
  case h_19 args tys =>
    obtain ⟨xs, h, hxs⟩ := withVs_iff h
    obtain ⟨v, hK, hr⟩ := evMin_sound (P := P) h
    refine ⟨v, hK, .of_run fun a w0 w hf hw => ?_⟩
    have e1 : args.map a.eval = (denL xs).toArray := by apply Array.ext'; rw [← hxs hf]; simp
    have := hr tys ty w
    simp only [if_true] at this
    simp [execOp, resolve, invoke, builtin, e1, this]
  case h_20 f args tys =>
    obtain ⟨fv, hfv, h⟩ := withV_iff h
    obtain ⟨xs, h, hxs⟩ := withVs_iff h
    unfold evCall at h
    split at h
    · rename_i fid first cap _
      split at h
      · rename_i c hc
        obtain ⟨hen, hok⟩ := hG _ _ hc
        obtain ⟨v, hK, hr⟩ := hok _ _ _ h
        refine ⟨v, hK, fun a w0 w hf hw => ?_⟩
        have e1 : args.map a.eval = (denL xs).toArray := by apply Array.ext'; rw [← hxs hf]; simp
        have e2 := ev_sound hf hfv
        unfold Oper.quietAt
        have hrun : (execOp a.eval ⟨dst, .call ⟨.value f, args, tys⟩, ty, pos, after, guard⟩).run P w = .ok (.enter fid (denL (first ++ xs ++ cap)).toArray) w := by
          simp only [execOp, resolve, e2, den, Deferred.ofValue, Sem.run_bind, Sem.run_pure, Result.andThen_ok, invoke, e1]
          rw [run_callFunc hen]
          simp [denL_map]
        rw [hrun]
        exact ⟨rfl, (hr w0 w hw).mono fun e w' ⟨he, hb⟩ => ⟨he, hw.below hb⟩⟩
      · exact h.elim
    · exact h.elim
  case h_21 => exact h.elim
end Go.Sx
