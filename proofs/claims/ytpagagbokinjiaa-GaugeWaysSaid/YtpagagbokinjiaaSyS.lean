/- Walls as arguments. -/
import Derived.Test.YtpagagbokinjiaaSyO
set_option linter.unusedSimpArgs false
set_option linter.unusedVariables false
namespace Go.Sy
open Go.RowKit Go.ChangeShapes Go.WideShapes Go.ChangeAt
def wl1 (x : SV) (hp : List HB) (K : Wal → Prop) : Prop :=
  match x with
  | .agg [a, b] => li a hp fun a => li b hp fun b => K ⟨a, b⟩
  | _ => False
theorem iff_wl1 {x : SV} {hp : List HB} {K : Wal → Prop} (h : wl1 x hp K) : ∃ (g : Wal) (a : Option Nm) (cap : Nat) (a' : Option Nm) (cap' : Nat), K g ∧ den (.agg [.sl 0 a 0 1 g.k.length cap, .sl 0 a' 0 1 g.b.length cap']) = den x ∧
    (0 < g.k.length → a.isSome = true) ∧ (0 < g.b.length → a'.isSome = true) ∧ ViewOk hp ⟨a, false, .ro, .ix g.k⟩ ∧ ViewOk hp ⟨a', false, .ro, .ix g.b⟩ := by
  unfold wl1 at h
  split at h
  · obtain ⟨xs, a, cap, h, hs⟩ := iff_li h
    obtain ⟨ys, b, dap, h, ht⟩ := iff_li h
    refine ⟨_, a, cap, b, dap, h, ?_, hs.pos, ht.pos, hs.ok, ht.ok⟩
    have q1 := hs.eq
    have q2 := ht.eq
    simp only [Cts.s, Cts.len] at q1 q2
    simp only [den, denL, ← q1, ← q2]
  · exact h.elim
section
variable {H : Type} {enc : TypeId × Value → H} {P : Program} {w : World} {base : Nat} {spare : Nat → Bool} {held : Bool}
theorem open_wal {r : Reach} {b0 : Nat} {t : TypeId} {v : Value} {d : DataW H} {ps : List MemPlace} (hn : shpT P 8 t = some [.sl 1, .sl 1]) (hagg : (match P.underlying t with | some (.struct _) => true | _ => false) = true)
    (hval : Value.okWide P w r b0 t v) (hd : DataW.Trod enc P w base spare held t v d ps) : ∃ (g : Wal) (a : Option Nm) (cap : Nat) (b : Option Nm) (dap : Nat), v = den (.agg [.sl 0 a 0 1 g.k.length cap, .sl 0 b 0 1 g.b.length dap]) ∧ (g.k.length ≤ 9223372036854775807 ∧ g.b.length ≤ 9223372036854775807) ∧
      (0 < g.k.length → a.isSome = true) ∧ (0 < g.b.length → b.isSome = true) ∧ HB.ok ⟨a, false, .ro, .ix g.k⟩ w ∧ HB.ok ⟨b, false, .ro, .ix g.b⟩ w := by
  obtain ⟨vs, rfl, hl, h⟩ := open_row hn hagg hval hd
  match vs, hl with
  | [z, u], _ =>
    obtain ⟨h1, h2⟩ := h 0 _ _ rfl rfl
    obtain ⟨a, len, cap, hs⟩ := h1.sl h2
    obtain ⟨cs, rfl, hi, hb⟩ := hs.ix
    obtain ⟨h3, h4⟩ := h 1 _ _ rfl rfl
    obtain ⟨b, len', dap, ht⟩ := h3.sl h4
    obtain ⟨ds, rfl, hj, hb'⟩ := ht.ix
    exact ⟨⟨cs, ds⟩, a, cap, b, dap, by rw [hs.eq, ht.eq]; simp [den, denL], ⟨Nat.le_trans hs.le hs.max, Nat.le_trans ht.le ht.max⟩, hs.pos, ht.pos, hb, hb'⟩
end
/-! ### A grid with its walls -/
structure Wld where
  g : Grd
  u : Wal
def gw1 (x : SV) (hp : List HB) (K : Wld → Prop) : Prop :=
  match x with
  | .agg [w, h, s, a, b] => i1 w fun w => i1 h fun h => lc s hp fun cs => li a hp fun a => li b hp fun b => K ⟨⟨w, h, cs⟩, ⟨a, b⟩⟩
  | _ => False
theorem iff_gw1 {x : SV} {hp : List HB} {K : Wld → Prop} (h : gw1 x hp K) : ∃ (g : Wld) (a : Option Nm) (cap : Nat) (b : Option Nm) (dap : Nat) (c : Option Nm) (ear : Nat), K g ∧ den (.agg [.int .i64 g.g.w, .int .i64 g.g.h, .sl 0 a 0 4 g.g.cs.length cap, .sl 0 b 0 1 g.u.k.length dap, .sl 0 c 0 1 g.u.b.length ear]) = den x ∧
    (0 < g.g.cs.length → a.isSome = true) ∧ (0 < g.u.k.length → b.isSome = true) ∧ (0 < g.u.b.length → c.isSome = true) ∧ ViewOk hp ⟨a, false, .ro, .cx g.g.cs⟩ ∧ ViewOk hp ⟨b, false, .ro, .ix g.u.k⟩ ∧ ViewOk hp ⟨c, false, .ro, .ix g.u.b⟩ := by
  unfold gw1 at h
  split at h
  · obtain ⟨w, h, e1⟩ := iff_i1 h
    obtain ⟨hh, h, e2⟩ := iff_i1 h
    obtain ⟨cs, a, cap, h, hs⟩ := iff_lc h
    obtain ⟨xs, b, dap, h, ht⟩ := iff_li h
    obtain ⟨ys, c, ear, h, hu⟩ := iff_li h
    refine ⟨_, a, cap, b, dap, c, ear, h, ?_, hs.pos, ht.pos, hu.pos, hs.ok, ht.ok, hu.ok⟩
    have q0 := hs.eq
    have q1 := ht.eq
    have q2 := hu.eq
    simp only [Cts.s, Cts.len] at q0 q1 q2
    simp only [den, denL, e1, e2, ← q0, ← q1, ← q2]
  · exact h.elim
section
variable {H : Type} {enc : TypeId × Value → H} {P : Program} {w : World} {base : Nat} {spare : Nat → Bool} {held : Bool}
theorem open_wld {r : Reach} {b0 : Nat} {t : TypeId} {v : Value} {d : DataW H} {ps : List MemPlace} (hn : shpT P 8 t = some [.int, .int, .sl 4, .sl 1, .sl 1]) (hagg : (match P.underlying t with | some (.struct _) => true | _ => false) = true)
    (hval : Value.okWide P w r b0 t v) (hd : DataW.Trod enc P w base spare held t v d ps) : ∃ (g : Wld) (a : Option Nm) (cap : Nat) (b : Option Nm) (dap : Nat) (c : Option Nm) (ear : Nat), v = den (.agg [.int .i64 g.g.w, .int .i64 g.g.h, .sl 0 a 0 4 g.g.cs.length cap, .sl 0 b 0 1 g.u.k.length dap, .sl 0 c 0 1 g.u.b.length ear]) ∧
      ((I64 g.g.w ∧ I64 g.g.h) ∧ g.g.cs.length ≤ 9223372036854775807 ∧ g.u.k.length ≤ 9223372036854775807 ∧ g.u.b.length ≤ 9223372036854775807) ∧
      (0 < g.g.cs.length → a.isSome = true) ∧ (0 < g.u.k.length → b.isSome = true) ∧ (0 < g.u.b.length → c.isSome = true) ∧ HB.ok ⟨a, false, .ro, .cx g.g.cs⟩ w ∧ HB.ok ⟨b, false, .ro, .ix g.u.k⟩ w ∧ HB.ok ⟨c, false, .ro, .ix g.u.b⟩ w := by
  obtain ⟨vs, rfl, hl, h⟩ := open_row hn hagg hval hd
  match vs, hl with
  | [x, y, z, p, q], _ =>
    obtain ⟨x', rfl, hx⟩ := (h 0 _ _ rfl rfl).1
    obtain ⟨y', rfl, hy⟩ := (h 1 _ _ rfl rfl).1
    obtain ⟨h1, h2⟩ := h 2 _ _ rfl rfl
    obtain ⟨a, len, cap, hs⟩ := h1.sl h2
    obtain ⟨cs, rfl, hb⟩ := hs.cx
    obtain ⟨h3, h4⟩ := h 3 _ _ rfl rfl
    obtain ⟨b, len', dap, ht⟩ := h3.sl h4
    obtain ⟨ks, rfl, hj, hb'⟩ := ht.ix
    obtain ⟨h5, h6⟩ := h 4 _ _ rfl rfl
    obtain ⟨c, len2, ear, hu⟩ := h5.sl h6
    obtain ⟨bs, rfl, hk, hb2⟩ := hu.ix
    exact ⟨⟨⟨x', y', cs⟩, ⟨ks, bs⟩⟩, a, cap, b, dap, c, ear, by rw [hs.eq, ht.eq, hu.eq]; simp [den, denL], ⟨⟨hx, hy⟩, Nat.le_trans hs.le hs.max, Nat.le_trans ht.le ht.max, Nat.le_trans hu.le hu.max⟩, hs.pos, ht.pos, hu.pos, hb, hb', hb2⟩
end
theorem wk_at {P : Program} {X : Env P} {r : Option Nat} {Q : Post} {rid : Nat} {o : Array Oper} {b : Bool} {t : List It} {ds : List Nat} {fr : List (Nat × SV)} {hp : List HB} (h : Wk X r Q (.c (.region rid o b) :: t) ds fr hp) : Wk X r Q (.c (.region rid o b) :: t) ds fr hp := h
/-! ### A difference that may go beyond the least number -/
def isSubW (o : Oper) : Bool := match o.op with
  | .binOp .sub _ _ _ _ => true
  | _ => false
def evSubW (op : Op) (fr : List (Nat × SV)) (K : SV → Prop) : Prop :=
  match op with
  | .binOp .sub _ x y _ => withV (ev fr x) fun x => withV (ev fr y) fun y => match x, y with
    | .int .i64 m, .int .i64 n => K (.int .i64 (IntKind.i64.wrap (m - n)))
    | _, _ => False
  | _ => False
theorem evSubW_sound {P : Program} {N : Nat} {ds : List Nat} {o : Oper} {fr : List (Nat × SV)} {K : SV → Prop} (h : evSubW o.op fr K) : ∃ v, K v ∧ PYields P N ds fr o v := by
  obtain ⟨dst, op, ty, pos, after, guard⟩ := o
  simp only [evSubW] at h
  split at h
  case h_2 => exact h.elim
  case h_1 t x y yt =>
    obtain ⟨xv, hx, h⟩ := withV_iff h
    obtain ⟨yv, hy, h⟩ := withV_iff h
    split at h
    case h_2 => exact h.elim
    case h_1 =>
      refine ⟨_, h, fun a hf w => ?_⟩
      rename_i m n _
      have e1 : a.eval x = Value.int .i64 m := ev_sound hf hx
      have e2 : a.eval y = Value.int .i64 n := ev_sound hf hy
      have hr : ((do eqGuard .sub t x y (.int .i64 m) (.int .i64 n); binOp .sub t (.int .i64 m) (.int .i64 n) : Sem Value)).run P w = .ok (den (.int .i64 (IntKind.i64.wrap (m - n)))) w := by simp [go_sem, den]
      simp only [execOp, e1, e2, Sem.run_bind] at hr ⊢
      rw [hr]; rfl
theorem Wk.opSubW {P : Program} {X : Env P} {r : Option Nat} {Q : Post} {t : List It} {ds : List Nat} {fr : List (Nat × SV)} {hp : List HB} {full rest : List Oper} {o : Oper} (_ : isSubW o = true)
    (h : ∀ K' : List (Nat × SV) → List HB → Prop, (∀ fr hp, Wk X r Q (.ops full rest :: t) ds fr hp → K' fr hp) →
      match noDef o with
      | true => guardB full o fr (fun fr => evSubW o.op fr fun v => putS X.N o.dst v fr fun fr => K' fr hp) (fun fr => putS X.N o.dst .und fr fun fr => K' fr hp)
      | false => False) : Wk X r Q (.ops full (o :: rest) :: t) ds fr hp := by
  have h := h _ fun _ _ h => h
  split at h
  case h_2 => exact h.elim
  rename_i hnd
  refine ⟨fun w0 a w hf hw => ?_⟩
  obtain ⟨fr', b, h, hb⟩ := guardB_sound (N := X.N) (ds := ds) h
  obtain ⟨hf', hwant⟩ := hb a hf
  show wpListIn (fw r) 0 P full.toArray (contQ X r w0 t (Q.q w0)) (o :: rest) a w
  unfold wpListIn
  rw [hwant]
  cases b with
  | true =>
    simp only [if_true] at h ⊢
    obtain ⟨v, hp1, hy⟩ := evSubW_sound (P := P) (N := X.N) (ds := ds) h
    obtain ⟨fr'', h1, hput⟩ := putS_sound (ds := ds) hp1
    refine wp_fw r hnd ?_
    have hq := (hy.yields hp) a w hf' hw.blk
    unfold Oper.quietAt at hq
    unfold Oper.wp
    generalize (execOp a.eval o).run P w = z at *
    cases z with
    | ok n w' =>
      cases n <;> simp only [Oper.quietUpon] at hq <;> simp only [Oper.upon]
      case value u => obtain ⟨rfl, rfl⟩ := hq; exact h1.out w0 _ _ (hput a hf') hw
      case skip => obtain ⟨rfl, e⟩ := hq; rw [← e]; exact h1.out w0 _ _ (hput a hf') hw
      case enter f args =>
        obtain ⟨rfl, hc⟩ := hq
        exact hc.mono fun e w'' ⟨he, hb⟩ => by subst he; exact h1.out w0 _ _ (hput a hf') (hw.below hb)
    | halt x w' => simp only [Oper.quietUpon] at hq
  | false =>
    simp only [Bool.false_eq_true, if_false] at h ⊢
    obtain ⟨fr'', h1, hput⟩ := putS_sound (ds := ds) h
    exact ⟨fun _ _ => trivial, h1.out w0 _ _ (hput a hf') hw⟩
end Go.Sy
