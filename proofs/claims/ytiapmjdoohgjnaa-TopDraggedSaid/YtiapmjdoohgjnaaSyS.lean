/- Walls as arguments. -/
import Derived.Test.YtiapmjdoohgjnaaSyO
set_option linter.unusedSimpArgs false
set_option linter.unusedVariables false
namespace Go.Sy
open Go.RowKit Go.ChangeShapes Go.WideShapes Go.ChangeAt
def wl1 (x : SV) (hp : List HB) (K : Wal → Prop) : Prop :=
  match x with
  | .agg [a, b] => li a hp fun a => li b hp fun b => K ⟨a, b⟩
  | _ => False
theorem iff_wl1 {x : SV} {hp : List HB} {K : Wal → Prop} (h : wl1 x hp K) : ∃ (g : Wal) (a : Option Nm) (cap : Nat) (a' : Option Nm) (cap' : Nat), K g ∧ den (.agg [.sl 0 a 0 1 g.k.length cap, .sl 0 a' 0 1 g.b.length cap']) = den x ∧
    (0 < g.k.length → a.isSome = true) ∧ (0 < g.b.length → a'.isSome = true) ∧ ViewOk hp ⟨a, false, .ro, .ix g.k⟩ ∧ ViewOk hp ⟨a', false, .ro, .ix g.b⟩ := by
  unfold wl1 at h
  split at h
  · obtain ⟨xs, a, cap, h, hs⟩ := iff_li h
    obtain ⟨ys, b, dap, h, ht⟩ := iff_li h
    refine ⟨_, a, cap, b, dap, h, ?_, hs.pos, ht.pos, hs.ok, ht.ok⟩
    have q1 := hs.eq
    have q2 := ht.eq
    simp only [Cts.s, Cts.len] at q1 q2
    simp only [den, denL, ← q1, ← q2]
  · exact h.elim
section
variable {H : Type} {enc : TypeId × Value → H} {P : Program} {w : World} {base : Nat} {spare : Nat → Bool} {held : Bool}
end
/-! ### A grid with its walls -/
structure Wld where
  g : Grd
  u : Wal
def gw1 (x : SV) (hp : List HB) (K : Wld → Prop) : Prop :=
  match x with
  | .agg [w, h, s, a, b] => i1 w fun w => i1 h fun h => lc s hp fun cs => li a hp fun a => li b hp fun b => K ⟨⟨w, h, cs⟩, ⟨a, b⟩⟩
  | _ => False
theorem iff_gw1 {x : SV} {hp : List HB} {K : Wld → Prop} (h : gw1 x hp K) : ∃ (g : Wld) (a : Option Nm) (cap : Nat) (b : Option Nm) (dap : Nat) (c : Option Nm) (ear : Nat), K g ∧ den (.agg [.int .i64 g.g.w, .int .i64 g.g.h, .sl 0 a 0 4 g.g.cs.length cap, .sl 0 b 0 1 g.u.k.length dap, .sl 0 c 0 1 g.u.b.length ear]) = den x ∧
    (0 < g.g.cs.length → a.isSome = true) ∧ (0 < g.u.k.length → b.isSome = true) ∧ (0 < g.u.b.length → c.isSome = true) ∧ ViewOk hp ⟨a, false, .ro, .cx g.g.cs⟩ ∧ ViewOk hp ⟨b, false, .ro, .ix g.u.k⟩ ∧ ViewOk hp ⟨c, false, .ro, .ix g.u.b⟩ := by
  unfold gw1 at h
  split at h
  · obtain ⟨w, h, e1⟩ := iff_i1 h
    obtain ⟨hh, h, e2⟩ := iff_i1 h
    obtain ⟨cs, a, cap, h, hs⟩ := iff_lc h
    obtain ⟨xs, b, dap, h, ht⟩ := iff_li h
    obtain ⟨ys, c, ear, h, hu⟩ := iff_li h
    refine ⟨_, a, cap, b, dap, c, ear, h, ?_, hs.pos, ht.pos, hu.pos, hs.ok, ht.ok, hu.ok⟩
    have q0 := hs.eq
    have q1 := ht.eq
    have q2 := hu.eq
    simp only [Cts.s, Cts.len] at q0 q1 q2
    simp only [den, denL, e1, e2, ← q0, ← q1, ← q2]
  · exact h.elim
section
variable {H : Type} {enc : TypeId × Value → H} {P : Program} {w : World} {base : Nat} {spare : Nat → Bool} {held : Bool}
theorem open_wld {r : Reach} {b0 : Nat} {t : TypeId} {v : Value} {d : DataW H} {ps : List MemPlace} (hn : shpT P 8 t = some [.int, .int, .sl 4, .sl 1, .sl 1]) (hagg : (match P.underlying t with | some (.struct _) => true | _ => false) = true)
    (hval : Value.okWide P w r b0 t v) (hd : DataW.Trod enc P w base spare held t v d ps) : ∃ (g : Wld) (a : Option Nm) (cap : Nat) (b : Option Nm) (dap : Nat) (c : Option Nm) (ear : Nat), v = den (.agg [.int .i64 g.g.w, .int .i64 g.g.h, .sl 0 a 0 4 g.g.cs.length cap, .sl 0 b 0 1 g.u.k.length dap, .sl 0 c 0 1 g.u.b.length ear]) ∧
      ((I64 g.g.w ∧ I64 g.g.h) ∧ g.g.cs.length ≤ 9223372036854775807 ∧ g.u.k.length ≤ 9223372036854775807 ∧ g.u.b.length ≤ 9223372036854775807) ∧
      (0 < g.g.cs.length → a.isSome = true) ∧ (0 < g.u.k.length → b.isSome = true) ∧ (0 < g.u.b.length → c.isSome = true) ∧ HB.ok ⟨a, false, .ro, .cx g.g.cs⟩ w ∧ HB.ok ⟨b, false, .ro, .ix g.u.k⟩ w ∧ HB.ok ⟨c, false, .ro, .ix g.u.b⟩ w := by
  obtain ⟨vs, rfl, hl, h⟩ := open_row hn hagg hval hd
  match vs, hl with
  | [x, y, z, p, q], _ =>
    obtain ⟨x', rfl, hx⟩ := (h 0 _ _ rfl rfl).1
    obtain ⟨y', rfl, hy⟩ := (h 1 _ _ rfl rfl).1
    obtain ⟨h1, h2⟩ := h 2 _ _ rfl rfl
    obtain ⟨a, len, cap, hs⟩ := h1.sl h2
    obtain ⟨cs, rfl, hb⟩ := hs.cx
    obtain ⟨h3, h4⟩ := h 3 _ _ rfl rfl
    obtain ⟨b, len', dap, ht⟩ := h3.sl h4
    obtain ⟨ks, rfl, hj, hb'⟩ := ht.ix
    obtain ⟨h5, h6⟩ := h 4 _ _ rfl rfl
    obtain ⟨c, len2, ear, hu⟩ := h5.sl h6
    obtain ⟨bs, rfl, hk, hb2⟩ := hu.ix
    exact ⟨⟨⟨x', y', cs⟩, ⟨ks, bs⟩⟩, a, cap, b, dap, c, ear, by rw [hs.eq, ht.eq, hu.eq]; simp [den, denL], ⟨⟨hx, hy⟩, Nat.le_trans hs.le hs.max, Nat.le_trans ht.le ht.max, Nat.le_trans hu.le hu.max⟩, hs.pos, ht.pos, hu.pos, hb, hb', hb2⟩
end
/-! ### A difference that may go beyond the least number -/
end Go.Sy
