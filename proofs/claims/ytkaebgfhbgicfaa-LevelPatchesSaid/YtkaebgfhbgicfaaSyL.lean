/- Patches: two grids and four whole numbers, as arguments. -/
import Derived.Test.YtkaebgfhbgicfaaSyK
import Derived.Test.YtkaebgfhbgicfaaSyO
set_option linter.unusedSimpArgs false
set_option linter.unusedVariables false
set_option linter.unusedSectionVars false
namespace Go.Sy
theorem Pat.eta (p : Pat) : (⟨p.c, p.x0, p.y0, p.x1, p.y1, p.f⟩ : Pat) = p := rfl
def pp1 (x : SV) (hp : List HB) (K : Pat → Prop) : Prop :=
  match x with
  | .agg [w, h, a, x0, y0, x1, y1, u, v, b] => i1 w fun w => i1 h fun h => lc a hp fun a => i1 x0 fun x0 => i1 y0 fun y0 => i1 x1 fun x1 => i1 y1 fun y1 => i1 u fun u => i1 v fun v => lc b hp fun b => K ⟨⟨w, h, a⟩, x0, y0, x1, y1, ⟨u, v, b⟩⟩
  | _ => False
theorem iff_pp1 {x : SV} {hp : List HB} {K : Pat → Prop} (h : pp1 x hp K) : ∃ (p : Pat) (a : Option Nm) (cap : Nat) (b : Option Nm) (dap : Nat), K p ∧ den (.agg [.int .i64 p.c.w, .int .i64 p.c.h, .sl 0 a 0 4 p.c.cs.length cap, .int .i64 p.x0, .int .i64 p.y0, .int .i64 p.x1, .int .i64 p.y1, .int .i64 p.f.w, .int .i64 p.f.h, .sl 0 b 0 4 p.f.cs.length dap]) = den x ∧
    (0 < p.c.cs.length → a.isSome = true) ∧ (0 < p.f.cs.length → b.isSome = true) ∧ ViewOk hp ⟨a, false, .ro, .cx p.c.cs⟩ ∧ ViewOk hp ⟨b, false, .ro, .cx p.f.cs⟩ := by
  unfold pp1 at h
  split at h
  · obtain ⟨w, h, e1⟩ := iff_i1 h
    obtain ⟨hh, h, e2⟩ := iff_i1 h
    obtain ⟨xs, a, cap, h, hs⟩ := iff_lc h
    obtain ⟨x0, h, e3⟩ := iff_i1 h
    obtain ⟨y0, h, e4⟩ := iff_i1 h
    obtain ⟨x1, h, e5⟩ := iff_i1 h
    obtain ⟨y1, h, e6⟩ := iff_i1 h
    obtain ⟨u, h, e7⟩ := iff_i1 h
    obtain ⟨v, h, e8⟩ := iff_i1 h
    obtain ⟨ys, b, dap, h, ht⟩ := iff_lc h
    refine ⟨_, a, cap, b, dap, h, ?_, hs.pos, ht.pos, hs.ok, ht.ok⟩
    have q1 := hs.eq
    have q2 := ht.eq
    simp only [Cts.s, Cts.len] at q1 q2
    simp only [den, denL, e1, e2, e3, e4, e5, e6, e7, e8, ← q1, ← q2]
  · exact h.elim
section
open Go.RowKit Go.ChangeShapes Go.WideShapes Go.ChangeAt
variable {H : Type} {enc : TypeId × Value → H} {P : Program} {w : World} {base : Nat} {spare : Nat → Bool} {held : Bool}
theorem open_ptc {r : Reach} {b0 : Nat} {t : TypeId} {v : Value} {d : DataW H} {ps : List MemPlace} (hn : shpT P 8 t = some [.int, .int, .sl 4, .int, .int, .int, .int, .int, .int, .sl 4]) (hagg : (match P.underlying t with | some (.struct _) => true | _ => false) = true)
    (hval : Value.okWide P w r b0 t v) (hd : DataW.Trod enc P w base spare held t v d ps) : ∃ (p : Pat) (a : Option Nm) (cap : Nat) (b : Option Nm) (dap : Nat), v = den (.agg [.int .i64 p.c.w, .int .i64 p.c.h, .sl 0 a 0 4 p.c.cs.length cap, .int .i64 p.x0, .int .i64 p.y0, .int .i64 p.x1, .int .i64 p.y1, .int .i64 p.f.w, .int .i64 p.f.h, .sl 0 b 0 4 p.f.cs.length dap]) ∧
      ((I64 p.c.w ∧ I64 p.c.h ∧ p.c.cs.length ≤ 9223372036854775807) ∧ (I64 p.x0 ∧ I64 p.y0 ∧ I64 p.x1 ∧ I64 p.y1) ∧ I64 p.f.w ∧ I64 p.f.h ∧ p.f.cs.length ≤ 9223372036854775807) ∧
      (0 < p.c.cs.length → a.isSome = true) ∧ (0 < p.f.cs.length → b.isSome = true) ∧ HB.ok ⟨a, false, .ro, .cx p.c.cs⟩ w ∧ HB.ok ⟨b, false, .ro, .cx p.f.cs⟩ w := by
  obtain ⟨vs, rfl, hl, h⟩ := open_row hn hagg hval hd
  match vs, hl with
  | [x, y, z, q0, q1, q2, q3, x2, y2, u], _ =>
    obtain ⟨x', rfl, hx⟩ := (h 0 _ _ rfl rfl).1
    obtain ⟨y', rfl, hy⟩ := (h 1 _ _ rfl rfl).1
    obtain ⟨h1, h2⟩ := h 2 _ _ rfl rfl
    obtain ⟨a, len, cap, hs⟩ := h1.sl h2
    obtain ⟨cs, rfl, hb⟩ := hs.cx
    obtain ⟨k0, rfl, hk0⟩ := (h 3 _ _ rfl rfl).1
    obtain ⟨k1, rfl, hk1⟩ := (h 4 _ _ rfl rfl).1
    obtain ⟨k2, rfl, hk2⟩ := (h 5 _ _ rfl rfl).1
    obtain ⟨k3, rfl, hk3⟩ := (h 6 _ _ rfl rfl).1
    obtain ⟨x3, rfl, hx3⟩ := (h 7 _ _ rfl rfl).1
    obtain ⟨y3, rfl, hy3⟩ := (h 8 _ _ rfl rfl).1
    obtain ⟨h3, h4⟩ := h 9 _ _ rfl rfl
    obtain ⟨b, len', dap, ht⟩ := h3.sl h4
    obtain ⟨ds, rfl, hb'⟩ := ht.cx
    exact ⟨⟨⟨x', y', cs⟩, k0, k1, k2, k3, ⟨x3, y3, ds⟩⟩, a, cap, b, dap, by rw [hs.eq, ht.eq]; simp [den, denL], ⟨⟨hx, hy, Nat.le_trans hs.le hs.max⟩, ⟨hk0, hk1, hk2, hk3⟩, hx3, hy3, Nat.le_trans ht.le ht.max⟩, hs.pos, ht.pos, hb, hb'⟩
end
end Go.Sy
