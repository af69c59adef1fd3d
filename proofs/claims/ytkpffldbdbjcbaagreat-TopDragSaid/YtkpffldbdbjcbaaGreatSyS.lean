/- Walls as arguments. -/
import Derived.Test.YtkpffldbdbjcbaaGreatSyO
set_option linter.unusedSimpArgs false
set_option linter.unusedVariables false
namespace Go.Sy
open Go.RowKit Go.ChangeShapes Go.WideShapes Go.ChangeAt
def wl1 (x : SV) (hp : List HB) (K : Wal → Prop) : Prop :=
  match x with
  | .agg [a, b] => li a hp fun a => li b hp fun b => K ⟨a, b⟩
  | _ => False
theorem iff_wl1 {x : SV} {hp : List HB} {K : Wal → Prop} (h : wl1 x hp K) : ∃ (g : Wal) (a : Option Nm) (cap : Nat) (a' : Option Nm) (cap' : Nat), K g ∧ den (.agg [.sl 0 a 0 1 g.k.length cap, .sl 0 a' 0 1 g.b.length cap']) = den x ∧
    (0 < g.k.length → a.isSome = true) ∧ (0 < g.b.length → a'.isSome = true) ∧ ViewOk hp ⟨a, false, .ro, .ix g.k⟩ ∧ ViewOk hp ⟨a', false, .ro, .ix g.b⟩ := by
  unfold wl1 at h
  split at h
  · obtain ⟨xs, a, cap, h, hs⟩ := iff_li h
    obtain ⟨ys, b, dap, h, ht⟩ := iff_li h
    refine ⟨_, a, cap, b, dap, h, ?_, hs.pos, ht.pos, hs.ok, ht.ok⟩
    have q1 := hs.eq
    have q2 := ht.eq
    simp only [Cts.s, Cts.len] at q1 q2
    simp only [den, denL, ← q1, ← q2]
  · exact h.elim
section
variable {H : Type} {enc : TypeId × Value → H} {P : Program} {w : World} {base : Nat} {spare : Nat → Bool} {held : Bool}
theorem open_wal {r : Reach} {b0 : Nat} {t : TypeId} {v : Value} {d : DataW H} {ps : List MemPlace} (hn : shpT P 8 t = some [.sl 1, .sl 1]) (hagg : (match P.underlying t with | some (.struct _) => true | _ => false) = true)
    (hval : Value.okWide P w r b0 t v) (hd : DataW.Trod enc P w base spare held t v d ps) : ∃ (g : Wal) (a : Option Nm) (cap : Nat) (b : Option Nm) (dap : Nat), v = den (.agg [.sl 0 a 0 1 g.k.length cap, .sl 0 b 0 1 g.b.length dap]) ∧ (g.k.length ≤ 9223372036854775807 ∧ g.b.length ≤ 9223372036854775807) ∧
      (0 < g.k.length → a.isSome = true) ∧ (0 < g.b.length → b.isSome = true) ∧ HB.ok ⟨a, false, .ro, .ix g.k⟩ w ∧ HB.ok ⟨b, false, .ro, .ix g.b⟩ w := by
  obtain ⟨vs, rfl, hl, h⟩ := open_row hn hagg hval hd
  match vs, hl with
  | [z, u], _ =>
    obtain ⟨h1, h2⟩ := h 0 _ _ rfl rfl
    obtain ⟨a, len, cap, hs⟩ := h1.sl h2
    obtain ⟨cs, rfl, hi, hb⟩ := hs.ix
    obtain ⟨h3, h4⟩ := h 1 _ _ rfl rfl
    obtain ⟨b, len', dap, ht⟩ := h3.sl h4
    obtain ⟨ds, rfl, hj, hb'⟩ := ht.ix
    exact ⟨⟨cs, ds⟩, a, cap, b, dap, by rw [hs.eq, ht.eq]; simp [den, denL], ⟨Nat.le_trans hs.le hs.max, Nat.le_trans ht.le ht.max⟩, hs.pos, ht.pos, hb, hb'⟩
end
/-! ### A grid with its walls -/
structure Wld where
  g : Grd
  u : Wal
section
variable {H : Type} {enc : TypeId × Value → H} {P : Program} {w : World} {base : Nat} {spare : Nat → Bool} {held : Bool}
end
theorem wk_at {P : Program} {X : Env P} {r : Option Nat} {Q : Post} {rid : Nat} {o : Array Oper} {b : Bool} {t : List It} {ds : List Nat} {fr : List (Nat × SV)} {hp : List HB} (h : Wk X r Q (.c (.region rid o b) :: t) ds fr hp) : Wk X r Q (.c (.region rid o b) :: t) ds fr hp := h
/-! ### A difference that may go beyond the least number -/
end Go.Sy
