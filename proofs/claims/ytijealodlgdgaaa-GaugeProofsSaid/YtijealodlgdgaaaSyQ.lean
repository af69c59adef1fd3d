/- Two lists of rules in one. -/
import Derived.Test.YtijealodlgdgaaaSyO
set_option linter.unusedSimpArgs false
set_option linter.unusedVariables false
namespace Go.Sy
open Go.RowKit Go.ChangeShapes Go.WideShapes Go.ChangeAt
structure Rls where
  c : List Rul
  x : List Rul
def rl1 (x : SV) (hp : List HB) (K : Rls → Prop) : Prop :=
  match x with
  | .agg [a, b] => lr a hp fun a => lr b hp fun b => K ⟨a, b⟩
  | _ => False
theorem iff_rl1 {x : SV} {hp : List HB} {K : Rls → Prop} (h : rl1 x hp K) : ∃ (g : Rls) (a : Option Nm) (cap : Nat) (a' : Option Nm) (cap' : Nat), K g ∧ den (.agg [.sl 0 a 0 2 g.c.length cap, .sl 0 a' 0 2 g.x.length cap']) = den x ∧
    (0 < g.c.length → a.isSome = true) ∧ (0 < g.x.length → a'.isSome = true) ∧ ViewOk hp ⟨a, false, .ro, .rx g.c⟩ ∧ ViewOk hp ⟨a', false, .ro, .rx g.x⟩ := by
  unfold rl1 at h
  split at h
  · obtain ⟨xs, a, cap, h, hs⟩ := iff_lr h
    obtain ⟨ys, b, dap, h, ht⟩ := iff_lr h
    refine ⟨_, a, cap, b, dap, h, ?_, hs.pos, ht.pos, hs.ok, ht.ok⟩
    have q1 := hs.eq
    have q2 := ht.eq
    simp only [Cts.s, Cts.len] at q1 q2
    simp only [den, denL, ← q1, ← q2]
  · exact h.elim
section
variable {H : Type} {enc : TypeId × Value → H} {P : Program} {w : World} {base : Nat} {spare : Nat → Bool} {held : Bool}
theorem open_rls {r : Reach} {b0 : Nat} {t : TypeId} {v : Value} {d : DataW H} {ps : List MemPlace} (hn : shpT P 8 t = some [.sl 2, .sl 2]) (hagg : (match P.underlying t with | some (.struct _) => true | _ => false) = true)
    (hval : Value.okWide P w r b0 t v) (hd : DataW.Trod enc P w base spare held t v d ps) : ∃ (g : Rls) (a : Option Nm) (cap : Nat) (b : Option Nm) (dap : Nat), v = den (.agg [.sl 0 a 0 2 g.c.length cap, .sl 0 b 0 2 g.x.length dap]) ∧ (g.c.length ≤ 9223372036854775807 ∧ g.x.length ≤ 9223372036854775807) ∧
      (0 < g.c.length → a.isSome = true) ∧ (0 < g.x.length → b.isSome = true) ∧ HB.ok ⟨a, false, .ro, .rx g.c⟩ w ∧ HB.ok ⟨b, false, .ro, .rx g.x⟩ w := by
  obtain ⟨vs, rfl, hl, h⟩ := open_row hn hagg hval hd
  match vs, hl with
  | [z, u], _ =>
    obtain ⟨h1, h2⟩ := h 0 _ _ rfl rfl
    obtain ⟨a, len, cap, hs⟩ := h1.sl h2
    obtain ⟨cs, rfl, hb⟩ := hs.rx
    obtain ⟨h3, h4⟩ := h 1 _ _ rfl rfl
    obtain ⟨b, len', dap, ht⟩ := h3.sl h4
    obtain ⟨ds, rfl, hb'⟩ := ht.rx
    exact ⟨⟨cs, ds⟩, a, cap, b, dap, by rw [hs.eq, ht.eq]; simp [den, denL], ⟨Nat.le_trans hs.le hs.max, Nat.le_trans ht.le ht.max⟩, hs.pos, ht.pos, hb, hb'⟩
end
end Go.Sy
