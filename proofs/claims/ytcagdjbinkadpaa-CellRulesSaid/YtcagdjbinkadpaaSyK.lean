/- More arguments: two cells in one. -/
import Derived.Test.YtcagdjbinkadpaaSyJ
set_option linter.unusedSimpArgs false
set_option linter.unusedVariables false
namespace Go.Sy
/-- Two cells. -/
structure Prr where
  a : Cel
  b : Cel
  deriving DecidableEq
theorem Prr.eta (p : Prr) : (⟨p.a, p.b⟩ : Prr) = p := rfl
def d1 (x : SV) (K : Prr → Prop) : Prop :=
  match x with
  | .agg [a, b, c, d, e, f, g, h] => i1 a fun a => i1 b fun b => i1 c fun c => i1 d fun d => i1 e fun e => i1 f fun f => i1 g fun g => i1 h fun h => K ⟨⟨a, b, c, d⟩, ⟨e, f, g, h⟩⟩
  | _ => False
theorem iff_d1 {x : SV} {K : Prr → Prop} (h : d1 x K) : ∃ c : Prr, K c ∧ den x = den (.agg [.int .i64 c.a.e, .int .i64 c.a.n, .int .i64 c.a.w, .int .i64 c.a.s, .int .i64 c.b.e, .int .i64 c.b.n, .int .i64 c.b.w, .int .i64 c.b.s]) := by
  unfold d1 at h
  split at h
  · obtain ⟨a, h, h1⟩ := iff_i1 h
    obtain ⟨b, h, h2⟩ := iff_i1 h
    obtain ⟨c, h, h3⟩ := iff_i1 h
    obtain ⟨d, h, h4⟩ := iff_i1 h
    obtain ⟨e, h, h5⟩ := iff_i1 h
    obtain ⟨f, h, h6⟩ := iff_i1 h
    obtain ⟨k, h, h7⟩ := iff_i1 h
    obtain ⟨l, h, h8⟩ := iff_i1 h
    exact ⟨_, h, by simp [den, denL, h1, h2, h3, h4, h5, h6, h7, h8]⟩
  · exact h.elim
/-- A function's value without captured variables. -/
def f1 (x : SV) (K : Nat → Prop) : Prop :=
  match x with
  | .fn n [] [] => K n
  | _ => False
theorem iff_f1 {x : SV} {K : Nat → Prop} (h : f1 x K) : ∃ n : Nat, K n ∧ den x = den (.fn n [] []) := by
  unfold f1 at h
  split at h
  · exact ⟨_, h, rfl⟩
  · exact h.elim
end Go.Sy
