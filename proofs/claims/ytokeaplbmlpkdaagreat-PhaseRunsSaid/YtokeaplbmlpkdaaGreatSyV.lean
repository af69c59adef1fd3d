/- Blocks told in another order, and all that points at them told anew. -/
import Derived.Test.YtokeaplbmlpkdaaGreatSyZ
set_option linter.unusedSimpArgs false
set_option linter.unusedVariables false
namespace Go.Sy
open Go.RowKit
def kdAt (hp : List HB) (i ty : Nat) : Bool := match hp[i]? with
  | some ⟨_, _, .wr t _, _⟩ => Nat.beq t ty
  | _ => false
/-- A way's end, where blocks are pulled into place, told by a look at one of them. -/
theorem Wk.kpc {P : Program} {X : Env P} {r : Option Nat} {Q : Post} {t : List It} {ds : List Nat} {fr : List (Nat × SV)} {hp : List HB} {K : List (Nat × SV) → List HB → Prop} (q ty : Nat) (hq : kdAt hp q ty = true) (ps : List (Nat × Nat))
    (h : ∀ K' : List HB → Prop, (∀ hq, K fr hq → K' hq) → pullK hp ps K') : Wk X r Q (.k ds K :: t) ds fr hp := Wk.kp ps h
def ptrsAt (fr : List (Nat × SV)) : List (Nat × Nat) → Bool
  | [] => true
  | (t, i) :: r => match lookN fr t with
    | some (.ptr j _ _ _ _) => Nat.beq i j && ptrsAt fr r
    | _ => false
/-- The same, told by where some variables point to. -/
theorem Wk.kpf {P : Program} {X : Env P} {r : Option Nat} {Q : Post} {t : List It} {ds : List Nat} {fr : List (Nat × SV)} {hp : List HB} {K : List (Nat × SV) → List HB → Prop} (ts : List (Nat × Nat)) (hq : ptrsAt fr ts = true) (ps : List (Nat × Nat))
    (h : ∀ K' : List HB → Prop, (∀ hq, K fr hq → K' hq) → pullK hp ps K') : Wk X r Q (.k ds K :: t) ds fr hp := Wk.kp ps h
theorem ex8 {A1 A2 A3 A4 A5 A6 A7 A8 : Type} {P : A1 × A2 × A3 × A4 × A5 × A6 × A7 × A8 → Prop} {a1 : A1} {a2 : A2} {a3 : A3} {a4 : A4} {a5 : A5} {a6 : A6} {a7 : A7} {a8 : A8} (h : P (a1, a2, a3, a4, a5, a6, a7, a8)) : ∃ x, P x := ⟨_, h⟩
end Go.Sy
