/- Blocks told in another order, and all that points at them told anew. -/
import Derived.Test.YtkpffldbdbjcbaaGreatSyZ
set_option linter.unusedSimpArgs false
set_option linter.unusedVariables false
namespace Go.Sy
open Go.RowKit
mutual
def SV.ren (f : Nat → Nat) : SV → SV
  | .ptr i nm k s d => .ptr (f i) nm k s d
  | .sl i a k s len cap => .sl (f i) a k s len cap
  | .sub i nm k s d len cap => .sub (f i) nm k s d len cap
  | .map i g => .map (f i) g
  | .agg xs => .agg (renL f xs)
  | .tup xs => .tup (renL f xs)
  | .fn n a c => .fn n (renL f a) (renL f c)
  | .und => .und
  | .bool b => .bool b
  | .int k n => .int k n
  | .lit n => .lit n
  | .str s => .str s
  | .nilsl => .nilsl
  | .yld l => .yld l
  | .val v => .val v
def renL (f : Nat → Nat) : List SV → List SV
  | [] => []
  | x :: xs => SV.ren f x :: renL f xs
end
mutual
theorem den_ren (f : Nat → Nat) : ∀ v : SV, den (SV.ren f v) = den v
  | .ptr i nm k s d => by simp only [SV.ren, den]
  | .sl i a k s len cap => by simp only [SV.ren, den]
  | .sub i nm k s d len cap => by simp only [SV.ren, den]
  | .map i g => by simp only [SV.ren, den]
  | .agg xs => by simp only [SV.ren, den, denL_ren f xs]
  | .tup xs => by simp only [SV.ren, den, denL_ren f xs]
  | .fn n a c => by simp only [SV.ren, den, denL_ren f a, denL_ren f c]
  | .und => rfl
  | .bool b => rfl
  | .int k n => rfl
  | .lit n => rfl
  | .str s => rfl
  | .nilsl => rfl
  | .yld l => rfl
  | .val v => rfl
theorem denL_ren (f : Nat → Nat) : ∀ xs : List SV, denL (renL f xs) = denL xs
  | [] => rfl
  | x :: xs => by simp only [renL, denL, den_ren f x, denL_ren f xs]
end
def Cts.ren (f : Nat → Nat) : Cts → Cts
  | .l xs => .l (renL f xs)
  | c => c
def HB.ren (f : Nat → Nat) (b : HB) : HB := ⟨b.nm, b.own, b.kd, b.cts.ren f⟩
theorem HB.ren_like (f : Nat → Nat) (b : HB) : (HB.ren f b).like b := by
  obtain ⟨nm, own, kd, c⟩ := b
  cases c with
  | l xs => exact like_l (denL_ren f xs)
  | _ => exact HB.like.refl _
def renH (f : Nat → Nat) : List HB → List HB
  | [] => []
  | b :: r => HB.ren f b :: renH f r
theorem hsel_ren (f : Nat → Nat) : ∀ hp : List HB, hsel (renH f hp) hp
  | [] => hsel.nil
  | b :: r => by
    refine hsel.take (HB.ren_like f b) ?_ (hsel_ren f r)
    by_cases ho : b.own = true
    · exact .inl ho
    · refine .inr fun g hg => ?_
      obtain ⟨nm, own, kd, c⟩ := b
      simp only [HB.cl] at hg ⊢
      exact hg
def renF (f : Nat → Nat) : List (Nat × SV) → List (Nat × SV)
  | [] => []
  | (t, v) :: r => (t, SV.ren f v) :: renF f r
theorem lookN_ren (f : Nat → Nat) (t : Nat) : ∀ fr : List (Nat × SV), lookN (renF f fr) t = (lookN fr t).map (SV.ren f)
  | [] => rfl
  | (u, v) :: r => by
    simp only [renF, lookN]
    split
    · rfl
    · exact lookN_ren f t r
/-- A map of places, by its pairs. -/
def renOf : List (Nat × Nat) → Nat → Nat
  | [], i => i
  | (a, b) :: r, i => if i = a then b else renOf r i
def kdAt (hp : List HB) (i ty : Nat) : Bool := match hp[i]? with
  | some ⟨_, _, .wr t _, _⟩ => Nat.beq t ty
  | _ => false
theorem Wk.canon {P : Program} {X : Env P} {r : Option Nat} {Q : Post} {t : List It} {ds : List Nat} {fr : List (Nat × SV)} {hp : List HB} (q ty : Nat) (hq : kdAt hp q ty = true) (f : List (Nat × Nat)) (ps : List (Nat × Nat))
    (h : ∀ K' : List (Nat × SV) → List HB → Prop, (∀ fr' hq, Wk X r Q t ds fr' hq → K' fr' hq) → pullK hp ps fun hq => K' (renF (renOf f) fr) (renH (renOf f) hq)) : Wk X r Q t ds fr hp := by
  obtain ⟨q', hp', hk⟩ := pullK_iff (h (fun fr' hq => Wk X r Q t ds fr' hq) fun _ _ h => h)
  refine ⟨fun w0 a w hf hw => hk.out w0 a w ⟨hf.size, hf.defers, fun t v hl => ?_⟩ ((hw.perm hp'.symm).sel (hsel_ren _ _))⟩
  rw [lookN_ren] at hl
  cases hu : lookN fr t with
  | none => rw [hu] at hl; cases hl
  | some u =>
    rw [hu] at hl
    simp only [Option.map_some, Option.some.injEq] at hl
    subst hl
    rw [den_ren]
    exact hf.slot t u hu
end Go.Sy
