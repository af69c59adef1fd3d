/- Grids shifted, turned, mirrored, reversed. -/
import Derived.Test.YtpagagbokinjiaaSpStep
import Derived.Test.YtpagagbokinjiaaSpOrder
set_option linter.unusedSimpArgs false
set_option linter.unusedVariables false
set_option linter.unusedSectionVars false
namespace Go.Sy

/-! ### Cells laid one by one at places of their own -/
structure Bij (n : Nat) (σ τ : Nat → Nat) : Prop where
  s : ∀ i, i < n → σ i < n
  t : ∀ i, i < n → τ i < n
  ts : ∀ i, i < n → τ (σ i) = i
  st : ∀ i, i < n → σ (τ i) = i
theorem Bij.symm {n : Nat} {σ τ : Nat → Nat} (h : Bij n σ τ) : Bij n τ σ := ⟨h.t, h.s, h.st, h.ts⟩
def scat (n : Nat) (τ : Nat → Nat) (f : Nat → Cel) (k : Nat) : List Cel := tab n fun j => if τ j < k then f (τ j) else ⟨0, 0, 0, 0⟩
theorem scat_length (n : Nat) (τ : Nat → Nat) (f : Nat → Cel) (k : Nat) : (scat n τ f k).length = n := tab_length _ _
theorem scat_zero (n : Nat) (τ : Nat → Nat) (f : Nat → Cel) : scat n τ f 0 = List.replicate n ⟨0, 0, 0, 0⟩ := by
  unfold scat tab
  rw [show List.replicate n (⟨0, 0, 0, 0⟩ : Cel) = List.replicate (List.range n).length ⟨0, 0, 0, 0⟩ by simp, ← List.map_const']
  simp
theorem scat_full {n : Nat} {σ τ : Nat → Nat} (h : Bij n σ τ) (f : Nat → Cel) {k : Nat} (hk : n ≤ k) : scat n τ f k = tab n fun j => f (τ j) :=
  tab_congr fun i hi => by have := h.t i hi; rw [if_pos (by omega)]
theorem scat_set {n : Nat} {σ τ : Nat → Nat} (h : Bij n σ τ) (f : Nat → Cel) {k : Nat} (hk : k < n) {v : Cel} (hv : v = f k) : (scat n τ f k).set (σ k) v = scat n τ f (k + 1) := by
  subst hv
  refine tab_set fun i hi => ?_
  by_cases e : i = σ k
  · subst e; simp [h.ts k hk]
  · have : τ i ≠ k := fun e' => e (by rw [← e', h.st i hi])
    rw [if_neg e]
    have e2 : (τ i < k + 1) ↔ (τ i < k) := by omega
    simp only [e2]

section
variable {w h : Int} (hw : 0 < w) (hh : 0 < h)
include hw hh
theorem bij_shp {n : Nat} (hn : (n : Int) = w * h) (a b : Int) : Bij n (shp w h a b) (shp w h (-a) (-b)) := by
  have lt : ∀ a b i, shp w h a b i < n := fun a b i => by have := shp_lt hw hh a b i; omega
  refine ⟨fun i _ => lt _ _ _, fun i _ => lt _ _ _, fun i hi => ?_, fun i hi => ?_⟩
  · rw [shp_shp hw hh, show a + -a = 0 by omega, show b + -b = 0 by omega, shp_zero hw hh (by omega)]
  · rw [shp_shp hw hh, show -a + a = 0 by omega, show -b + b = 0 by omega, shp_zero hw hh (by omega)]
end
/-- x turned round. -/
def mirP (w : Int) (i : Nat) : Nat := ((w - 1 - (i : Int) % w) + w * ((i : Int) / w)).toNat
/-- A quarter's turn: of a grid of w by h. -/
def trnP (w h : Int) (i : Nat) : Nat := ((h - 1 - (i : Int) / w) + h * ((i : Int) % w)).toNat
def nrtP (w h : Int) (j : Nat) : Nat := ((j : Int) / h + w * (h - 1 - (j : Int) % h)).toNat
section
variable {w h : Int} (hw : 0 < w) (hh : 0 < h) {n : Nat} (hn : (n : Int) = w * h)
include hw hh hn
theorem mirP_xy {i : Nat} (hi : i < n) : mirP w i < n ∧ (mirP w i : Int) % w = w - 1 - (i : Int) % w ∧ (mirP w i : Int) / w = (i : Int) / w := by
  have b := xy_bd hw hh (i := i) (by omega)
  have q := xy_of hw hh (x := w - 1 - (i : Int) % w) (y := (i : Int) / w) (by omega) (by omega) b.2.2.1 b.2.2.2.1
  exact ⟨by unfold mirP; omega, q.2.2.1, q.2.2.2⟩
theorem bij_mir : Bij n (mirP w) (mirP w) := by
  have key : ∀ i, i < n → mirP w (mirP w i) = i := fun i hi => by
    have q := mirP_xy hw hh hn hi
    have q2 := mirP_xy hw hh hn q.1
    exact shp_eq_iff hw hh (by omega) (by omega)
  exact ⟨fun i hi => (mirP_xy hw hh hn hi).1, fun i hi => (mirP_xy hw hh hn hi).1, key, key⟩
theorem trnP_xy {i : Nat} (hi : i < n) : trnP w h i < n ∧ (trnP w h i : Int) % h = h - 1 - (i : Int) / w ∧ (trnP w h i : Int) / h = (i : Int) % w := by
  have b := xy_bd hw hh (i := i) (by omega)
  have q := xy_of hh hw (x := h - 1 - (i : Int) / w) (y := (i : Int) % w) (by omega) (by omega) b.1 b.2.1
  have : h * w = w * h := Int.mul_comm _ _
  exact ⟨by unfold trnP; omega, q.2.2.1, q.2.2.2⟩
theorem nrtP_xy {j : Nat} (hj : j < n) : nrtP w h j < n ∧ (nrtP w h j : Int) % w = (j : Int) / h ∧ (nrtP w h j : Int) / w = h - 1 - (j : Int) % h := by
  have e : h * w = w * h := Int.mul_comm _ _
  have b := xy_bd hh hw (i := j) (by omega)
  have q := xy_of hw hh (x := (j : Int) / h) (y := h - 1 - (j : Int) % h) b.2.2.1 b.2.2.2.1 (by omega) (by omega)
  exact ⟨by unfold nrtP; omega, q.2.2.1, q.2.2.2⟩
theorem bij_trn : Bij n (trnP w h) (nrtP w h) := by
  refine ⟨fun i hi => (trnP_xy hw hh hn hi).1, fun i hi => (nrtP_xy hw hh hn hi).1, fun i hi => ?_, fun i hi => ?_⟩
  · have q := trnP_xy hw hh hn hi
    have q2 := nrtP_xy hw hh hn q.1
    exact shp_eq_iff hw hh (by omega) (by omega)
  · have q := nrtP_xy hw hh hn hi
    have q2 := trnP_xy hw hh hn q.1
    exact shp_eq_iff hh hw (by omega) (by omega)
end
/-! ### What the movements come to -/
def shiftC (w h x y : Int) (cs : List Cel) : List Cel := tab cs.length fun j => cs.getD (shp w h (-x) (-y) j) default
def mirC (w : Int) (cs : List Cel) : List Cel := tab cs.length fun j => (cs.getD (mirP w j) default).mir
def trnC (w h : Int) (cs : List Cel) : List Cel := tab cs.length fun j => (cs.getD (nrtP w h j) default).rot 1
def revC (cs : List Cel) : List Cel := cs.map Cel.rev
end Go.Sy
