/- Patches: when one is valid; its coarse and fine cells. -/
import Derived.Test.YtkaebgfhbgicfaaSpField4
import Derived.Test.YtkaebgfhbgicfaaSyL
set_option linter.unusedSimpArgs false
set_option linter.unusedVariables false
set_option linter.unusedSectionVars false
namespace Go.Sy
def inR (p : Pat) (x y : Int) : Prop := (p.x0 ≤ x ∧ x < p.x1) ∧ p.y0 ≤ y ∧ y < p.y1
instance (p : Pat) (x y : Int) : Decidable (inR p x y) := by unfold inR; infer_instance
def patR (p : Pat) : Prop := ((1 ≤ p.x0 ∧ p.x0 < p.x1 ∧ p.x1 ≤ p.c.w - 1) ∧ 1 ≤ p.y0 ∧ p.y0 < p.y1 ∧ p.y1 ≤ p.c.h - 1) ∧ p.f.w = 2 * (p.x1 - p.x0) ∧ p.f.h = 2 * (p.y1 - p.y0)
instance (p : Pat) : Decidable (patR p) := by unfold patR; infer_instance
/-- No particles in the rectangle: cell by cell, or row by row. -/
structure patK (p : Pat) (k : Nat) : Prop where
  all : ∀ i : Nat, i < k → inR p ((i : Int) % p.c.w) ((i : Int) / p.c.w) → (p.c.cs.getD i default).m = 0
structure patY (p : Pat) (y x : Int) : Prop where
  all : ∀ a b : Int, inR p a b → (b < y ∨ b = y ∧ a < x) → (atP p.c.w p.c.cs a b).m = 0
def patM (p : Pat) : Prop := massL p.c.cs + massL p.f.cs ≤ 1000000000
structure patOk (p : Pat) : Prop where
  c : p.c.ok = true
  f : p.f.ok = true
  r : patR p
  z : patK p p.c.cs.length
  m : patM p
open Classical in
noncomputable def patB (p : Pat) : Bool := decide (patOk p)
theorem patB_t {p : Pat} (h : patOk p) : patB p = true := by unfold patB; simp [h]
theorem patB_f {p : Pat} (h : ¬ patOk p) : patB p = false := by unfold patB; simp [h]
theorem pat_ways (p : Pat) : (p.c.ok = false ∧ patB p = false) ∨ (p.c.ok = true ∧ p.f.ok = false ∧ patB p = false) ∨ (p.c.ok = true ∧ p.f.ok = true ∧ ¬ patR p ∧ patB p = false) ∨ (p.c.ok = true ∧ p.f.ok = true ∧ patR p ∧ ¬ patM p ∧ patB p = false) ∨
    (p.c.ok = true ∧ p.f.ok = true ∧ patR p ∧ patM p ∧ (patK p p.c.cs.length → patB p = true) ∧ (∀ i : Nat, i < p.c.cs.length → inR p ((i : Int) % p.c.w) ((i : Int) / p.c.w) → (p.c.cs.getD i default).m ≠ 0 → patB p = false)) := by
  cases hc : p.c.ok
  · exact .inl ⟨rfl, patB_f fun h => by rw [h.c] at hc; cases hc⟩
  · cases hf : p.f.ok
    · exact .inr (.inl ⟨rfl, rfl, patB_f fun h => by rw [h.f] at hf; cases hf⟩)
    · by_cases hr : patR p
      · by_cases hm : patM p
        · exact .inr (.inr (.inr (.inr ⟨rfl, rfl, hr, hm, fun hz => patB_t ⟨hc, hf, hr, hz, hm⟩, fun i hi h1 h2 => patB_f fun h => h2 (h.z.all i hi h1)⟩)))
        · exact .inr (.inr (.inr (.inl ⟨rfl, rfl, hr, hm, patB_f fun h => hm h.m⟩)))
      · exact .inr (.inr (.inl ⟨rfl, rfl, hr, patB_f fun h => hr h.r⟩))
theorem patB_ok {p : Pat} (h : patB p = true) : patOk p := by unfold patB at h; simpa using h
theorem patK_zero (p : Pat) : patK p 0 := ⟨fun i hi => absurd hi (by omega)⟩
theorem patK_next {p : Pat} {k : Nat} (h : patK p k) (hk : inR p ((k : Int) % p.c.w) ((k : Int) / p.c.w) → (p.c.cs.getD k default).m = 0) : patK p (k + 1) := ⟨fun i hi hr => by
  by_cases e : i = k
  · subst e; exact hk hr
  · exact h.all i (by omega) hr⟩
theorem at_idx {g : Grd} (hg : g.ok = true) {x y : Int} (hx : 0 ≤ x ∧ x ≤ g.w - 1) (hy : 0 ≤ y ∧ y ≤ g.h - 1) : ((x + g.w * y).toNat < g.cs.length ∧ (((x + g.w * y).toNat : Nat) : Int) % g.w = x) ∧ (((x + g.w * y).toNat : Nat) : Int) / g.w = y := by
  have hi := idx_in hg hx hy
  have hb := gok_bds hg
  have ei : (((x + g.w * y).toNat : Nat) : Int) = x + g.w * y := Int.toNat_of_nonneg hi.1
  refine ⟨⟨by omega, ?_⟩, ?_⟩
  · rw [ei, Int.add_mul_emod_self_left]; exact Int.emod_eq_of_lt hx.1 (by omega)
  · rw [ei, Int.add_mul_ediv_left _ _ (show g.w ≠ 0 by omega), Int.ediv_eq_zero_of_lt hx.1 (by omega), Int.zero_add]
theorem patY_end {p : Pat} (hc : p.c.ok = true) (hr : patR p) {x : Int} (h : patY p p.y1 x) (hx : x ≤ p.x0) : patK p p.c.cs.length := ⟨fun i hi hin => by
  have hb := gok_bds hc
  have h1 := h.all _ _ hin (.inl hin.2.2)
  have e : (i : Int) % p.c.w + p.c.w * ((i : Int) / p.c.w) = i := by have := Int.mul_ediv_add_emod (i : Int) p.c.w; omega
  unfold atP at h1
  rw [e, Int.toNat_natCast] at h1
  exact h1⟩
theorem patY_bad {p : Pat} (hc : p.c.ok = true) (hr : patR p) {x y : Int} (hin : inR p x y) (hm : (atP p.c.w p.c.cs x y).m ≠ 0) : ∃ i : Nat, i < p.c.cs.length ∧ inR p ((i : Int) % p.c.w) ((i : Int) / p.c.w) ∧ (p.c.cs.getD i default).m ≠ 0 := by
  have hin' := hin
  unfold inR at hin'
  unfold patR at hr
  have h := at_idx hc (x := x) (y := y) (by omega) (by omega)
  refine ⟨(x + p.c.w * y).toNat, h.1.1, ?_, hm⟩
  rw [h.1.2, h.2]; exact hin
theorem patY_zero (p : Pat) : patY p p.y0 p.x0 := ⟨fun a b h q => by unfold inR at h; omega⟩
theorem patY_next {p : Pat} {y x : Int} (h : patY p y x) (hm : (atP p.c.w p.c.cs x y).m = 0) : patY p y (x + 1) := ⟨fun a b hin q => by
  by_cases e : b = y ∧ a = x
  · rw [e.1, e.2]; exact hm
  · exact h.all a b hin (by omega)⟩
theorem patY_row {p : Pat} {y x : Int} (h : patY p y x) (hx : p.x1 ≤ x) : patY p (y + 1) p.x0 := ⟨fun a b hin q => h.all a b hin (by unfold inR at hin; omega)⟩
def big6 (g : Grd) : Prop := 64 < g.cs.length ∧ g.cs.length ≤ 1024 ∨ 1100 < g.cs.length
instance (g : Grd) : Decidable (big6 g) := by unfold big6; exact inferInstance
/-! Sums of cells under way. -/
theorem sumT_next (l : List Cel) {k : Nat} (hk : k < l.length) : (sumC (l.take (k + 1))).e = (sumC (l.take k)).e + (l.getD k default).e ∧ (sumC (l.take (k + 1))).n = (sumC (l.take k)).n + (l.getD k default).n ∧ (sumC (l.take (k + 1))).w = (sumC (l.take k)).w + (l.getD k default).w ∧ (sumC (l.take (k + 1))).s = (sumC (l.take k)).s + (l.getD k default).s := by
  rw [take_snoc l default hk, sumC_snoc]; exact ⟨rfl, rfl, rfl, rfl⟩
theorem sumT_bd {l : List Cel} (h : okL l = true) : ∀ k : Nat, (0 ≤ (sumC (l.take k)).e ∧ (sumC (l.take k)).e ≤ 1000000000 * k) ∧ (0 ≤ (sumC (l.take k)).n ∧ (sumC (l.take k)).n ≤ 1000000000 * k) ∧ (0 ≤ (sumC (l.take k)).w ∧ (sumC (l.take k)).w ≤ 1000000000 * k) ∧ 0 ≤ (sumC (l.take k)).s ∧ (sumC (l.take k)).s ≤ 1000000000 * k
  | 0 => by simp [sumC, sumP, sumI]
  | k + 1 => by
    have ih := sumT_bd h k
    by_cases hk : k < l.length
    · have hn := sumT_next l hk
      have hb := okL_bd9 h k
      unfold bd9 at hb
      omega
    · rw [List.take_of_length_le (by omega)]
      rw [List.take_of_length_le (by omega)] at ih
      omega
/-! Grids that are the same. -/
theorem gsm_l {a b : Grd} (h : a.cs.length ≠ b.cs.length) : decide (a = b) = false := decide_eq_false fun e => h (by rw [e])
theorem gsm_c {a b : Grd} {k : Nat} (ha : k < a.cs.length) (hb : k < b.cs.length) (h : ¬ (a.cs.getD k default = b.cs.getD k default)) : decide (a = b) = false := decide_eq_false fun e => h (by rw [e])
theorem gsm_t {a b : Grd} {k : Nat} (hw : a.w = b.w) (hh : a.h = b.h) (hl : a.cs.length = b.cs.length) (h : a.cs.take k = b.cs.take k) (hk : a.cs.length ≤ k) : decide (a = b) = true := by
  rw [List.take_of_length_le hk, List.take_of_length_le (by omega)] at h
  obtain ⟨w, hh', cs⟩ := a
  obtain ⟨w', h', cs'⟩ := b
  simp only at hw hh h
  simp [hw, hh, h]
theorem gsm_n {a b : Grd} {k : Nat} (ha : k < a.cs.length) (hb : k < b.cs.length) (h : a.cs.take k = b.cs.take k) (he : a.cs.getD k default = b.cs.getD k default) : a.cs.take (k + 1) = b.cs.take (k + 1) := by
  rw [take_snoc a.cs default ha, take_snoc b.cs default hb, h, he]
end Go.Sy
