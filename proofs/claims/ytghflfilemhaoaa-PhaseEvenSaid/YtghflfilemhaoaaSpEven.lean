/- Of which phase a cell is; how many pairs lie at the interface, and that these are even. -/
import Derived.Test.YtghflfilemhaoaaSpPhase2
import Derived.Test.YtghflfilemhaoaaSpStep
set_option linter.unusedSimpArgs false
set_option linter.unusedVariables false
set_option linter.unusedSectionVars false
namespace Go.Sy
def kindC (a b : Cel) : Int := if b.mass.1 < a.mass.1 then 1 else if a.mass.1 < b.mass.1 then 2 else 0
def kindI (x : Mix) (i : Int) : Int := kindC (x.a.getD i.toNat default) (x.b.getD i.toNat default)
theorem kindI_bd (x : Mix) (i : Int) : 0 ≤ kindI x i ∧ kindI x i ≤ 2 := by
  unfold kindI kindC; split
  · omega
  · split <;> omega
def meetI (x : Mix) (i j : Int) : Int := if kindI x i * kindI x j = 2 then 1 else 0
def ifcN (x : Mix) : Nat → Int
  | 0 => 0
  | k + 1 => ifcN x k + meetI x k (shI x.w x.h 1 0 k) + meetI x k (shI x.w x.h 0 1 k)
theorem ifcN_bd (x : Mix) : ∀ k, 0 ≤ ifcN x k ∧ ifcN x k ≤ 2 * k
  | 0 => by simp [ifcN]
  | k + 1 => by
    have := ifcN_bd x k
    have h1 : ∀ i j, 0 ≤ meetI x i j ∧ meetI x i j ≤ 1 := fun i j => by unfold meetI; split <;> omega
    have h2 := h1 k (shI x.w x.h 1 0 k)
    have h3 := h1 k (shI x.w x.h 0 1 k)
    simp only [ifcN]; omega
theorem meet_par {x : Mix} {i j : Int} (hi : kindI x i ≠ 0) (hj : kindI x j ≠ 0) : ∃ q, meetI x i j = kindI x i + kindI x j + 2 * q := by
  have b1 := kindI_bd x i
  have b2 := kindI_bd x j
  unfold meetI
  rcases (show kindI x i = 1 ∨ kindI x i = 2 by omega) with h1 | h1 <;> rcases (show kindI x j = 1 ∨ kindI x j = 2 by omega) with h2 | h2 <;> rw [h1, h2]
  · exact ⟨-1, by decide⟩
  · exact ⟨-1, by decide⟩
  · exact ⟨-1, by decide⟩
  · exact ⟨-2, by decide⟩
def kSum (x : Mix) (σ : Nat → Nat) (k : Nat) : Int := sumI ((List.range k).map fun i => kindI x (σ i : Int))
theorem sumI_app : ∀ l m : List Int, sumI (l ++ m) = sumI l + sumI m
  | [], m => by simp [sumI]
  | x :: l, m => by simp only [List.cons_append, sumI, sumI_app l m]; omega
theorem kSum_succ (x : Mix) (σ : Nat → Nat) (k : Nat) : kSum x σ (k + 1) = kSum x σ k + kindI x (σ k : Int) := by
  unfold kSum
  rw [List.range_succ, List.map_append, sumI_app]
  simp [sumI]
theorem ifc_par {x : Mix} {n : Nat} (hw : 0 < x.w) (hh : 0 < x.h) (hn : (n : Int) = x.w * x.h) (hk : ∀ i, i < n → kindI x (i : Int) ≠ 0) : ∀ k, k ≤ n → ∃ q, ifcN x k = 2 * kSum x id k + kSum x (shp x.w x.h 1 0) k + kSum x (shp x.w x.h 0 1) k + 2 * q
  | 0, _ => ⟨0, by simp [ifcN, kSum, sumI]⟩
  | k + 1, hkn => by
    obtain ⟨q, ih⟩ := ifc_par hw hh hn hk k (by omega)
    have e : ∀ a b : Int, shI x.w x.h a b k = (shp x.w x.h a b k : Int) := fun a b => by
      have := shI_bd a b k hw hh
      rw [← shI_shp]; omega
    have lt : ∀ a b : Int, shp x.w x.h a b k < n := fun a b => by have := shp_lt hw hh a b k; omega
    obtain ⟨q1, h1⟩ := meet_par (x := x) (i := (k : Int)) (j := (shp x.w x.h 1 0 k : Int)) (hk k (by omega)) (hk _ (lt 1 0))
    obtain ⟨q2, h2⟩ := meet_par (x := x) (i := (k : Int)) (j := (shp x.w x.h 0 1 k : Int)) (hk k (by omega)) (hk _ (lt 0 1))
    refine ⟨q + q1 + q2, ?_⟩
    rw [ifcN, e, e, h1, h2, ih, kSum_succ, kSum_succ, kSum_succ]
    simp only [id]
    omega
theorem kSum_mix {x : Mix} {n : Nat} (hw : 0 < x.w) (hh : 0 < x.h) (hn : (n : Int) = x.w * x.h) (a b : Int) : kSum x (shp x.w x.h a b) n = kSum x id n := by
  have h := (perm_range (n := n) (f := shp x.w x.h a b) (fun i _ => by have := shp_lt hw hh a b i; omega) (fun i j hi hj e => shp_inj hw hh (by omega) (by omega) e)).map fun (i : Nat) => kindI x (i : Int)
  rw [List.map_map] at h
  exact sumI_perm h
/-- P4.5. -/
theorem ifc_even {x : Mix} (hv : x.ok = true) (hk : ∀ i, i < x.a.length → kindI x (i : Int) ≠ 0) : (ifcN x x.a.length).tmod 2 = 0 := by
  have hg := gok_bds (Mix.ok_t hv).1
  have hn : (x.a.length : Int) = x.w * x.h := hg.2.2.2.2.2.1
  have hw : 0 < x.w := by have := hg.1; exact Int.lt_of_lt_of_le (by decide) this
  have hh : 0 < x.h := by have := hg.2.2.1; exact Int.lt_of_lt_of_le (by decide) this
  obtain ⟨q, h⟩ := ifc_par hw hh hn hk x.a.length (Nat.le_refl _)
  rw [kSum_mix hw hh hn, kSum_mix hw hh hn] at h
  have := ifcN_bd x x.a.length
  rw [Int.tmod_eq_emod_of_nonneg this.1]
  omega
theorem kk_bd (x : Mix) (i j : Int) : -9223372036854775808 ≤ kindI x i * kindI x j ∧ kindI x i * kindI x j ≤ 9223372036854775807 := by
  have b1 := kindI_bd x i
  have b2 := kindI_bd x j
  rcases (show kindI x i = 0 ∨ kindI x i = 1 ∨ kindI x i = 2 by omega) with h | h | h <;> rw [h] <;> omega
def onM (x : Mix) (p : Pnt) : Prop := (0 ≤ p.x ∧ p.x ≤ x.w - 1) ∧ (0 ≤ p.y ∧ p.y ≤ x.h - 1)
instance (x : Mix) (p : Pnt) : Decidable (onM x p) := by unfold onM; exact inferInstance
def kindE (x : Mix) (p : Pnt) : Int := if x.ok then (if onM x p then 0 else 7) else 1
def kindV (x : Mix) (p : Pnt) : Int := if kindE x p = 0 then kindI x (p.x + x.w * p.y) else 0
theorem kind_ways (x : Mix) (p : Pnt) : (x.ok = false ∧ True ∧ kindE x p = 1 ∧ kindV x p = 0) ∨ (x.ok = true ∧ ¬ ((0 ≤ p.x ∧ p.x ≤ x.w - 1) ∧ (0 ≤ p.y ∧ p.y ≤ x.h - 1)) ∧ kindE x p = 7 ∧ kindV x p = 0 ∧ (1 ≤ x.w ∧ x.w ≤ 64 ∧ 1 ≤ x.h ∧ x.h ≤ 64)) ∨
    (x.ok = true ∧ ((0 ≤ p.x ∧ p.x ≤ x.w - 1) ∧ (0 ≤ p.y ∧ p.y ≤ x.h - 1)) ∧ kindE x p = 0 ∧ kindV x p = kindI x (p.x + x.w * p.y) ∧ (x.b.length = x.a.length ∧ 1 ≤ x.a.length ∧ x.a.length ≤ 1024) ∧ (0 ≤ p.x + x.w * p.y ∧ p.x + x.w * p.y < x.a.length ∧ 0 ≤ x.w * p.y ∧ x.w * p.y ≤ 4096) ∧ (1 ≤ x.w ∧ x.w ≤ 64 ∧ 1 ≤ x.h ∧ x.h ≤ 64)) := by
  have hV : kindE x p ≠ 0 → kindV x p = 0 := fun h => if_neg h
  cases h : x.ok
  · have e : kindE x p = 1 := by simp [kindE, h]
    exact .inl ⟨rfl, trivial, e, hV (by omega)⟩
  · by_cases ho : onM x p
    · have e : kindE x p = 0 := by simp [kindE, h, ho]
      obtain ⟨ha, hb, _, hl, _⟩ := Mix.ok_t h
      have g := gok_bds ha
      have hn : (x.a.length : Int) = x.w * x.h := g.2.2.2.2.2.1
      have w1 : 1 ≤ x.w := g.1
      have h1 : 1 ≤ x.h := g.2.2.1
      have hwh : x.w * x.h ≤ 1024 := g.2.2.2.2.1
      have q := xy_of (w := x.w) (h := x.h) (x := p.x) (y := p.y) (by omega) (by omega) ho.1.1 (by have := ho.1.2; omega) ho.2.1 (by have := ho.2.2; omega)
      have hp := ho.1
      have l1 : x.a.length ≤ 1024 := g.2.2.2.2.2.2.1
      have l2 : 1 ≤ x.a.length := g.2.2.2.2.2.2.2.1
      have hy : 0 ≤ x.w * p.y := Int.mul_nonneg (by omega) ho.2.1
      exact .inr (.inr ⟨rfl, ho, e, if_pos e, ⟨hl.symm, l2, l1⟩, ⟨q.1, by omega, hy, by omega⟩, w1, g.2.1, h1, g.2.2.2.1⟩)
    · have e : kindE x p = 7 := by simp [kindE, h, ho]
      have g := gok_bds (Mix.ok_t h).1
      exact .inr (.inl ⟨rfl, ho, e, hV (by omega), g.1, g.2.1, g.2.2.1, g.2.2.2.1⟩)
theorem kind_at {x : Mix} (hv : x.ok = true) {k : Nat} (hk : k < x.a.length) : kindE x ⟨(k : Int).tmod x.w, (k : Int).tdiv x.w⟩ = 0 ∧ kindV x ⟨(k : Int).tmod x.w, (k : Int).tdiv x.w⟩ = kindI x k := by
  have g := gok_bds (Mix.ok_t hv).1
  have hn : (x.a.length : Int) = x.w * x.h := g.2.2.2.2.2.1
  have w1 : 1 ≤ x.w := g.1
  have h1 : 1 ≤ x.h := g.2.2.1
  have b := xy_bd (w := x.w) (h := x.h) (by omega) (by omega) (i := k) (by omega)
  have e1 : (k : Int).tmod x.w = (k : Int) % x.w := Int.tmod_eq_emod_of_nonneg (by omega)
  have e2 : (k : Int).tdiv x.w = (k : Int) / x.w := Int.tdiv_eq_ediv_of_nonneg (by omega)
  rw [e1, e2]
  have ho : onM x ⟨(k : Int) % x.w, (k : Int) / x.w⟩ := by unfold onM; simp only; omega
  have e : kindE x ⟨(k : Int) % x.w, (k : Int) / x.w⟩ = 0 := by simp [kindE, hv, ho]
  refine ⟨e, ?_⟩
  unfold kindV
  rw [if_pos e]
  show kindI x ((k : Int) % x.w + x.w * ((k : Int) / x.w)) = _
  rw [b.2.2.2.2]
theorem tdv_bd {w : Int} (k : Nat) (h : 1 ≤ w) : 0 ≤ (k : Int).tdiv w ∧ (k : Int).tdiv w ≤ k := by
  rw [Int.tdiv_eq_ediv_of_nonneg (by omega)]
  exact ⟨Int.ediv_nonneg (by omega) (by omega), Int.ediv_le_self _ (by omega)⟩
end Go.Sy
