/- Spread; main ways drawn. -/
import Derived.Test.YtfoacdhlfaonaaaSpField6
import Derived.Test.YtfoacdhlfaonaaaSyU
set_option linter.unusedSimpArgs false
set_option linter.unusedVariables false
set_option linter.unusedSectionVars false
namespace Go.Sy
/-! ### Spread -/
def sprS (n all : Int) (cs : List Cel) : Nat → Int
  | 0 => 0
  | k + 1 => sprS n all cs k + ((n * (cs.getD k default).m - all).natAbs : Int)
def spA (g : Grd) : Int := sprS g.cs.length (massL g.cs) g.cs g.cs.length
def spR (g : Grd) : Rat2 := if g.ok then ratP (spA g) (g.cs.length * g.cs.length) else ⟨0, 0⟩
theorem spr_term {g : Grd} (hg : g.ok = true) (k : Nat) : (0 ≤ (g.cs.getD k default).m ∧ (g.cs.getD k default).m ≤ 4000000000) ∧ 0 ≤ (g.cs.length : Int) * (g.cs.getD k default).m ∧ (g.cs.length : Int) * (g.cs.getD k default).m ≤ 4096000000000 := by
  have hb := okL_bd9 (gok_okL hg) k
  have hl := gok_bds hg
  unfold bd9 at hb
  have hm : 0 ≤ (g.cs.getD k default).m ∧ (g.cs.getD k default).m ≤ 4000000000 := by unfold Cel.m; omega
  have h1 : (g.cs.length : Int) * (g.cs.getD k default).m ≤ 1024 * (g.cs.getD k default).m := Int.mul_le_mul_of_nonneg_right (by omega) hm.1
  have h0 : 0 ≤ (g.cs.length : Int) * (g.cs.getD k default).m := Int.mul_nonneg (by omega) hm.1
  omega
theorem spr_bd {g : Grd} (hg : g.ok = true) : ∀ k : Nat, 0 ≤ sprS g.cs.length (massL g.cs) g.cs k ∧ sprS g.cs.length (massL g.cs) g.cs k ≤ 5000000000000 * k
  | 0 => by simp [sprS]
  | k + 1 => by
    have ih := spr_bd hg k
    have ht := spr_term hg k
    have hl := gok_bds hg
    simp only [sprS]
    omega
theorem len_sq {g : Grd} (hg : g.ok = true) : 1 ≤ (g.cs.length : Int) * g.cs.length ∧ (g.cs.length : Int) * g.cs.length ≤ 1048576 := by
  have hl := gok_bds hg
  have h1 : (g.cs.length : Int) * g.cs.length ≤ 1024 * g.cs.length := Int.mul_le_mul_of_nonneg_right (by omega) (by omega)
  have h2 := Int.mul_pos (show (0 : Int) < g.cs.length by omega) (show (0 : Int) < g.cs.length by omega)
  omega
theorem spr_ways (g : Grd) : (g.ok = false ∧ g.err = 1 ∧ spR g = ⟨0, 0⟩) ∨ (g.ok = true ∧ g.err = 0 ∧ spR g = ratP (spA g) (g.cs.length * g.cs.length)) := by
  unfold spR Grd.err
  cases g.ok
  · exact .inl ⟨rfl, rfl, rfl⟩
  · exact .inr ⟨rfl, rfl, rfl⟩
/-- All masses so far are that of the first cell. -/
def sameM (cs : List Cel) : Nat → Bool
  | 0 => true
  | k + 1 => sameM cs k && decide ((cs.getD k default).m = (cs.getD 0 default).m)
theorem sameM_iff (cs : List Cel) : ∀ k : Nat, sameM cs k = true ↔ ∀ i, i < k → (cs.getD i default).m = (cs.getD 0 default).m
  | 0 => by simp [sameM]
  | k + 1 => by
    rw [sameM, Bool.and_eq_true, decide_eq_true_eq, sameM_iff cs k]
    constructor
    · intro h i hi
      by_cases e : i = k
      · subst e; exact h.2
      · exact h.1 i (by omega)
    · intro h; exact ⟨fun i hi => h i (by omega), h k (by omega)⟩
theorem massL_same {cs : List Cel} {c : Int} (h : ∀ i, i < cs.length → (cs.getD i default).m = c) : ∀ k, k ≤ cs.length → massL (cs.take k) = k * c
  | 0, _ => by simp [massL]
  | k + 1, hk => by
    have ih := massL_same h k (by omega)
    rw [take_snoc cs default (show k < cs.length by omega), massL_app, ih]
    simp only [massL, h k (by omega)]
    rw [show ((k + 1 : Nat) : Int) = (k : Int) + 1 by omega, Int.add_mul]
    omega
theorem sprS_zero (n all : Int) (cs : List Cel) : ∀ k : Nat, sprS n all cs k = 0 ↔ ∀ i, i < k → n * (cs.getD i default).m = all
  | 0 => by simp [sprS]
  | k + 1 => by
    have nn : ∀ j : Nat, 0 ≤ sprS n all cs j := fun j => by
      induction j with
      | zero => simp [sprS]
      | succ j ih => simp only [sprS]; omega
    have ih := sprS_zero n all cs k
    have h0 := nn k
    simp only [sprS]
    constructor
    · intro h i hi
      by_cases e : i = k
      · subst e; omega
      · exact (ih.1 (by omega)) i (by omega)
    · intro h
      have h1 := ih.2 fun i hi => h i (by omega)
      have h2 := h k (by omega)
      omega
theorem ratP_zero {n d : Int} (hd : 0 < d) : ((ratP n d).n = 0 ∧ (ratP n d).d = 1) ↔ n = 0 := by
  have hg := gcd_pos (n := n) hd
  constructor
  · intro h
    have h1 : n.tdiv ((Nat.gcd n.natAbs d.toNat : Nat) : Int) = 0 := h.1
    have h2 : ((Nat.gcd n.natAbs d.toNat : Nat) : Int) ∣ n := by
      rw [← Int.natAbs_dvd_natAbs, Int.natAbs_natCast]; exact Nat.gcd_dvd_left _ _
    have h3 := Int.tdiv_mul_cancel h2
    rw [h1] at h3
    omega
  · rintro rfl
    have e : Nat.gcd (0 : Int).natAbs d.toNat = d.toNat := by simp
    refine ⟨?_, ?_⟩
    · simp only [ratP]; exact Int.zero_tdiv _
    · simp only [ratP, e]
      rw [Int.toNat_of_nonneg (by omega)]
      exact Int.tdiv_self (by omega)
theorem spread_law {g : Grd} (hg : g.ok = true) : ((spR g).n = 0 ∧ (spR g).d = 1) ↔ sameM g.cs g.cs.length = true := by
  have hl := gok_bds hg
  have hq := len_sq hg
  rcases spr_ways g with ⟨h, _⟩ | ⟨_, _, h⟩
  · rw [hg] at h; cases h
  · rw [h, sameM_iff]
    have hr := ratP_zero (n := spA g) (d := (g.cs.length : Int) * g.cs.length) (by omega)
    rw [hr]
    unfold spA
    rw [sprS_zero]
    constructor
    · intro q i hi
      have h1 := q i hi
      have h2 := q 0 (by omega)
      rw [← h2] at h1
      exact Int.eq_of_mul_eq_mul_left (by omega) h1
    · intro q i hi
      have hm := massL_same q g.cs.length (Nat.le_refl _)
      rw [List.take_length] at hm
      rw [hm, q i hi]
/-! ### Pictures -/
def sgnB (c : Cel) : Int := if someC c then (if bestD c = 0 then 62 else if bestD c = 1 then 94 else if bestD c = 2 then 60 else 118) else 46
def wayV (c : Cel) : Int := if someC c then bestD c else -1
def picR (g : Grd) (y : Int) (i : Nat) : List Int := (List.range i).map fun x : Nat => sgnB (atP g.w g.cs (x : Int) y)
def picG (g : Grd) : Nat → List Int
  | 0 => []
  | j + 1 => picG g j ++ picR g (g.h - 1 - j) g.w.toNat ++ [10]
def picJ (g : Grd) (j i : Nat) : List Int := picG g j ++ picR g (g.h - 1 - j) i
theorem picJ_zero (g : Grd) (j : Nat) : picJ g j 0 = picG g j := by simp [picJ, picR]
theorem picJ_next (g : Grd) (j i : Nat) {x : Int} (hx : x = sgnB (atP g.w g.cs (i : Int) (g.h - 1 - j))) : picJ g j i ++ [x] = picJ g j (i + 1) := by
  subst hx; simp only [picJ, picR, List.range_succ, List.map_append, List.append_assoc]; rfl
theorem picJ_row (g : Grd) {j i : Nat} (hi : i = g.w.toNat) : picJ g j i ++ [10] = picG g (j + 1) := by subst hi; rfl
theorem picG_len (g : Grd) : ∀ j, (picG g j).length = (g.w.toNat + 1) * j
  | 0 => rfl
  | j + 1 => by rw [picG, List.length_append, List.length_append, picG_len g j, Nat.mul_succ]; simp [picR]; omega
theorem picJ_len (g : Grd) (j i : Nat) : (picJ g j i).length = (g.w.toNat + 1) * j + i := by rw [picJ, List.length_append, picG_len]; simp [picR]
theorem sgnB_bd (c : Cel) : 0 ≤ sgnB c ∧ sgnB c < 256 := by unfold sgnB; (repeat' split) <;> omega
theorem picR_bd (g : Grd) (y : Int) (i : Nat) : ∀ x ∈ picR g y i, 0 ≤ x ∧ x < 256 := fun x hx => by
  unfold picR at hx
  obtain ⟨k, _, rfl⟩ := List.mem_map.1 hx
  exact sgnB_bd _
theorem picG_bd (g : Grd) : ∀ j, ∀ x ∈ picG g j, 0 ≤ x ∧ x < 256
  | 0, x, hx => by cases hx
  | j + 1, x, hx => by
    rw [picG, List.mem_append, List.mem_append] at hx
    rcases hx with (hx | hx) | hx
    · exact picG_bd g j x hx
    · exact picR_bd g _ _ x hx
    · rw [List.mem_singleton] at hx; subst hx; decide
theorem pic_len5 {g : Grd} (hg : g.ok = true) {j i : Nat} (hj : j ≤ 64) (hi : i ≤ 64) : (g.w.toNat + 1) * j + i ≤ 5000 := by
  have hl := gok_bds hg
  have h1 : (g.w.toNat + 1) * j ≤ 65 * 64 := Nat.mul_le_mul (by omega) hj
  omega
def picS (g : Grd) : ByteArray := if g.ok then ⟨(toBytes (picG g g.h.toNat)).toArray⟩ else ⟨#[]⟩
theorem pic_ways (g : Grd) : (g.ok = false ∧ picS g = ⟨#[]⟩) ∨ (g.ok = true ∧ picS g = ⟨(toBytes (picG g g.h.toNat)).toArray⟩) := by
  unfold picS
  cases g.ok
  · exact .inl ⟨rfl, rfl⟩
  · exact .inr ⟨rfl, rfl⟩
theorem sgn_t {c : Cel} (h : someC c = true) {x : Int} (hx : (bestD c = 0 → x = 62) ∧ (bestD c = 1 → x = 94) ∧ (bestD c = 2 → x = 60) ∧ (bestD c = 3 → x = 118)) : x = sgnB c := by
  have hb := best_bd c
  unfold sgnB; rw [h]; simp only [if_true]
  (repeat' split) <;> omega
theorem sgn_f {c : Cel} (h : someC c = false) : (46 : Int) = sgnB c := by unfold sgnB; rw [h]; rfl
theorem way_neg {c : Cel} (h : wayV c < 0) : someC c = false := by
  have hb := best_bd c
  unfold wayV at h
  cases hs : someC c
  · rfl
  · rw [hs] at h; simp only [if_true] at h; omega
theorem way_pos {c : Cel} (h : 0 ≤ wayV c) : someC c = true ∧ wayV c = bestD c := by
  unfold wayV at h ⊢
  cases hs : someC c
  · rw [hs] at h; simp at h
  · exact ⟨rfl, rfl⟩
theorem way_bd (c : Cel) : -1 ≤ wayV c ∧ wayV c ≤ 3 := by
  have hb := best_bd c
  unfold wayV; split <;> omega
theorem sprdW (g : Grd) : (decide (big8 g) = true ∧ True) ∨ (decide (big8 g) = false ∧ g.err = 1 ∧ g.cs.length ≤ 1100) ∨ (decide (big8 g) = false ∧ g.err = 0 ∧ g.cs.length ≤ 1100 ∧ g.ok = true ∧ (((spR g).n = 0 ∧ (spR g).d = 1) ↔ sameM g.cs g.cs.length = true) ∧ (∀ i, bd9 (g.cs.getD i default))) := by
  by_cases hb : big8 g
  · exact .inl ⟨decide_eq_true hb, trivial⟩
  · have hl : g.cs.length ≤ 1100 := by unfold big8 at hb; omega
    cases hg : g.ok
    · exact .inr (.inl ⟨decide_eq_false hb, (Grd.tell_f hg).1, hl⟩)
    · exact .inr (.inr ⟨decide_eq_false hb, (Grd.tell_t hg).1, hl, rfl, spread_law hg, fun i => okL_bd9 (gok_okL hg) i⟩)
theorem ba_refl (a : ByteArray) : (a == a) = true := by
  cases a with | mk d => 
  show (d == d) = true
  simp
end Go.Sy
