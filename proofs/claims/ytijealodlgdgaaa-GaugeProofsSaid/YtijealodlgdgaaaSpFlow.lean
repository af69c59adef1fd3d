/- Places on a grid, moved round its sides; cells that stream. -/
import Derived.Test.YtijealodlgdgaaaSpPhase
set_option linter.unusedSimpArgs false
set_option linter.unusedVariables false
set_option linter.unusedSectionVars false
namespace Go.Sy

/-! ### Places, moved -/
def shp (w h a b : Int) (i : Nat) : Nat := ((((i : Int) % w + a) % w) + w * (((i : Int) / w + b) % h)).toNat
section
variable {w h : Int} (hw : 0 < w) (hh : 0 < h)
include hw hh
theorem shp_int (a b : Int) (i : Nat) : (shp w h a b i : Int) = (((i : Int) % w + a) % w) + w * (((i : Int) / w + b) % h) := by
  have h1 := Int.emod_nonneg ((i : Int) % w + a) (show w ≠ 0 by omega)
  have h2 := Int.emod_nonneg ((i : Int) / w + b) (show h ≠ 0 by omega)
  have h3 := Int.mul_nonneg (show 0 ≤ w by omega) h2
  unfold shp
  rw [Int.toNat_of_nonneg (by omega)]
theorem shp_x (a b : Int) (i : Nat) : (shp w h a b i : Int) % w = ((i : Int) % w + a) % w := by
  rw [shp_int hw hh, Int.add_mul_emod_self_left, Int.emod_emod_of_dvd _ (Int.dvd_refl w)]
theorem shp_y (a b : Int) (i : Nat) : (shp w h a b i : Int) / w = ((i : Int) / w + b) % h := by
  rw [shp_int hw hh, Int.add_mul_ediv_left _ _ (show w ≠ 0 by omega),
    Int.ediv_eq_zero_of_lt (Int.emod_nonneg _ (show w ≠ 0 by omega)) (Int.emod_lt_of_pos _ hw), Int.zero_add]
theorem shp_lt (a b : Int) (i : Nat) : (shp w h a b i : Int) < w * h := by
  rw [shp_int hw hh]
  have h1 := Int.emod_lt_of_pos ((i : Int) % w + a) hw
  have h2 := Int.emod_lt_of_pos ((i : Int) / w + b) hh
  have h3 : w * (((i : Int) / w + b) % h) ≤ w * (h - 1) := Int.mul_le_mul_of_nonneg_left (by omega) (by omega)
  rw [Int.mul_sub, Int.mul_one] at h3
  omega
theorem shp_eq_iff {i j : Nat} (e1 : (i : Int) % w = (j : Int) % w) (e2 : (i : Int) / w = (j : Int) / w) : i = j := by
  have h1 := Int.emod_add_mul_ediv (i : Int) w
  have h2 := Int.emod_add_mul_ediv (j : Int) w
  rw [e1, e2, h2] at h1
  omega
theorem shp_shp (a b c d : Int) (i : Nat) : shp w h a b (shp w h c d i) = shp w h (c + a) (d + b) i := by
  refine shp_eq_iff hw hh ?_ ?_
  · rw [shp_x hw hh, shp_x hw hh, shp_x hw hh, Int.emod_add_emod, Int.add_assoc]
  · rw [shp_y hw hh, shp_y hw hh, shp_y hw hh, Int.emod_add_emod, Int.add_assoc]
theorem shp_zero {i : Nat} (hi : (i : Int) < w * h) : shp w h 0 0 i = i := by
  refine shp_eq_iff hw hh ?_ ?_
  · rw [shp_x hw hh, Int.add_zero, Int.emod_emod_of_dvd _ (Int.dvd_refl w)]
  · rw [shp_y hw hh, Int.add_zero]
    refine Int.emod_eq_of_lt (Int.ediv_nonneg (by omega) (by omega)) (Int.ediv_lt_of_lt_mul hw ?_)
    rw [Int.mul_comm]; exact hi
theorem shp_inv {a b : Int} {i j : Nat} (hi : (i : Int) < w * h) (hj : (j : Int) < w * h) : shp w h a b i = j ↔ shp w h (-a) (-b) j = i := by
  constructor
  · rintro rfl; rw [shp_shp hw hh, show a + -a = 0 by omega, show b + -b = 0 by omega, shp_zero hw hh hi]
  · rintro rfl; rw [shp_shp hw hh, show -a + a = 0 by omega, show -b + b = 0 by omega, shp_zero hw hh hj]
theorem shp_inj {a b : Int} {i j : Nat} (hi : (i : Int) < w * h) (hj : (j : Int) < w * h) (e : shp w h a b i = shp w h a b j) : i = j := by
  have h1 := (shp_inv hw hh (a := a) (b := b) hi (shp_lt hw hh a b i)).1 rfl
  have h2 := (shp_inv hw hh (a := a) (b := b) hj (shp_lt hw hh a b j)).1 rfl
  rw [← h1, e, h2]
theorem shp_mod (a b : Int) (i : Nat) : shp w h (a % w) (b % h) i = shp w h a b i := by
  refine shp_eq_iff hw hh ?_ ?_
  · rw [shp_x hw hh, shp_x hw hh, Int.add_emod_emod]
  · rw [shp_y hw hh, shp_y hw hh, Int.add_emod_emod]
end

/-! ### Lists told by their places -/
def atC (cs : List Cel) (i : Nat) : Cel := cs.getD i default
def tab (n : Nat) (f : Nat → Cel) : List Cel := (List.range n).map f
theorem tab_length (n : Nat) (f : Nat → Cel) : (tab n f).length = n := by simp [tab]
theorem tab_at {n : Nat} (f : Nat → Cel) {i : Nat} (h : i < n) : (tab n f).getD i default = f i := by simp [tab, List.getD, h]
theorem tab_self (cs : List Cel) : tab cs.length (fun i => cs.getD i default) = cs := by
  apply List.ext_getElem?
  intro i
  by_cases h : i < cs.length
  · simp [tab, h]
  · simp [tab, h]
theorem tab_congr {n : Nat} {f g : Nat → Cel} (h : ∀ i, i < n → f i = g i) : tab n f = tab n g :=
  List.map_congr_left fun i hi => h i (List.mem_range.1 hi)
theorem tab_set {n : Nat} {f g : Nat → Cel} {k : Nat} {v : Cel} (h : ∀ i, i < n → g i = if i = k then v else f i) : (tab n f).set k v = tab n g := by
  apply List.ext_getElem?
  intro i
  rw [List.getElem?_set]
  by_cases hi : i < n
  · have := h i hi
    by_cases hk : k = i
    · subst hk; simp [tab, hi, this]
    · simp [tab, hi, this, hk]
      intro e; exact absurd e.symm hk
  · by_cases hk : k = i
    · subst hk; simp [tab, hi]
    · simp [tab, hi, hk]
theorem tab_mem {n : Nat} {f : Nat → Cel} {c : Cel} (h : c ∈ tab n f) : ∃ i, i < n ∧ f i = c := by
  obtain ⟨i, hi, e⟩ := List.mem_map.1 h
  exact ⟨i, List.mem_range.1 hi, e⟩

/-! ### Cells that stream -/
/-- Each cell gets what was so many places back in each direction. -/
def flow (w h p : Int) (cs : List Cel) : List Cel := tab cs.length fun j => ⟨(cs.getD (shp w h (-p) 0 j) default).e, (cs.getD (shp w h 0 (-p) j) default).n, (cs.getD (shp w h p 0 j) default).w, (cs.getD (shp w h 0 p j) default).s⟩
/-- The same, of the first k cells alone, and of the first d directions of the next one. -/
def fpart (w h p : Int) (cs : List Cel) (k : Nat) (d : Nat) : List Cel := tab cs.length fun j =>
  ⟨if shp w h (-p) 0 j < k ∨ shp w h (-p) 0 j = k ∧ 0 < d then (cs.getD (shp w h (-p) 0 j) default).e else 0,
   if shp w h 0 (-p) j < k ∨ shp w h 0 (-p) j = k ∧ 1 < d then (cs.getD (shp w h 0 (-p) j) default).n else 0,
   if shp w h p 0 j < k ∨ shp w h p 0 j = k ∧ 2 < d then (cs.getD (shp w h p 0 j) default).w else 0,
   if shp w h 0 p j < k ∨ shp w h 0 p j = k ∧ 3 < d then (cs.getD (shp w h 0 p j) default).s else 0⟩
theorem fpart_length (w h p : Int) (cs : List Cel) (k d : Nat) : (fpart w h p cs k d).length = cs.length := tab_length _ _
theorem fpart_zero (w h p : Int) (cs : List Cel) : fpart w h p cs 0 0 = List.replicate cs.length ⟨0, 0, 0, 0⟩ := by
  unfold fpart tab
  rw [show List.replicate cs.length (⟨0, 0, 0, 0⟩ : Cel) = List.replicate (List.range cs.length).length ⟨0, 0, 0, 0⟩ by rw [List.length_range], ← List.map_const']
  refine List.map_congr_left fun i _ => ?_
  simp
theorem fpart_next (w h p : Int) (cs : List Cel) (k : Nat) : fpart w h p cs k 4 = fpart w h p cs (k + 1) 0 := by
  refine tab_congr fun i hi => ?_
  have e : ∀ (x : Nat) (m : Nat), m < 4 → ((x < k ∨ x = k ∧ m < 4) ↔ (x < k + 1 ∨ x = k + 1 ∧ m < 0)) := fun x m hm => by omega
  simp only [e _ 0 (by omega), e _ 1 (by omega), e _ 2 (by omega), e _ 3 (by omega)]
section
variable {w h : Int} (hw : 0 < w) (hh : 0 < h) {cs : List Cel} (hl : (cs.length : Int) = w * h)
include hw hh hl
theorem fpart_full (p : Int) {k : Nat} (hk : cs.length ≤ k) : fpart w h p cs k 0 = flow w h p cs := by
  refine tab_congr fun i hi => ?_
  have e : ∀ a b, shp w h a b i < k := fun a b => by have := shp_lt hw hh a b i; omega
  simp only [e, true_or, if_true]
/-- The place where the particles go. -/
theorem fpart_e (p : Int) {k : Nat} (hk : k < cs.length) : shp w h p 0 k < cs.length ∧ ((fpart w h p cs k 0).getD (shp w h p 0 k) default).e = 0 ∧
    (fpart w h p cs k 0).set (shp w h p 0 k) ⟨(cs.getD k default).e, ((fpart w h p cs k 0).getD (shp w h p 0 k) default).n, ((fpart w h p cs k 0).getD (shp w h p 0 k) default).w, ((fpart w h p cs k 0).getD (shp w h p 0 k) default).s⟩ = fpart w h p cs k 1 := by
  have hlt := shp_lt hw hh p 0 k
  have hb : shp w h (-p) 0 (shp w h p 0 k) = k := by rw [shp_shp hw hh, show p + -p = 0 by omega, show (0 : Int) + 0 = 0 by omega, shp_zero hw hh (by omega)]
  have hu : ∀ i, i < cs.length → (shp w h (-p) 0 i = k ↔ i = shp w h p 0 k) := fun i hi => by
    have := shp_inv hw hh (a := p) (b := 0) (i := k) (j := i) (by omega) (by omega)
    rw [show -(0 : Int) = 0 by omega] at this
    rw [← this]; exact eq_comm
  refine ⟨by omega, ?_, ?_⟩
  · unfold fpart; rw [tab_at _ (by omega)]; simp [hb]
  · unfold fpart
    refine tab_set fun i hi => ?_
    rw [tab_at _ (by omega)]
    by_cases e : i = shp w h p 0 k
    · subst e; simp [hb]
    · simp [e, hu i hi]
theorem fpart_n (p : Int) {k : Nat} (hk : k < cs.length) : shp w h 0 p k < cs.length ∧ ((fpart w h p cs k 1).getD (shp w h 0 p k) default).n = 0 ∧
    (fpart w h p cs k 1).set (shp w h 0 p k) ⟨((fpart w h p cs k 1).getD (shp w h 0 p k) default).e, (cs.getD k default).n, ((fpart w h p cs k 1).getD (shp w h 0 p k) default).w, ((fpart w h p cs k 1).getD (shp w h 0 p k) default).s⟩ = fpart w h p cs k 2 := by
  have hlt := shp_lt hw hh 0 p k
  have hb : shp w h 0 (-p) (shp w h 0 p k) = k := by rw [shp_shp hw hh, show p + -p = 0 by omega, show (0 : Int) + 0 = 0 by omega, shp_zero hw hh (by omega)]
  have hu : ∀ i, i < cs.length → (shp w h 0 (-p) i = k ↔ i = shp w h 0 p k) := fun i hi => by
    have := shp_inv hw hh (a := 0) (b := p) (i := k) (j := i) (by omega) (by omega)
    rw [show -(0 : Int) = 0 by omega] at this
    rw [← this]; exact eq_comm
  refine ⟨by omega, ?_, ?_⟩
  · unfold fpart; rw [tab_at _ (by omega)]; simp [hb]
  · unfold fpart
    refine tab_set fun i hi => ?_
    rw [tab_at _ (by omega)]
    by_cases e : i = shp w h 0 p k
    · subst e; simp [hb]
    · simp [e, hu i hi]
theorem fpart_w (p : Int) {k : Nat} (hk : k < cs.length) : shp w h (-p) 0 k < cs.length ∧ ((fpart w h p cs k 2).getD (shp w h (-p) 0 k) default).w = 0 ∧
    (fpart w h p cs k 2).set (shp w h (-p) 0 k) ⟨((fpart w h p cs k 2).getD (shp w h (-p) 0 k) default).e, ((fpart w h p cs k 2).getD (shp w h (-p) 0 k) default).n, (cs.getD k default).w, ((fpart w h p cs k 2).getD (shp w h (-p) 0 k) default).s⟩ = fpart w h p cs k 3 := by
  have hlt := shp_lt hw hh (-p) 0 k
  have hb : shp w h p 0 (shp w h (-p) 0 k) = k := by rw [shp_shp hw hh, show -p + p = 0 by omega, show (0 : Int) + 0 = 0 by omega, shp_zero hw hh (by omega)]
  have hu : ∀ i, i < cs.length → (shp w h p 0 i = k ↔ i = shp w h (-p) 0 k) := fun i hi => by
    have := shp_inv hw hh (a := p) (b := 0) (i := i) (j := k) (by omega) (by omega)
    rw [show -(0 : Int) = 0 by omega] at this
    rw [this]; exact eq_comm
  refine ⟨by omega, ?_, ?_⟩
  · unfold fpart; rw [tab_at _ (by omega)]; simp [hb]
  · unfold fpart
    refine tab_set fun i hi => ?_
    rw [tab_at _ (by omega)]
    by_cases e : i = shp w h (-p) 0 k
    · subst e; simp [hb]
    · simp [e, hu i hi]
theorem fpart_s (p : Int) {k : Nat} (hk : k < cs.length) : shp w h 0 (-p) k < cs.length ∧ ((fpart w h p cs k 3).getD (shp w h 0 (-p) k) default).s = 0 ∧
    (fpart w h p cs k 3).set (shp w h 0 (-p) k) ⟨((fpart w h p cs k 3).getD (shp w h 0 (-p) k) default).e, ((fpart w h p cs k 3).getD (shp w h 0 (-p) k) default).n, ((fpart w h p cs k 3).getD (shp w h 0 (-p) k) default).w, (cs.getD k default).s⟩ = fpart w h p cs (k + 1) 0 := by
  have hlt := shp_lt hw hh 0 (-p) k
  have hb : shp w h 0 p (shp w h 0 (-p) k) = k := by rw [shp_shp hw hh, show -p + p = 0 by omega, show (0 : Int) + 0 = 0 by omega, shp_zero hw hh (by omega)]
  have hu : ∀ i, i < cs.length → (shp w h 0 p i = k ↔ i = shp w h 0 (-p) k) := fun i hi => by
    have := shp_inv hw hh (a := 0) (b := p) (i := i) (j := k) (by omega) (by omega)
    rw [show -(0 : Int) = 0 by omega] at this
    rw [this]; exact eq_comm
  rw [← fpart_next]
  refine ⟨by omega, ?_, ?_⟩
  · unfold fpart; rw [tab_at _ (by omega)]; simp [hb]
  · unfold fpart
    refine tab_set fun i hi => ?_
    rw [tab_at _ (by omega)]
    by_cases e : i = shp w h 0 (-p) k
    · subst e; simp [hb]
    · simp [e, hu i hi]
end

/-! ### Laws of streaming -/
def Cel.rev (c : Cel) : Cel := ⟨c.w, c.s, c.e, c.n⟩
theorem flow_length (w h p : Int) (cs : List Cel) : (flow w h p cs).length = cs.length := tab_length _ _
section
variable {w h : Int} (hw : 0 < w) (hh : 0 < h) {cs : List Cel} (hl : (cs.length : Int) = w * h)
include hw hh hl
theorem flow_at (p : Int) {j : Nat} (hj : j < cs.length) : (flow w h p cs).getD j default = ⟨(cs.getD (shp w h (-p) 0 j) default).e, (cs.getD (shp w h 0 (-p) j) default).n, (cs.getD (shp w h p 0 j) default).w, (cs.getD (shp w h 0 p j) default).s⟩ := tab_at _ hj
theorem flow_flow (p : Int) : flow w h (-p) (flow w h p cs) = cs := by
  have lt : ∀ a b i, shp w h a b i < cs.length := fun a b i => by have := shp_lt hw hh a b i; omega
  have key : ∀ {f : Nat → Cel}, (∀ i, i < cs.length → f i = cs.getD i default) → tab cs.length f = cs := fun {f} hf => (tab_congr hf).trans (tab_self cs)
  unfold flow
  rw [tab_length]
  refine key fun i hi => ?_
  have hz : shp w h 0 0 i = i := shp_zero hw hh (by omega)
  simp only [tab_at _ (lt _ _ _), shp_shp hw hh, Int.neg_neg, show p + -p = 0 by omega, show -p + p = 0 by omega, Int.add_zero, hz, Int.neg_zero]
theorem flow_rev (p : Int) : (flow w h p (cs.map Cel.rev)).map Cel.rev = flow w h (-p) cs := by
  have lt : ∀ a b i, shp w h a b i < cs.length := fun a b i => by have := shp_lt hw hh a b i; omega
  have ge : ∀ i, i < cs.length → (cs.map Cel.rev).getD i default = (cs.getD i default).rev := fun i hi => by simp [List.getD, hi]
  unfold flow tab
  rw [List.map_map, List.length_map]
  refine List.map_congr_left fun i hi => ?_
  simp only [Function.comp, ge _ (lt _ _ _), Cel.rev, Int.neg_neg]
end
/-! ### Numbers round the sides -/
section
variable {w h : Int} (hw : 0 < w) (hh : 0 < h)
include hw hh
/-- The place of x and y. -/
theorem xy_of {x y : Int} (hx0 : 0 ≤ x) (hx : x < w) (hy0 : 0 ≤ y) (hy : y < h) : 0 ≤ x + w * y ∧ x + w * y < w * h ∧ ((x + w * y).toNat : Int) % w = x ∧ ((x + w * y).toNat : Int) / w = y := by
  have h1 : 0 ≤ w * y := Int.mul_nonneg (by omega) hy0
  have h2 : w * y ≤ w * (h - 1) := Int.mul_le_mul_of_nonneg_left (by omega) (by omega)
  rw [Int.mul_sub, Int.mul_one] at h2
  have h0 : 0 ≤ x + w * y := by omega
  refine ⟨h0, by omega, ?_, ?_⟩
  · rw [Int.toNat_of_nonneg h0, Int.add_mul_emod_self_left, Int.emod_eq_of_lt hx0 hx]
  · rw [Int.toNat_of_nonneg h0, Int.add_mul_ediv_left _ _ (show w ≠ 0 by omega), Int.ediv_eq_zero_of_lt hx0 hx, Int.zero_add]
theorem xy_bd {i : Nat} (hi : (i : Int) < w * h) : 0 ≤ (i : Int) % w ∧ (i : Int) % w < w ∧ 0 ≤ (i : Int) / w ∧ (i : Int) / w < h ∧ (i : Int) % w + w * ((i : Int) / w) = i := by
  refine ⟨Int.emod_nonneg _ (by omega), Int.emod_lt_of_pos _ hw, Int.ediv_nonneg (by omega) (by omega), Int.ediv_lt_of_lt_mul hw (by rw [Int.mul_comm]; exact hi), Int.emod_add_mul_ediv _ _⟩
end

def mvx (d : Int) : Int := if d = 0 then 1 else if d = 2 then -1 else 0
def mvy (d : Int) : Int := if d = 1 then 1 else if d = 3 then -1 else 0
def atI (w h x y : Int) : Nat := (x % w + w * (y % h)).toNat
theorem modm (n : Int) {m : Int} (hm : 0 < m) : -m < n.tmod m ∧ n.tmod m < m ∧ (n.tmod m + m).tmod m = n % m ∧ 0 ≤ n % m ∧ n % m < m := by
  have h1 := adj_tmod (a := n) hm
  have h2 := Int.emod_nonneg n (show m ≠ 0 by omega)
  have h3 := Int.emod_lt_of_pos n hm
  have h4 := Int.lt_tmod_of_pos n hm
  have h5 := Int.tmod_lt_of_pos n hm
  refine ⟨h4, h5, ?_, h2, h3⟩
  rw [Int.tmod_eq_emod_of_nonneg (by omega), Int.add_emod_right]
  split at h1
  · rw [← Int.add_emod_right, h1, Int.emod_emod_of_dvd _ (Int.dvd_refl m)]
  · rw [h1, Int.emod_emod_of_dvd _ (Int.dvd_refl m)]
theorem at_bd {w h : Int} (x y : Int) (hw : 0 < w) (hh : 0 < h) : 0 ≤ x % w + w * (y % h) ∧ x % w + w * (y % h) < w * h ∧ 0 ≤ w * (y % h) ∧ w * (y % h) ≤ w * h ∧ 0 ≤ x % w ∧ x % w < w := by
  have h1 := Int.emod_nonneg x (show w ≠ 0 by omega)
  have h2 := Int.emod_lt_of_pos x hw
  have h3 := Int.emod_nonneg y (show h ≠ 0 by omega)
  have h4 := Int.emod_lt_of_pos y hh
  have h5 := Int.mul_nonneg (show 0 ≤ w by omega) h3
  have h6 : w * (y % h) ≤ w * (h - 1) := Int.mul_le_mul_of_nonneg_left (by omega) (by omega)
  rw [Int.mul_sub, Int.mul_one] at h6
  omega
theorem at_shp (w h a b : Int) (i : Nat) : atI w h ((i : Int) % w + a) ((i : Int) / w + b) = shp w h a b i := rfl
theorem at_lt {w h x y : Int} (hw : 0 < w) (hh : 0 < h) {n : Nat} (hn : (n : Int) = w * h) : atI w h x y < n := by
  have := at_bd x y hw hh
  unfold atI; omega
/-- The place from which the particles of a direction come. -/
def shI (w h a b i : Int) : Int := (i % w + a) % w + w * ((i / w + b) % h)
theorem shI_shp (w h a b : Int) (i : Nat) : (shI w h a b i).toNat = shp w h a b i := rfl
theorem shI_bd {w h : Int} (a b i : Int) (hw : 0 < w) (hh : 0 < h) : 0 ≤ shI w h a b i ∧ shI w h a b i < w * h := by
  have := at_bd (i % w + a) (i / w + b) hw hh
  exact ⟨this.1, this.2.1⟩
/-! ### Within bounds -/
def bdC (c : Cel) : Prop := (0 ≤ c.e ∧ c.e ≤ 1000000000) ∧ (0 ≤ c.n ∧ c.n ≤ 1000000000) ∧ (0 ≤ c.w ∧ c.w ≤ 1000000000) ∧ (0 ≤ c.s ∧ c.s ≤ 1000000000)
theorem cell_bd {cs : List Cel} (h : okL cs = true) (i : Nat) : bdC (cs.getD i default) := by
  by_cases hi : i < cs.length
  · have := Cel.ok_iff.1 (okL_iff.1 h _ (getD_mem default hi))
    unfold bdC; omega
  · have : cs.getD i default = default := by simp [List.getD, List.getElem?_eq_none (show cs.length ≤ i by omega)]
    rw [this]; exact ⟨⟨by decide, by decide⟩, ⟨by decide, by decide⟩, ⟨by decide, by decide⟩, ⟨by decide, by decide⟩⟩
theorem fpart_bd {cs : List Cel} (hk : okL cs = true) (w h p : Int) (k d i : Nat) : bdC ((fpart w h p cs k d).getD i default) := by
  by_cases hi : i < cs.length
  · unfold fpart
    rw [tab_at _ hi]
    have c := fun j => cell_bd hk j
    refine ⟨?_, ?_, ?_, ?_⟩ <;> simp only <;> split
    · exact (c _).1
    · omega
    · exact (c _).2.1
    · omega
    · exact (c _).2.2.1
    · omega
    · exact (c _).2.2.2
    · omega
  · have : (fpart w h p cs k d).getD i default = default := by simp [List.getD, List.getElem?_eq_none (show (fpart w h p cs k d).length ≤ i by rw [fpart_length]; omega)]
    rw [this]; exact ⟨⟨by decide, by decide⟩, ⟨by decide, by decide⟩, ⟨by decide, by decide⟩, ⟨by decide, by decide⟩⟩
theorem add_lo {a b : Int} (ha : 0 ≤ a ∧ a ≤ 1000000000) (hb : 0 ≤ b ∧ b ≤ 1000000000) : -9223372036854775808 ≤ a + b := by omega
theorem add_hi {a b : Int} (ha : 0 ≤ a ∧ a ≤ 1000000000) (hb : 0 ≤ b ∧ b ≤ 1000000000) : a + b ≤ 9223372036854775807 := by omega
section
variable {w h : Int} (hw : 0 < w) (hh : 0 < h) {cs : List Cel} (hl : (cs.length : Int) = w * h)
include hw hh hl
theorem push_e (p : Int) {k : Nat} (hk : k < cs.length) : fpart w h p cs k 1 = (fpart w h p cs k 0).set (atI w h ((k : Int) % w + p * mvx 0) ((k : Int) / w + p * mvy 0))
    ⟨((fpart w h p cs k 0).getD (atI w h ((k : Int) % w + p * mvx 0) ((k : Int) / w + p * mvy 0)) default).e + (cs.getD k default).e, ((fpart w h p cs k 0).getD (atI w h ((k : Int) % w + p * mvx 0) ((k : Int) / w + p * mvy 0)) default).n, ((fpart w h p cs k 0).getD (atI w h ((k : Int) % w + p * mvx 0) ((k : Int) / w + p * mvy 0)) default).w, ((fpart w h p cs k 0).getD (atI w h ((k : Int) % w + p * mvx 0) ((k : Int) / w + p * mvy 0)) default).s⟩ := by
  obtain ⟨h1, h2, h3⟩ := fpart_e hw hh hl p hk
  rw [at_shp, show p * mvx 0 = p from Int.mul_one p, show p * mvy 0 = 0 from Int.mul_zero p, h2, Int.zero_add, h3]
theorem push_n (p : Int) {k : Nat} (hk : k < cs.length) : fpart w h p cs k 2 = (fpart w h p cs k 1).set (atI w h ((k : Int) % w + p * mvx 1) ((k : Int) / w + p * mvy 1))
    ⟨((fpart w h p cs k 1).getD (atI w h ((k : Int) % w + p * mvx 1) ((k : Int) / w + p * mvy 1)) default).e, ((fpart w h p cs k 1).getD (atI w h ((k : Int) % w + p * mvx 1) ((k : Int) / w + p * mvy 1)) default).n + (cs.getD k default).n, ((fpart w h p cs k 1).getD (atI w h ((k : Int) % w + p * mvx 1) ((k : Int) / w + p * mvy 1)) default).w, ((fpart w h p cs k 1).getD (atI w h ((k : Int) % w + p * mvx 1) ((k : Int) / w + p * mvy 1)) default).s⟩ := by
  obtain ⟨h1, h2, h3⟩ := fpart_n hw hh hl p hk
  rw [at_shp, show p * mvx 1 = 0 from Int.mul_zero p, show p * mvy 1 = p from Int.mul_one p, h2, Int.zero_add, h3]
theorem push_w (p : Int) {k : Nat} (hk : k < cs.length) : fpart w h p cs k 3 = (fpart w h p cs k 2).set (atI w h ((k : Int) % w + p * mvx 2) ((k : Int) / w + p * mvy 2))
    ⟨((fpart w h p cs k 2).getD (atI w h ((k : Int) % w + p * mvx 2) ((k : Int) / w + p * mvy 2)) default).e, ((fpart w h p cs k 2).getD (atI w h ((k : Int) % w + p * mvx 2) ((k : Int) / w + p * mvy 2)) default).n, ((fpart w h p cs k 2).getD (atI w h ((k : Int) % w + p * mvx 2) ((k : Int) / w + p * mvy 2)) default).w + (cs.getD k default).w, ((fpart w h p cs k 2).getD (atI w h ((k : Int) % w + p * mvx 2) ((k : Int) / w + p * mvy 2)) default).s⟩ := by
  obtain ⟨h1, h2, h3⟩ := fpart_w hw hh hl p hk
  rw [at_shp, show p * mvx 2 = -p from (Int.mul_neg p 1).trans (by rw [Int.mul_one]), show p * mvy 2 = 0 from Int.mul_zero p, h2, Int.zero_add, h3]
theorem push_s (p : Int) {k : Nat} (hk : k < cs.length) : fpart w h p cs k 4 = (fpart w h p cs k 3).set (atI w h ((k : Int) % w + p * mvx 3) ((k : Int) / w + p * mvy 3))
    ⟨((fpart w h p cs k 3).getD (atI w h ((k : Int) % w + p * mvx 3) ((k : Int) / w + p * mvy 3)) default).e, ((fpart w h p cs k 3).getD (atI w h ((k : Int) % w + p * mvx 3) ((k : Int) / w + p * mvy 3)) default).n, ((fpart w h p cs k 3).getD (atI w h ((k : Int) % w + p * mvx 3) ((k : Int) / w + p * mvy 3)) default).w, ((fpart w h p cs k 3).getD (atI w h ((k : Int) % w + p * mvx 3) ((k : Int) / w + p * mvy 3)) default).s + (cs.getD k default).s⟩ := by
  obtain ⟨h1, h2, h3⟩ := fpart_s hw hh hl p hk
  rw [at_shp, show p * mvx 3 = 0 from Int.mul_zero p, show p * mvy 3 = -p from (Int.mul_neg p 1).trans (by rw [Int.mul_one]), h2, Int.zero_add, h3, fpart_next]
end
/-! ### Cells that are told one after the other -/
def pOf (b : Bool) : Int := if b then -1 else 1
def pcell (w h p : Int) (cs : List Cel) (d j : Nat) : Cel := ⟨if 0 < d then (cs.getD (shp w h (-p) 0 j) default).e else 0, if 1 < d then (cs.getD (shp w h 0 (-p) j) default).n else 0, if 2 < d then (cs.getD (shp w h p 0 j) default).w else 0, if 3 < d then (cs.getD (shp w h 0 p j) default).s else 0⟩
/-- The first k cells are told, and the first d directions of the next one. -/
def gpart (w h p : Int) (cs : List Cel) (k d : Nat) : List Cel := tab cs.length fun j => if j < k then pcell w h p cs 4 j else if j = k then pcell w h p cs d j else ⟨0, 0, 0, 0⟩
theorem gpart_length (w h p : Int) (cs : List Cel) (k d : Nat) : (gpart w h p cs k d).length = cs.length := tab_length _ _
theorem gpart_zero (w h p : Int) (cs : List Cel) : gpart w h p cs 0 0 = List.replicate cs.length ⟨0, 0, 0, 0⟩ := by
  unfold gpart tab
  rw [show List.replicate cs.length (⟨0, 0, 0, 0⟩ : Cel) = List.replicate (List.range cs.length).length ⟨0, 0, 0, 0⟩ by rw [List.length_range], ← List.map_const']
  refine List.map_congr_left fun i _ => ?_
  simp [pcell]
theorem gpart_next (w h p : Int) (cs : List Cel) (k : Nat) : gpart w h p cs k 4 = gpart w h p cs (k + 1) 0 := by
  refine tab_congr fun i hi => ?_
  by_cases h1 : i < k
  · rw [if_pos h1, if_pos (by omega)]
  · by_cases h2 : i = k
    · rw [if_neg h1, if_pos h2, if_pos (by omega)]
    · rw [if_neg h1, if_neg h2, if_neg (by omega)]
      by_cases h3 : i = k + 1
      · rw [if_pos h3]; simp [pcell]
      · rw [if_neg h3]
theorem gpart_full (w h p : Int) (cs : List Cel) {k : Nat} (hk : cs.length ≤ k) : gpart w h p cs k 0 = flow w h p cs := by
  refine tab_congr fun i hi => ?_
  rw [if_pos (by omega)]; simp [pcell]
theorem gpart_set (w h p : Int) (cs : List Cel) {k d : Nat} (hk : k < cs.length) {v : Cel} (hv : v = pcell w h p cs (d + 1) k) : gpart w h p cs k (d + 1) = (gpart w h p cs k d).set k v := by
  refine Eq.symm (tab_set fun i hi => ?_)
  by_cases e : i = k
  · subst e; simp [hv]
  · rw [if_neg e]
    by_cases h1 : i < k
    · rw [if_pos h1, if_neg e, if_pos h1]
    · rw [if_neg h1, if_neg e, if_neg h1, if_neg e]
theorem gpart_at (w h p : Int) (cs : List Cel) {k : Nat} (d : Nat) (hk : k < cs.length) : (gpart w h p cs k d).getD k default = pcell w h p cs d k := by
  unfold gpart; rw [tab_at _ hk, if_neg (Nat.lt_irrefl k), if_pos rfl]
section
variable {w h p a b : Int} {cs : List Cel} {k : Nat} (hk : k < cs.length)
include hk
theorem pull_e (ha : a = -p) (hb : b = 0) : gpart w h p cs k 1 = (gpart w h p cs k 0).set k ⟨(cs.getD (shI w h a b k).toNat default).e, ((gpart w h p cs k 0).getD k default).n, ((gpart w h p cs k 0).getD k default).w, ((gpart w h p cs k 0).getD k default).s⟩ := by
  subst ha; subst hb; rw [gpart_at _ _ _ _ _ hk, shI_shp]; exact gpart_set _ _ _ _ hk (by simp [pcell])
theorem pull_n (ha : a = 0) (hb : b = -p) : gpart w h p cs k 2 = (gpart w h p cs k 1).set k ⟨((gpart w h p cs k 1).getD k default).e, (cs.getD (shI w h a b k).toNat default).n, ((gpart w h p cs k 1).getD k default).w, ((gpart w h p cs k 1).getD k default).s⟩ := by
  subst ha; subst hb; rw [gpart_at _ _ _ _ _ hk, shI_shp]; exact gpart_set _ _ _ _ hk (by simp [pcell])
theorem pull_w (ha : a = p) (hb : b = 0) : gpart w h p cs k 3 = (gpart w h p cs k 2).set k ⟨((gpart w h p cs k 2).getD k default).e, ((gpart w h p cs k 2).getD k default).n, (cs.getD (shI w h a b k).toNat default).w, ((gpart w h p cs k 2).getD k default).s⟩ := by
  subst ha; subst hb; rw [gpart_at _ _ _ _ _ hk, shI_shp]; exact gpart_set _ _ _ _ hk (by simp [pcell])
theorem pull_s (ha : a = 0) (hb : b = p) : gpart w h p cs k 4 = (gpart w h p cs k 3).set k ⟨((gpart w h p cs k 3).getD k default).e, ((gpart w h p cs k 3).getD k default).n, ((gpart w h p cs k 3).getD k default).w, (cs.getD (shI w h a b k).toNat default).s⟩ := by
  subst ha; subst hb; rw [gpart_at _ _ _ _ _ hk, shI_shp]; exact gpart_set _ _ _ _ hk (by simp [pcell])
end
theorem shI_lt {w h : Int} (a b i : Int) (hw : 0 < w) (hh : 0 < h) {n : Nat} (hn : (n : Int) = w * h) : 0 ≤ shI w h a b i ∧ shI w h a b i < n ∧ (shI w h a b i).toNat < n := by
  have := shI_bd a b i hw hh
  omega
end Go.Sy
