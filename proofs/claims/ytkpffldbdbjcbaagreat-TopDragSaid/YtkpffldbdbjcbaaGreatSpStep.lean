/- Places on a grid, moved round its sides; cells that stream. -/
import Derived.Test.YtkpffldbdbjcbaaGreatSpPhase
import Derived.Test.YtkpffldbdbjcbaaGreatSpOrder
set_option linter.unusedSimpArgs false
set_option linter.unusedVariables false
set_option linter.unusedSectionVars false
namespace Go.Sy

/-! ### Places, moved -/
def shp (w h a b : Int) (i : Nat) : Nat := ((((i : Int) % w + a) % w) + w * (((i : Int) / w + b) % h)).toNat
section
variable {w h : Int} (hw : 0 < w) (hh : 0 < h)
include hw hh
theorem shp_int (a b : Int) (i : Nat) : (shp w h a b i : Int) = (((i : Int) % w + a) % w) + w * (((i : Int) / w + b) % h) := by
  have h1 := Int.emod_nonneg ((i : Int) % w + a) (show w ≠ 0 by omega)
  have h2 := Int.emod_nonneg ((i : Int) / w + b) (show h ≠ 0 by omega)
  have h3 := Int.mul_nonneg (show 0 ≤ w by omega) h2
  unfold shp
  rw [Int.toNat_of_nonneg (by omega)]
theorem shp_x (a b : Int) (i : Nat) : (shp w h a b i : Int) % w = ((i : Int) % w + a) % w := by
  rw [shp_int hw hh, Int.add_mul_emod_self_left, Int.emod_emod_of_dvd _ (Int.dvd_refl w)]
theorem shp_y (a b : Int) (i : Nat) : (shp w h a b i : Int) / w = ((i : Int) / w + b) % h := by
  rw [shp_int hw hh, Int.add_mul_ediv_left _ _ (show w ≠ 0 by omega),
    Int.ediv_eq_zero_of_lt (Int.emod_nonneg _ (show w ≠ 0 by omega)) (Int.emod_lt_of_pos _ hw), Int.zero_add]
theorem shp_lt (a b : Int) (i : Nat) : (shp w h a b i : Int) < w * h := by
  rw [shp_int hw hh]
  have h1 := Int.emod_lt_of_pos ((i : Int) % w + a) hw
  have h2 := Int.emod_lt_of_pos ((i : Int) / w + b) hh
  have h3 : w * (((i : Int) / w + b) % h) ≤ w * (h - 1) := Int.mul_le_mul_of_nonneg_left (by omega) (by omega)
  rw [Int.mul_sub, Int.mul_one] at h3
  omega
theorem shp_eq_iff {i j : Nat} (e1 : (i : Int) % w = (j : Int) % w) (e2 : (i : Int) / w = (j : Int) / w) : i = j := by
  have h1 := Int.emod_add_mul_ediv (i : Int) w
  have h2 := Int.emod_add_mul_ediv (j : Int) w
  rw [e1, e2, h2] at h1
  omega
theorem shp_shp (a b c d : Int) (i : Nat) : shp w h a b (shp w h c d i) = shp w h (c + a) (d + b) i := by
  refine shp_eq_iff hw hh ?_ ?_
  · rw [shp_x hw hh, shp_x hw hh, shp_x hw hh, Int.emod_add_emod, Int.add_assoc]
  · rw [shp_y hw hh, shp_y hw hh, shp_y hw hh, Int.emod_add_emod, Int.add_assoc]
theorem shp_zero {i : Nat} (hi : (i : Int) < w * h) : shp w h 0 0 i = i := by
  refine shp_eq_iff hw hh ?_ ?_
  · rw [shp_x hw hh, Int.add_zero, Int.emod_emod_of_dvd _ (Int.dvd_refl w)]
  · rw [shp_y hw hh, Int.add_zero]
    refine Int.emod_eq_of_lt (Int.ediv_nonneg (by omega) (by omega)) (Int.ediv_lt_of_lt_mul hw ?_)
    rw [Int.mul_comm]; exact hi
theorem shp_inv {a b : Int} {i j : Nat} (hi : (i : Int) < w * h) (hj : (j : Int) < w * h) : shp w h a b i = j ↔ shp w h (-a) (-b) j = i := by
  constructor
  · rintro rfl; rw [shp_shp hw hh, show a + -a = 0 by omega, show b + -b = 0 by omega, shp_zero hw hh hi]
  · rintro rfl; rw [shp_shp hw hh, show -a + a = 0 by omega, show -b + b = 0 by omega, shp_zero hw hh hj]
theorem shp_inj {a b : Int} {i j : Nat} (hi : (i : Int) < w * h) (hj : (j : Int) < w * h) (e : shp w h a b i = shp w h a b j) : i = j := by
  have h1 := (shp_inv hw hh (a := a) (b := b) hi (shp_lt hw hh a b i)).1 rfl
  have h2 := (shp_inv hw hh (a := a) (b := b) hj (shp_lt hw hh a b j)).1 rfl
  rw [← h1, e, h2]
end

/-! ### Lists told by their places -/
def tab (n : Nat) (f : Nat → Cel) : List Cel := (List.range n).map f
theorem tab_length (n : Nat) (f : Nat → Cel) : (tab n f).length = n := by simp [tab]
theorem tab_at {n : Nat} (f : Nat → Cel) {i : Nat} (h : i < n) : (tab n f).getD i default = f i := by simp [tab, List.getD, h]
theorem tab_self (cs : List Cel) : tab cs.length (fun i => cs.getD i default) = cs := by
  apply List.ext_getElem?
  intro i
  by_cases h : i < cs.length
  · simp [tab, h]
  · simp [tab, h]
theorem tab_congr {n : Nat} {f g : Nat → Cel} (h : ∀ i, i < n → f i = g i) : tab n f = tab n g :=
  List.map_congr_left fun i hi => h i (List.mem_range.1 hi)
theorem tab_set {n : Nat} {f g : Nat → Cel} {k : Nat} {v : Cel} (h : ∀ i, i < n → g i = if i = k then v else f i) : (tab n f).set k v = tab n g := by
  apply List.ext_getElem?
  intro i
  rw [List.getElem?_set]
  by_cases hi : i < n
  · have := h i hi
    by_cases hk : k = i
    · subst hk; simp [tab, hi, this]
    · simp [tab, hi, this, hk]
      intro e; exact absurd e.symm hk
  · by_cases hk : k = i
    · subst hk; simp [tab, hi]
    · simp [tab, hi, hk]
theorem tab_mem {n : Nat} {f : Nat → Cel} {c : Cel} (h : c ∈ tab n f) : ∃ i, i < n ∧ f i = c := by
  obtain ⟨i, hi, e⟩ := List.mem_map.1 h
  exact ⟨i, List.mem_range.1 hi, e⟩

/-! ### Cells that stream -/
/-- Each cell gets what was so many places back in each direction. -/
def flow (w h p : Int) (cs : List Cel) : List Cel := tab cs.length fun j => ⟨(cs.getD (shp w h (-p) 0 j) default).e, (cs.getD (shp w h 0 (-p) j) default).n, (cs.getD (shp w h p 0 j) default).w, (cs.getD (shp w h 0 p j) default).s⟩
/-- The same, of the first k cells alone, and of the first d directions of the next one. -/
def fpart (w h p : Int) (cs : List Cel) (k : Nat) (d : Nat) : List Cel := tab cs.length fun j =>
  ⟨if shp w h (-p) 0 j < k ∨ shp w h (-p) 0 j = k ∧ 0 < d then (cs.getD (shp w h (-p) 0 j) default).e else 0,
   if shp w h 0 (-p) j < k ∨ shp w h 0 (-p) j = k ∧ 1 < d then (cs.getD (shp w h 0 (-p) j) default).n else 0,
   if shp w h p 0 j < k ∨ shp w h p 0 j = k ∧ 2 < d then (cs.getD (shp w h p 0 j) default).w else 0,
   if shp w h 0 p j < k ∨ shp w h 0 p j = k ∧ 3 < d then (cs.getD (shp w h 0 p j) default).s else 0⟩
theorem fpart_length (w h p : Int) (cs : List Cel) (k d : Nat) : (fpart w h p cs k d).length = cs.length := tab_length _ _
theorem fpart_zero (w h p : Int) (cs : List Cel) : fpart w h p cs 0 0 = List.replicate cs.length ⟨0, 0, 0, 0⟩ := by
  unfold fpart tab
  rw [show List.replicate cs.length (⟨0, 0, 0, 0⟩ : Cel) = List.replicate (List.range cs.length).length ⟨0, 0, 0, 0⟩ by rw [List.length_range], ← List.map_const']
  refine List.map_congr_left fun i _ => ?_
  simp
theorem fpart_next (w h p : Int) (cs : List Cel) (k : Nat) : fpart w h p cs k 4 = fpart w h p cs (k + 1) 0 := by
  refine tab_congr fun i hi => ?_
  have e : ∀ (x : Nat) (m : Nat), m < 4 → ((x < k ∨ x = k ∧ m < 4) ↔ (x < k + 1 ∨ x = k + 1 ∧ m < 0)) := fun x m hm => by omega
  simp only [e _ 0 (by omega), e _ 1 (by omega), e _ 2 (by omega), e _ 3 (by omega)]
section
variable {w h : Int} (hw : 0 < w) (hh : 0 < h) {cs : List Cel} (hl : (cs.length : Int) = w * h)
include hw hh hl
theorem fpart_full (p : Int) {k : Nat} (hk : cs.length ≤ k) : fpart w h p cs k 0 = flow w h p cs := by
  refine tab_congr fun i hi => ?_
  have e : ∀ a b, shp w h a b i < k := fun a b => by have := shp_lt hw hh a b i; omega
  simp only [e, true_or, if_true]
/-- The place where the particles go. -/
theorem fpart_e (p : Int) {k : Nat} (hk : k < cs.length) : shp w h p 0 k < cs.length ∧ ((fpart w h p cs k 0).getD (shp w h p 0 k) default).e = 0 ∧
    (fpart w h p cs k 0).set (shp w h p 0 k) ⟨(cs.getD k default).e, ((fpart w h p cs k 0).getD (shp w h p 0 k) default).n, ((fpart w h p cs k 0).getD (shp w h p 0 k) default).w, ((fpart w h p cs k 0).getD (shp w h p 0 k) default).s⟩ = fpart w h p cs k 1 := by
  have hlt := shp_lt hw hh p 0 k
  have hb : shp w h (-p) 0 (shp w h p 0 k) = k := by rw [shp_shp hw hh, show p + -p = 0 by omega, show (0 : Int) + 0 = 0 by omega, shp_zero hw hh (by omega)]
  have hu : ∀ i, i < cs.length → (shp w h (-p) 0 i = k ↔ i = shp w h p 0 k) := fun i hi => by
    have := shp_inv hw hh (a := p) (b := 0) (i := k) (j := i) (by omega) (by omega)
    rw [show -(0 : Int) = 0 by omega] at this
    rw [← this]; exact eq_comm
  refine ⟨by omega, ?_, ?_⟩
  · unfold fpart; rw [tab_at _ (by omega)]; simp [hb]
  · unfold fpart
    refine tab_set fun i hi => ?_
    rw [tab_at _ (by omega)]
    by_cases e : i = shp w h p 0 k
    · subst e; simp [hb]
    · simp [e, hu i hi]
theorem fpart_n (p : Int) {k : Nat} (hk : k < cs.length) : shp w h 0 p k < cs.length ∧ ((fpart w h p cs k 1).getD (shp w h 0 p k) default).n = 0 ∧
    (fpart w h p cs k 1).set (shp w h 0 p k) ⟨((fpart w h p cs k 1).getD (shp w h 0 p k) default).e, (cs.getD k default).n, ((fpart w h p cs k 1).getD (shp w h 0 p k) default).w, ((fpart w h p cs k 1).getD (shp w h 0 p k) default).s⟩ = fpart w h p cs k 2 := by
  have hlt := shp_lt hw hh 0 p k
  have hb : shp w h 0 (-p) (shp w h 0 p k) = k := by rw [shp_shp hw hh, show p + -p = 0 by omega, show (0 : Int) + 0 = 0 by omega, shp_zero hw hh (by omega)]
  have hu : ∀ i, i < cs.length → (shp w h 0 (-p) i = k ↔ i = shp w h 0 p k) := fun i hi => by
    have := shp_inv hw hh (a := 0) (b := p) (i := k) (j := i) (by omega) (by omega)
    rw [show -(0 : Int) = 0 by omega] at this
    rw [← this]; exact eq_comm
  refine ⟨by omega, ?_, ?_⟩
  · unfold fpart; rw [tab_at _ (by omega)]; simp [hb]
  · unfold fpart
    refine tab_set fun i hi => ?_
    rw [tab_at _ (by omega)]
    by_cases e : i = shp w h 0 p k
    · subst e; simp [hb]
    · simp [e, hu i hi]
theorem fpart_w (p : Int) {k : Nat} (hk : k < cs.length) : shp w h (-p) 0 k < cs.length ∧ ((fpart w h p cs k 2).getD (shp w h (-p) 0 k) default).w = 0 ∧
    (fpart w h p cs k 2).set (shp w h (-p) 0 k) ⟨((fpart w h p cs k 2).getD (shp w h (-p) 0 k) default).e, ((fpart w h p cs k 2).getD (shp w h (-p) 0 k) default).n, (cs.getD k default).w, ((fpart w h p cs k 2).getD (shp w h (-p) 0 k) default).s⟩ = fpart w h p cs k 3 := by
  have hlt := shp_lt hw hh (-p) 0 k
  have hb : shp w h p 0 (shp w h (-p) 0 k) = k := by rw [shp_shp hw hh, show -p + p = 0 by omega, show (0 : Int) + 0 = 0 by omega, shp_zero hw hh (by omega)]
  have hu : ∀ i, i < cs.length → (shp w h p 0 i = k ↔ i = shp w h (-p) 0 k) := fun i hi => by
    have := shp_inv hw hh (a := p) (b := 0) (i := i) (j := k) (by omega) (by omega)
    rw [show -(0 : Int) = 0 by omega] at this
    rw [this]; exact eq_comm
  refine ⟨by omega, ?_, ?_⟩
  · unfold fpart; rw [tab_at _ (by omega)]; simp [hb]
  · unfold fpart
    refine tab_set fun i hi => ?_
    rw [tab_at _ (by omega)]
    by_cases e : i = shp w h (-p) 0 k
    · subst e; simp [hb]
    · simp [e, hu i hi]
theorem fpart_s (p : Int) {k : Nat} (hk : k < cs.length) : shp w h 0 (-p) k < cs.length ∧ ((fpart w h p cs k 3).getD (shp w h 0 (-p) k) default).s = 0 ∧
    (fpart w h p cs k 3).set (shp w h 0 (-p) k) ⟨((fpart w h p cs k 3).getD (shp w h 0 (-p) k) default).e, ((fpart w h p cs k 3).getD (shp w h 0 (-p) k) default).n, ((fpart w h p cs k 3).getD (shp w h 0 (-p) k) default).w, (cs.getD k default).s⟩ = fpart w h p cs (k + 1) 0 := by
  have hlt := shp_lt hw hh 0 (-p) k
  have hb : shp w h 0 p (shp w h 0 (-p) k) = k := by rw [shp_shp hw hh, show -p + p = 0 by omega, show (0 : Int) + 0 = 0 by omega, shp_zero hw hh (by omega)]
  have hu : ∀ i, i < cs.length → (shp w h 0 p i = k ↔ i = shp w h 0 (-p) k) := fun i hi => by
    have := shp_inv hw hh (a := 0) (b := p) (i := i) (j := k) (by omega) (by omega)
    rw [show -(0 : Int) = 0 by omega] at this
    rw [this]; exact eq_comm
  rw [← fpart_next]
  refine ⟨by omega, ?_, ?_⟩
  · unfold fpart; rw [tab_at _ (by omega)]; simp [hb]
  · unfold fpart
    refine tab_set fun i hi => ?_
    rw [tab_at _ (by omega)]
    by_cases e : i = shp w h 0 (-p) k
    · subst e; simp [hb]
    · simp [e, hu i hi]
end

/-! ### Laws of streaming -/
theorem flow_length (w h p : Int) (cs : List Cel) : (flow w h p cs).length = cs.length := tab_length _ _
section
variable {w h : Int} (hw : 0 < w) (hh : 0 < h) {cs : List Cel} (hl : (cs.length : Int) = w * h)
include hw hh hl
end
/-! ### Numbers round the sides -/
section
variable {w h : Int} (hw : 0 < w) (hh : 0 < h)
include hw hh
theorem xy_bd {i : Nat} (hi : (i : Int) < w * h) : 0 ≤ (i : Int) % w ∧ (i : Int) % w < w ∧ 0 ≤ (i : Int) / w ∧ (i : Int) / w < h ∧ (i : Int) % w + w * ((i : Int) / w) = i := by
  refine ⟨Int.emod_nonneg _ (by omega), Int.emod_lt_of_pos _ hw, Int.ediv_nonneg (by omega) (by omega), Int.ediv_lt_of_lt_mul hw (by rw [Int.mul_comm]; exact hi), Int.emod_add_mul_ediv _ _⟩
end

def mvx (d : Int) : Int := if d = 0 then 1 else if d = 2 then -1 else 0
def mvy (d : Int) : Int := if d = 1 then 1 else if d = 3 then -1 else 0
def atI (w h x y : Int) : Nat := (x % w + w * (y % h)).toNat
theorem modm (n : Int) {m : Int} (hm : 0 < m) : -m < n.tmod m ∧ n.tmod m < m ∧ (n.tmod m + m).tmod m = n % m ∧ 0 ≤ n % m ∧ n % m < m := by
  have h1 := adj_tmod (a := n) hm
  have h2 := Int.emod_nonneg n (show m ≠ 0 by omega)
  have h3 := Int.emod_lt_of_pos n hm
  have h4 := Int.lt_tmod_of_pos n hm
  have h5 := Int.tmod_lt_of_pos n hm
  refine ⟨h4, h5, ?_, h2, h3⟩
  rw [Int.tmod_eq_emod_of_nonneg (by omega), Int.add_emod_right]
  split at h1
  · rw [← Int.add_emod_right, h1, Int.emod_emod_of_dvd _ (Int.dvd_refl m)]
  · rw [h1, Int.emod_emod_of_dvd _ (Int.dvd_refl m)]
theorem at_bd {w h : Int} (x y : Int) (hw : 0 < w) (hh : 0 < h) : 0 ≤ x % w + w * (y % h) ∧ x % w + w * (y % h) < w * h ∧ 0 ≤ w * (y % h) ∧ w * (y % h) ≤ w * h ∧ 0 ≤ x % w ∧ x % w < w := by
  have h1 := Int.emod_nonneg x (show w ≠ 0 by omega)
  have h2 := Int.emod_lt_of_pos x hw
  have h3 := Int.emod_nonneg y (show h ≠ 0 by omega)
  have h4 := Int.emod_lt_of_pos y hh
  have h5 := Int.mul_nonneg (show 0 ≤ w by omega) h3
  have h6 : w * (y % h) ≤ w * (h - 1) := Int.mul_le_mul_of_nonneg_left (by omega) (by omega)
  rw [Int.mul_sub, Int.mul_one] at h6
  omega
theorem at_shp (w h a b : Int) (i : Nat) : atI w h ((i : Int) % w + a) ((i : Int) / w + b) = shp w h a b i := rfl
theorem at_lt {w h x y : Int} (hw : 0 < w) (hh : 0 < h) {n : Nat} (hn : (n : Int) = w * h) : atI w h x y < n := by
  have := at_bd x y hw hh
  unfold atI; omega
/-! ### Within bounds -/
def bdC (c : Cel) : Prop := (0 ≤ c.e ∧ c.e ≤ 1000000000) ∧ (0 ≤ c.n ∧ c.n ≤ 1000000000) ∧ (0 ≤ c.w ∧ c.w ≤ 1000000000) ∧ (0 ≤ c.s ∧ c.s ≤ 1000000000)
theorem cell_bd {cs : List Cel} (h : okL cs = true) (i : Nat) : bdC (cs.getD i default) := by
  by_cases hi : i < cs.length
  · have := Cel.ok_iff.1 (okL_iff.1 h _ (getD_mem default hi))
    unfold bdC; omega
  · have : cs.getD i default = default := by simp [List.getD, List.getElem?_eq_none (show cs.length ≤ i by omega)]
    rw [this]; exact ⟨⟨by decide, by decide⟩, ⟨by decide, by decide⟩, ⟨by decide, by decide⟩, ⟨by decide, by decide⟩⟩
theorem fpart_bd {cs : List Cel} (hk : okL cs = true) (w h p : Int) (k d i : Nat) : bdC ((fpart w h p cs k d).getD i default) := by
  by_cases hi : i < cs.length
  · unfold fpart
    rw [tab_at _ hi]
    have c := fun j => cell_bd hk j
    refine ⟨?_, ?_, ?_, ?_⟩ <;> simp only <;> split
    · exact (c _).1
    · omega
    · exact (c _).2.1
    · omega
    · exact (c _).2.2.1
    · omega
    · exact (c _).2.2.2
    · omega
  · have : (fpart w h p cs k d).getD i default = default := by simp [List.getD, List.getElem?_eq_none (show (fpart w h p cs k d).length ≤ i by rw [fpart_length]; omega)]
    rw [this]; exact ⟨⟨by decide, by decide⟩, ⟨by decide, by decide⟩, ⟨by decide, by decide⟩, ⟨by decide, by decide⟩⟩
theorem add_lo {a b : Int} (ha : 0 ≤ a ∧ a ≤ 1000000000) (hb : 0 ≤ b ∧ b ≤ 1000000000) : -9223372036854775808 ≤ a + b := by omega
theorem add_hi {a b : Int} (ha : 0 ≤ a ∧ a ≤ 1000000000) (hb : 0 ≤ b ∧ b ≤ 1000000000) : a + b ≤ 9223372036854775807 := by omega
section
variable {w h : Int} (hw : 0 < w) (hh : 0 < h) {cs : List Cel} (hl : (cs.length : Int) = w * h)
include hw hh hl
theorem push_e (p : Int) {k : Nat} (hk : k < cs.length) : fpart w h p cs k 1 = (fpart w h p cs k 0).set (atI w h ((k : Int) % w + p * mvx 0) ((k : Int) / w + p * mvy 0))
    ⟨((fpart w h p cs k 0).getD (atI w h ((k : Int) % w + p * mvx 0) ((k : Int) / w + p * mvy 0)) default).e + (cs.getD k default).e, ((fpart w h p cs k 0).getD (atI w h ((k : Int) % w + p * mvx 0) ((k : Int) / w + p * mvy 0)) default).n, ((fpart w h p cs k 0).getD (atI w h ((k : Int) % w + p * mvx 0) ((k : Int) / w + p * mvy 0)) default).w, ((fpart w h p cs k 0).getD (atI w h ((k : Int) % w + p * mvx 0) ((k : Int) / w + p * mvy 0)) default).s⟩ := by
  obtain ⟨h1, h2, h3⟩ := fpart_e hw hh hl p hk
  rw [at_shp, show p * mvx 0 = p from Int.mul_one p, show p * mvy 0 = 0 from Int.mul_zero p, h2, Int.zero_add, h3]
theorem push_n (p : Int) {k : Nat} (hk : k < cs.length) : fpart w h p cs k 2 = (fpart w h p cs k 1).set (atI w h ((k : Int) % w + p * mvx 1) ((k : Int) / w + p * mvy 1))
    ⟨((fpart w h p cs k 1).getD (atI w h ((k : Int) % w + p * mvx 1) ((k : Int) / w + p * mvy 1)) default).e, ((fpart w h p cs k 1).getD (atI w h ((k : Int) % w + p * mvx 1) ((k : Int) / w + p * mvy 1)) default).n + (cs.getD k default).n, ((fpart w h p cs k 1).getD (atI w h ((k : Int) % w + p * mvx 1) ((k : Int) / w + p * mvy 1)) default).w, ((fpart w h p cs k 1).getD (atI w h ((k : Int) % w + p * mvx 1) ((k : Int) / w + p * mvy 1)) default).s⟩ := by
  obtain ⟨h1, h2, h3⟩ := fpart_n hw hh hl p hk
  rw [at_shp, show p * mvx 1 = 0 from Int.mul_zero p, show p * mvy 1 = p from Int.mul_one p, h2, Int.zero_add, h3]
theorem push_w (p : Int) {k : Nat} (hk : k < cs.length) : fpart w h p cs k 3 = (fpart w h p cs k 2).set (atI w h ((k : Int) % w + p * mvx 2) ((k : Int) / w + p * mvy 2))
    ⟨((fpart w h p cs k 2).getD (atI w h ((k : Int) % w + p * mvx 2) ((k : Int) / w + p * mvy 2)) default).e, ((fpart w h p cs k 2).getD (atI w h ((k : Int) % w + p * mvx 2) ((k : Int) / w + p * mvy 2)) default).n, ((fpart w h p cs k 2).getD (atI w h ((k : Int) % w + p * mvx 2) ((k : Int) / w + p * mvy 2)) default).w + (cs.getD k default).w, ((fpart w h p cs k 2).getD (atI w h ((k : Int) % w + p * mvx 2) ((k : Int) / w + p * mvy 2)) default).s⟩ := by
  obtain ⟨h1, h2, h3⟩ := fpart_w hw hh hl p hk
  rw [at_shp, show p * mvx 2 = -p from (Int.mul_neg p 1).trans (by rw [Int.mul_one]), show p * mvy 2 = 0 from Int.mul_zero p, h2, Int.zero_add, h3]
theorem push_s (p : Int) {k : Nat} (hk : k < cs.length) : fpart w h p cs k 4 = (fpart w h p cs k 3).set (atI w h ((k : Int) % w + p * mvx 3) ((k : Int) / w + p * mvy 3))
    ⟨((fpart w h p cs k 3).getD (atI w h ((k : Int) % w + p * mvx 3) ((k : Int) / w + p * mvy 3)) default).e, ((fpart w h p cs k 3).getD (atI w h ((k : Int) % w + p * mvx 3) ((k : Int) / w + p * mvy 3)) default).n, ((fpart w h p cs k 3).getD (atI w h ((k : Int) % w + p * mvx 3) ((k : Int) / w + p * mvy 3)) default).w, ((fpart w h p cs k 3).getD (atI w h ((k : Int) % w + p * mvx 3) ((k : Int) / w + p * mvy 3)) default).s + (cs.getD k default).s⟩ := by
  obtain ⟨h1, h2, h3⟩ := fpart_s hw hh hl p hk
  rw [at_shp, show p * mvx 3 = 0 from Int.mul_zero p, show p * mvy 3 = -p from (Int.mul_neg p 1).trans (by rw [Int.mul_one]), h2, Int.zero_add, h3, fpart_next]
end
/-! ### Cells that are told one after the other -/
section
variable {w h p a b : Int} {cs : List Cel} {k : Nat} (hk : k < cs.length)
include hk
end
end Go.Sy

/- Steps of a grid: what they keep, how they are undone. -/
set_option linter.unusedSimpArgs false
set_option linter.unusedVariables false
set_option linter.unusedSectionVars false
namespace Go.Sy

/-! ### Sums over lists whose places are mixed -/
theorem perm_of_nodup {l m : List Nat} (hl : l.Nodup) (hs : ∀ x ∈ l, x ∈ m) (hn : m.length ≤ l.length) : l.Perm m := by
  induction l generalizing m with
  | nil =>
    have : m = [] := List.eq_nil_of_length_eq_zero (by simpa using hn)
    subst this; exact .nil
  | cons x l ih =>
    have hx : x ∈ m := hs x (by simp)
    have hnd := List.nodup_cons.1 hl
    have h1 := List.perm_cons_erase hx
    have hlen : m.length = (m.erase x).length + 1 := by have := h1.length_eq; simpa using this
    refine .trans (.cons x (ih hnd.2 (fun y hy => ?_) ?_)) h1.symm
    · have hne : y ≠ x := fun e => hnd.1 (e ▸ hy)
      exact (List.mem_erase_of_ne hne).2 (hs y (by simp [hy]))
    · simp only [List.length_cons] at hn; omega
theorem nodup_map {l : List Nat} {f : Nat → Nat} (hl : l.Nodup) (hf : ∀ x ∈ l, ∀ y ∈ l, f x = f y → x = y) : (l.map f).Nodup := by
  induction l with
  | nil => exact List.nodup_nil
  | cons x l ih =>
    have hnd := List.nodup_cons.1 hl
    rw [List.map_cons, List.nodup_cons]
    refine ⟨fun hm => ?_, ih hnd.2 fun a ha b hb => hf a (by simp [ha]) b (by simp [hb])⟩
    obtain ⟨y, hy, e⟩ := List.mem_map.1 hm
    have := hf y (by simp [hy]) x (by simp) e
    exact hnd.1 (this ▸ hy)
theorem perm_range {n : Nat} {f : Nat → Nat} (hlt : ∀ i, i < n → f i < n) (hf : ∀ i j, i < n → j < n → f i = f j → i = j) : ((List.range n).map f).Perm (List.range n) :=
  perm_of_nodup (nodup_map List.nodup_range fun x hx y hy => hf x y (List.mem_range.1 hx) (List.mem_range.1 hy))
    (fun x hx => by obtain ⟨i, hi, rfl⟩ := List.mem_map.1 hx; exact List.mem_range.2 (hlt i (List.mem_range.1 hi))) (by simp)
def sumI : List Int → Int
  | [] => 0
  | x :: xs => x + sumI xs
theorem sumI_perm {l m : List Int} (h : l.Perm m) : sumI l = sumI m := by
  induction h with
  | nil => rfl
  | cons x _ ih => simp only [sumI, ih]
  | swap x y l => simp only [sumI]; omega
  | trans _ _ h1 h2 => exact h1.trans h2
/-- One part of all cells. -/
def sumP (f : Cel → Int) (cs : List Cel) : Int := sumI (cs.map f)
theorem sums_eq : ∀ cs : List Cel, massL cs = sumP (·.e) cs + sumP (·.n) cs + sumP (·.w) cs + sumP (·.s) cs ∧ eastL cs = sumP (·.e) cs - sumP (·.w) cs ∧ northL cs = sumP (·.n) cs - sumP (·.s) cs
  | [] => by simp [massL, eastL, northL, sumP, sumI]
  | c :: cs => by
    have := sums_eq cs
    simp only [massL, eastL, northL, sumP, sumI, List.map_cons, Cel.m] at *
    omega
theorem sumP_tab (f : Cel → Int) (n : Nat) (g : Nat → Cel) : sumP f (tab n g) = sumI ((List.range n).map fun i => f (g i)) := by
  unfold sumP tab; rw [List.map_map]; rfl
theorem sumP_at (f : Cel → Int) (cs : List Cel) : sumP f cs = sumI ((List.range cs.length).map fun i => f (cs.getD i default)) := by
  rw [← sumP_tab, tab_self]
/-- Parts that come from elsewhere. -/
theorem sumP_mix (f : Cel → Int) (cs : List Cel) {σ : Nat → Nat} (hlt : ∀ i, i < cs.length → σ i < cs.length) (hf : ∀ i j, i < cs.length → j < cs.length → σ i = σ j → i = j) :
    sumI ((List.range cs.length).map fun i => f (cs.getD (σ i) default)) = sumP f cs := by
  rw [sumP_at f cs]
  have h := (perm_range hlt hf).map fun i => f (cs.getD i default)
  rw [List.map_map] at h
  exact sumI_perm h
section
variable {w h : Int} (hw : 0 < w) (hh : 0 < h) {cs : List Cel} (hl : (cs.length : Int) = w * h)
include hw hh hl
theorem sumP_shp (f : Cel → Int) (a b : Int) : sumI ((List.range cs.length).map fun i => f (cs.getD (shp w h a b i) default)) = sumP f cs :=
  sumP_mix f cs (fun i _ => by have := shp_lt hw hh a b i; omega) fun i j hi hj e => shp_inj hw hh (by omega) (by omega) e
theorem flow_sums (p : Int) : massL (flow w h p cs) = massL cs ∧ eastL (flow w h p cs) = eastL cs ∧ northL (flow w h p cs) = northL cs := by
  have e1 := sums_eq (flow w h p cs)
  have e2 := sums_eq cs
  have q1 : sumP (·.e) (flow w h p cs) = sumP (·.e) cs := (sumP_tab _ _ _).trans (sumP_shp hw hh hl (·.e) (-p) 0)
  have q2 : sumP (·.n) (flow w h p cs) = sumP (·.n) cs := (sumP_tab _ _ _).trans (sumP_shp hw hh hl (·.n) 0 (-p))
  have q3 : sumP (·.w) (flow w h p cs) = sumP (·.w) cs := (sumP_tab _ _ _).trans (sumP_shp hw hh hl (·.w) p 0)
  have q4 : sumP (·.s) (flow w h p cs) = sumP (·.s) cs := (sumP_tab _ _ _).trans (sumP_shp hw hh hl (·.s) 0 p)
  omega
end
/-- Cells none of whose parts is below 0. -/
def nnL (cs : List Cel) : Prop := ∀ c ∈ cs, 0 ≤ c.e ∧ 0 ≤ c.n ∧ 0 ≤ c.w ∧ 0 ≤ c.s
theorem nn_mass : ∀ {cs : List Cel}, nnL cs → 0 ≤ massL cs ∧ ∀ c ∈ cs, c.m ≤ massL cs
  | [], _ => by simp [massL]
  | c :: cs, h => by
    have h1 := h c (by simp)
    have h2 := nn_mass (cs := cs) fun x hx => h x (by simp [hx])
    simp only [massL, List.mem_cons, forall_eq_or_imp, Cel.m] at *
    exact ⟨by omega, by omega, fun x hx => by have := h2.2 x hx; omega⟩
theorem ok_of_nn {cs : List Cel} (h : nnL cs) (hm : massL cs ≤ 1000000000) : okL cs = true := okL_iff.2 fun c hc => by
  have h1 := h c hc
  have h2 := (nn_mass h).2 c hc
  rw [Cel.ok_iff]; unfold Cel.m at h2; omega
theorem okL_nn {cs : List Cel} (h : okL cs = true) : nnL cs := fun c hc => by have := Cel.ok_iff.1 (okL_iff.1 h c hc); omega
theorem okL_at {cs : List Cel} (h : okL cs = true) {i : Nat} (hi : i < cs.length) : (cs.getD i default).ok = true := okL_iff.1 h _ (getD_mem default hi)
theorem gok_mk {w h : Int} {cs : List Cel} (hs : 1 ≤ w ∧ w ≤ 64 ∧ 1 ≤ h ∧ h ≤ 64 ∧ w * h ≤ 1024) (hl : (cs.length : Int) = w * h) (hn : nnL cs) (hm : massL cs ≤ 1000000000) : (⟨w, h, cs⟩ : Grd).ok = true :=
  Grd.ok_iff.2 ⟨hs, hl, okL_iff.1 (ok_of_nn hn hm), hm⟩
theorem flow_nn {w h p : Int} {cs : List Cel} (hw : 0 < w) (hh : 0 < h) (hl : (cs.length : Int) = w * h) (hn : nnL cs) : nnL (flow w h p cs) := fun c hc => by
  obtain ⟨i, hi, rfl⟩ := tab_mem hc
  have lt : ∀ a b, shp w h a b i < cs.length := fun a b => by have := shp_lt hw hh a b i; omega
  have at_ : ∀ a b, 0 ≤ (cs.getD (shp w h a b i) default).e ∧ 0 ≤ (cs.getD (shp w h a b i) default).n ∧ 0 ≤ (cs.getD (shp w h a b i) default).w ∧ 0 ≤ (cs.getD (shp w h a b i) default).s := fun a b => hn _ (getD_mem default (lt a b))
  exact ⟨(at_ _ _).1, (at_ _ _).2.1, (at_ _ _).2.2.1, (at_ _ _).2.2.2⟩
/-- A grid streamed is a grid. -/
theorem gok_flow {g : Grd} (p : Int) (h : g.ok = true) : (⟨g.w, g.h, flow g.w g.h p g.cs⟩ : Grd).ok = true := by
  obtain ⟨h1, h2, h3, h4⟩ := Grd.ok_iff.1 h
  refine gok_mk h1 (by rw [flow_length]; exact h2) (flow_nn (by omega) (by omega) h2 (okL_nn (gok_okL h))) ?_
  rw [(flow_sums (by omega) (by omega) h2 p).1]; exact h4
theorem Cel.after_m {c : Cel} (r : Rul) : (c.after r).m = c.m ∧ (c.after r).e - (c.after r).w = c.e - c.w ∧ (c.after r).n - (c.after r).s = c.n - c.s := by
  simp only [Cel.after, Cel.placed, Cel.m]; omega
def aft (r : Rul) (cs : List Cel) : List Cel := cs.map fun c => c.after r
/-! ### Steps -/
def Grd.step (g : Grd) (r : Rul) : Grd := ⟨g.w, g.h, flow g.w g.h 1 (aft r g.cs)⟩
def Grd.back (g : Grd) (r : Rul) : Grd := ⟨g.w, g.h, aft r.inv (flow g.w g.h (-1) g.cs)⟩
/-- So many steps, from t on. -/
def Grd.run (l : List Rul) : Grd → Nat → Nat → Grd
  | g, _, 0 => g
  | g, t, n + 1 => (Grd.run l g t n).step (l.getD ((t + n) % l.length) default)
/-! ### What streaming a grid tells -/
def streamG (p : Int) (g : Grd) : Grd := if g.ok then ⟨g.w, g.h, flow g.w g.h p g.cs⟩ else ⟨0, 0, []⟩
theorem stream_ways (g : Grd) (p : Int) : (g.ok = false ∧ g.err = 1 ∧ streamG p g = ⟨0, 0, []⟩) ∨ (g.ok = true ∧ g.err = 0 ∧ streamG p g = ⟨g.w, g.h, flow g.w g.h p g.cs⟩ ∧ 1 ≤ g.cs.length ∧ g.cs.length ≤ 1024) := by
  cases h : g.ok
  · exact .inl ⟨rfl, by simp [Grd.err, h], by simp [streamG, h]⟩
  · have := gok_bds h
    exact .inr ⟨rfl, by simp [Grd.err, h], by simp [streamG, h], by omega⟩
end Go.Sy
