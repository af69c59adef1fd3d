/- Grids: what the functions on them come to, in lists of cells. -/
import Derived.Test.YtkpffldbdbjcbaaGreatSyK
import Derived.Test.YtkpffldbdbjcbaaGreatSpOrder
set_option linter.unusedSimpArgs false
set_option linter.unusedVariables false
namespace Go.Sy

def Cel.m (c : Cel) : Int := c.e + c.n + c.w + c.s
def massL : List Cel → Int
  | [] => 0
  | c :: cs => c.m + massL cs
def eastL : List Cel → Int
  | [] => 0
  | c :: cs => (c.e - c.w) + eastL cs
def northL : List Cel → Int
  | [] => 0
  | c :: cs => (c.n - c.s) + northL cs
/-- All cells are valid, and the masses, from m on, stay within bounds. -/
def okFrom : List Cel → Int → Bool
  | [], _ => true
  | c :: cs, m => c.ok && (decide (m + c.m ≤ 1000000000) && okFrom cs (m + c.m))
def sidesB (w h : Int) : Bool := decide (1 ≤ w ∧ w ≤ 64 ∧ 1 ≤ h ∧ h ≤ 64 ∧ w * h ≤ 1024)
def Grd.ok (g : Grd) : Bool := sidesB g.w g.h && (decide ((g.cs.length : Int) = g.w * g.h) && okFrom g.cs 0)
def sidesN (w h n : Int) : Bool := decide (1 ≤ w ∧ w ≤ 64 ∧ 1 ≤ h ∧ h ≤ 64 ∧ w * h ≤ 1024 ∧ n = w * h)
def Grd.none : Grd := ⟨0, 0, []⟩

theorem drop_cons {α : Type} (xs : List α) (d : α) {k : Nat} (h : k < xs.length) : xs.drop k = xs.getD k d :: xs.drop (k + 1) := by
  rw [List.drop_eq_getElem_cons h]; simp [h]
theorem take_snoc {α : Type} (xs : List α) (d : α) {k : Nat} (h : k < xs.length) : xs.take (k + 1) = xs.take k ++ [xs.getD k d] := by
  rw [List.take_succ_eq_append_getElem h]; simp [h]
theorem massL_app : ∀ (xs ys : List Cel), massL (xs ++ ys) = massL xs + massL ys
  | [], ys => by simp [massL]
  | x :: xs, ys => by simp only [List.cons_append, massL, massL_app xs ys]; omega
theorem Cel.m_ok {c : Cel} (h : c.ok = true) : 0 ≤ c.m ∧ c.m ≤ 1000000000 := by
  have := Cel.ok_iff.1 h; unfold Cel.m; omega
theorem okFrom_iff : ∀ (cs : List Cel) (m : Int), 0 ≤ m → m ≤ 1000000000 → (okFrom cs m = true ↔ (∀ c ∈ cs, c.ok = true) ∧ m + massL cs ≤ 1000000000)
  | [], m, h, h1 => by simp [okFrom, massL]; exact h1
  | c :: cs, m, h, h1 => by
    simp only [okFrom, Bool.and_eq_true, decide_eq_true_eq, List.forall_mem_cons, massL]
    constructor
    · rintro ⟨a, b, d⟩
      have := Cel.m_ok a
      have := (okFrom_iff cs (m + c.m) (by omega) b).1 d
      exact ⟨⟨a, this.1⟩, by omega⟩
    · rintro ⟨⟨a, b⟩, d⟩
      have h2 := Cel.m_ok a
      have h3 : 0 ≤ massL cs := by
        clear d
        induction cs with
        | nil => simp [massL]
        | cons x xs ih => have := Cel.m_ok (b x (by simp)); have := ih fun c hc => b c (by simp [hc]); simp only [massL]; omega
      exact ⟨a, by omega, (okFrom_iff cs (m + c.m) (by omega) (by omega)).2 ⟨b, by omega⟩⟩
theorem massL_nonneg : ∀ {cs : List Cel}, (∀ c ∈ cs, c.ok = true) → 0 ≤ massL cs
  | [], _ => by simp [massL]
  | c :: cs, h => by
    have := Cel.m_ok (h c (by simp))
    have := massL_nonneg fun x hx => h x (List.mem_cons_of_mem c hx)
    simp only [massL]; omega
theorem Grd.ok_iff {g : Grd} : g.ok = true ↔ (1 ≤ g.w ∧ g.w ≤ 64 ∧ 1 ≤ g.h ∧ g.h ≤ 64 ∧ g.w * g.h ≤ 1024) ∧ (g.cs.length : Int) = g.w * g.h ∧ (∀ c ∈ g.cs, c.ok = true) ∧ massL g.cs ≤ 1000000000 := by
  unfold Grd.ok sidesB
  simp only [Bool.and_eq_true, decide_eq_true_eq, okFrom_iff g.cs 0 (by omega) (by omega), Int.zero_add]
theorem getD_mem {α : Type} {xs : List α} {k : Nat} (d : α) (h : k < xs.length) : xs.getD k d ∈ xs := by simp [h]

/-! ### Lists that are filled one by one -/
def prog {α : Type} [Inhabited α] (f : Nat → α) (k : Nat) (xs : List α) : List α := (List.range xs.length).map fun j => if j < k then f j else xs.getD j default
theorem prog_length {α : Type} [Inhabited α] (f : Nat → α) (k : Nat) (xs : List α) : (prog f k xs).length = xs.length := by simp [prog]
theorem prog_getD {α : Type} [Inhabited α] (f : Nat → α) (k : Nat) (xs : List α) {j : Nat} (hj : j < xs.length) : (prog f k xs).getD j default = if j < k then f j else xs.getD j default := by
  simp [prog, List.getD, hj]
theorem prog_zero {α : Type} [Inhabited α] (f : Nat → α) (xs : List α) : prog f 0 xs = xs := by
  apply List.ext_getElem?
  intro j
  by_cases hj : j < xs.length
  · simp [prog, hj]
  · simp [prog, hj]
theorem prog_set {α : Type} [Inhabited α] (f : Nat → α) (k : Nat) (xs : List α) {v : α} (hv : v = f k) : (prog f k xs).set k v = prog f (k + 1) xs := by
  subst hv
  apply List.ext_getElem?
  intro j
  rw [List.getElem?_set]
  by_cases hkj : k = j
  · subst hkj
    by_cases hk : k < xs.length
    · simp [prog, hk]
    · simp [prog, hk]
  · rw [if_neg hkj]
    by_cases hj : j < xs.length
    · have : (j < k) ↔ (j < k + 1) := by omega
      simp [prog, hj, this]
    · simp [prog, hj]
theorem prog_full {α : Type} [Inhabited α] (f : Nat → α) {k : Nat} (xs : List α) (hk : xs.length ≤ k) : prog f k xs = (List.range xs.length).map f := by
  unfold prog
  refine List.map_congr_left fun j hj => ?_
  have := List.mem_range.1 hj
  rw [if_pos (by omega)]
/-- What a grid's mass and momentum are told as. -/
def Grd.err (g : Grd) : Int := if g.ok then 0 else 1
def Grd.mass (g : Grd) : Int := if g.ok then massL g.cs else 0
def Grd.east (g : Grd) : Int := if g.ok then eastL g.cs else 0
def Grd.north (g : Grd) : Int := if g.ok then northL g.cs else 0
theorem okFrom_drop {cs : List Cel} {m : Int} {k : Nat} (hk : k < cs.length) : okFrom (cs.drop k) m = ((cs.getD k default).ok && (decide (m + (cs.getD k default).m ≤ 1000000000) && okFrom (cs.drop (k + 1)) (m + (cs.getD k default).m))) := by
  rw [drop_cons cs default hk]; rfl
theorem sidesN_f {w h n : Int} (q : ¬ (1 ≤ w ∧ w ≤ 64 ∧ 1 ≤ h ∧ h ≤ 64 ∧ w * h ≤ 1024 ∧ n = w * h)) : sidesN w h n = false := decide_eq_false q
theorem sidesN_e {w h n : Int} (q : 1 ≤ w ∧ w ≤ 64 ∧ 1 ≤ h ∧ h ≤ 64 ∧ w * h ≤ 1024) : sidesN w h n = decide (n = w * h) := by
  unfold sidesN; exact decide_eq_decide.2 (by omega)
theorem gok_f {g : Grd} (q : ¬ (1 ≤ g.w ∧ g.w ≤ 64 ∧ 1 ≤ g.h ∧ g.h ≤ 64 ∧ g.w * g.h ≤ 1024 ∧ (g.cs.length : Int) = g.w * g.h)) : g.ok = false := by
  cases h : g.ok with
  | false => rfl
  | true => exact absurd (by obtain ⟨h1, h2, _⟩ := Grd.ok_iff.1 h; omega) q
theorem gok_start {g : Grd} (q : 1 ≤ g.w ∧ g.w ≤ 64 ∧ 1 ≤ g.h ∧ g.h ≤ 64 ∧ g.w * g.h ≤ 1024 ∧ (g.cs.length : Int) = g.w * g.h) : g.ok = okFrom (g.cs.drop 0) 0 := by
  unfold Grd.ok sidesB
  rw [decide_eq_true (by omega), decide_eq_true q.2.2.2.2.2]; rfl
theorem gok_end {g : Grd} {k : Nat} {m : Int} (hk : g.cs.length ≤ k) (h : g.ok = okFrom (g.cs.drop k) m) : g.ok = true := by
  rw [h, List.drop_eq_nil_of_le hk]; rfl
theorem Cel.mass_bd (c : Cel) : 0 ≤ c.mass.1 ∧ c.mass.1 ≤ 1000000000 ∧ (c.mass.2 = 0 ∨ c.mass.2 = 1) := by
  unfold Cel.mass
  split
  · rename_i h; have := Cel.ok_iff.1 h; refine ⟨?_, ?_, .inl rfl⟩ <;> simp only <;> omega
  · simp
theorem Cel.mass_2 {c : Cel} : (c.mass.2 = 0 → c.ok = true ∧ c.mass.1 = c.m) ∧ (c.mass.2 ≠ 0 → c.ok = false) := by
  unfold Cel.mass Cel.m
  cases c.ok <;> simp
theorem gok_bad {g : Grd} {k : Nat} {m : Int} (hk : k < g.cs.length) (h : g.ok = okFrom (g.cs.drop k) m) (hq : (g.cs.getD k default).mass.2 ≠ 0 ∨ 1000000000 < m + (g.cs.getD k default).mass.1) : g.ok = false := by
  rw [h, okFrom_drop hk]
  obtain ⟨h1, h2⟩ := Cel.mass_2 (c := g.cs.getD k default)
  by_cases hz : (g.cs.getD k default).mass.2 = 0
  · obtain ⟨h3, h4⟩ := h1 hz
    have : ¬ (m + (g.cs.getD k default).m ≤ 1000000000) := by rw [← h4]; omega
    rw [decide_eq_false this]; simp
  · rw [h2 hz]; rfl
theorem gok_next {g : Grd} {k : Nat} {m : Int} (hk : k < g.cs.length) (h : g.ok = okFrom (g.cs.drop k) m) (hq : (g.cs.getD k default).mass.2 = 0) (h2 : m + (g.cs.getD k default).mass.1 ≤ 1000000000) : g.ok = okFrom (g.cs.drop (k + 1)) (m + (g.cs.getD k default).mass.1) := by
  obtain ⟨h3, h4⟩ := (Cel.mass_2 (c := g.cs.getD k default)).1 hq
  rw [h, okFrom_drop hk, h3, ← h4, decide_eq_true h2]; rfl
def okL (l : List Cel) : Bool := l.all Cel.ok
theorem okL_iff {l : List Cel} : okL l = true ↔ ∀ c ∈ l, c.ok = true := List.all_eq_true
theorem okL_snoc {l : List Cel} {k : Nat} (h : okL (l.take k) = true) (hk : k < l.length) (ho : (l.getD k default).ok = true) : okL (l.take (k + 1)) = true := by
  rw [take_snoc l default hk]
  unfold okL at *
  rw [List.all_append, h]; simpa using ho
theorem okL_end {l : List Cel} {k : Nat} (h : okL (l.take k) = true) (hk : l.length ≤ k) : okL l = true := by rwa [List.take_of_length_le hk] at h
theorem okL_bad {l : List Cel} {k : Nat} (hk : k < l.length) (ho : (l.getD k default).ok = false) : okL l = false := by
  cases h : okL l with
  | false => rfl
  | true => have := okL_iff.1 h _ (getD_mem default hk); rw [ho] at this; cases this
theorem gok_okL {g : Grd} (h : g.ok = true) : okL g.cs = true := okL_iff.2 (Grd.ok_iff.1 h).2.2.1
theorem gok_bad2 {g : Grd} (h : okL g.cs = false) : g.ok = false := by
  cases q : g.ok with
  | false => rfl
  | true => rw [gok_okL q] at h; cases h
theorem gok_last {g : Grd} (q : sidesN g.w g.h g.cs.length = true) (h : okL g.cs = true) : g.ok = decide (massL g.cs ≤ 1000000000) := by
  rw [Bool.eq_iff_iff, Grd.ok_iff, decide_eq_true_eq]
  have q := of_decide_eq_true q
  exact ⟨fun x => x.2.2.2, fun x => ⟨by omega, q.2.2.2.2.2, okL_iff.1 h, x⟩⟩
theorem gok_sides {g : Grd} (q : sidesN g.w g.h g.cs.length = false) : g.ok = false := by
  cases h : g.ok with
  | false => rfl
  | true =>
    obtain ⟨h1, h2, _⟩ := Grd.ok_iff.1 h
    have := of_decide_eq_false q
    omega
theorem gok_bds {g : Grd} (h : g.ok = true) : 1 ≤ g.w ∧ g.w ≤ 64 ∧ 1 ≤ g.h ∧ g.h ≤ 64 ∧ g.w * g.h ≤ 1024 ∧ (g.cs.length : Int) = g.w * g.h ∧ g.cs.length ≤ 1024 ∧ 1 ≤ g.cs.length ∧ 0 ≤ massL g.cs ∧ massL g.cs ≤ 1000000000 := by
  obtain ⟨h1, h2, h3, h4⟩ := Grd.ok_iff.1 h
  have hm := mul_bd h1.1 h1.2.1 h1.2.2.1 h1.2.2.2.1
  have := massL_nonneg h3
  omega

/-! ### Lists that are the same -/
/-! ### Grids added -/
end Go.Sy
