/- Grids: what the functions on them come to, in lists of cells. -/
import Derived.Test.YtijealodlgdgaaaSyK
import Derived.Test.YtijealodlgdgaaaSpAdd
set_option linter.unusedSimpArgs false
set_option linter.unusedVariables false
namespace Go.Sy

def Cel.m (c : Cel) : Int := c.e + c.n + c.w + c.s
def massL : List Cel → Int
  | [] => 0
  | c :: cs => c.m + massL cs
def eastL : List Cel → Int
  | [] => 0
  | c :: cs => (c.e - c.w) + eastL cs
def northL : List Cel → Int
  | [] => 0
  | c :: cs => (c.n - c.s) + northL cs
/-- All cells are valid, and the masses, from m on, stay within bounds. -/
def okFrom : List Cel → Int → Bool
  | [], _ => true
  | c :: cs, m => c.ok && (decide (m + c.m ≤ 1000000000) && okFrom cs (m + c.m))
def sidesB (w h : Int) : Bool := decide (1 ≤ w ∧ w ≤ 64 ∧ 1 ≤ h ∧ h ≤ 64 ∧ w * h ≤ 1024)
def Grd.ok (g : Grd) : Bool := sidesB g.w g.h && (decide ((g.cs.length : Int) = g.w * g.h) && okFrom g.cs 0)
def sidesN (w h n : Int) : Bool := decide (1 ≤ w ∧ w ≤ 64 ∧ 1 ≤ h ∧ h ≤ 64 ∧ w * h ≤ 1024 ∧ n = w * h)
def Grd.none : Grd := ⟨0, 0, []⟩

theorem drop_cons {α : Type} (xs : List α) (d : α) {k : Nat} (h : k < xs.length) : xs.drop k = xs.getD k d :: xs.drop (k + 1) := by
  rw [List.drop_eq_getElem_cons h]; simp [h]
theorem take_snoc {α : Type} (xs : List α) (d : α) {k : Nat} (h : k < xs.length) : xs.take (k + 1) = xs.take k ++ [xs.getD k d] := by
  rw [List.take_succ_eq_append_getElem h]; simp [h]
theorem massL_app : ∀ (xs ys : List Cel), massL (xs ++ ys) = massL xs + massL ys
  | [], ys => by simp [massL]
  | x :: xs, ys => by simp only [List.cons_append, massL, massL_app xs ys]; omega
theorem eastL_app : ∀ (xs ys : List Cel), eastL (xs ++ ys) = eastL xs + eastL ys
  | [], ys => by simp [eastL]
  | x :: xs, ys => by simp only [List.cons_append, eastL, eastL_app xs ys]; omega
theorem northL_app : ∀ (xs ys : List Cel), northL (xs ++ ys) = northL xs + northL ys
  | [], ys => by simp [northL]
  | x :: xs, ys => by simp only [List.cons_append, northL, northL_app xs ys]; omega
theorem Cel.m_ok {c : Cel} (h : c.ok = true) : 0 ≤ c.m ∧ c.m ≤ 1000000000 := by
  have := Cel.ok_iff.1 h; unfold Cel.m; omega
theorem okFrom_iff : ∀ (cs : List Cel) (m : Int), 0 ≤ m → m ≤ 1000000000 → (okFrom cs m = true ↔ (∀ c ∈ cs, c.ok = true) ∧ m + massL cs ≤ 1000000000)
  | [], m, h, h1 => by simp [okFrom, massL]; exact h1
  | c :: cs, m, h, h1 => by
    simp only [okFrom, Bool.and_eq_true, decide_eq_true_eq, List.forall_mem_cons, massL]
    constructor
    · rintro ⟨a, b, d⟩
      have := Cel.m_ok a
      have := (okFrom_iff cs (m + c.m) (by omega) b).1 d
      exact ⟨⟨a, this.1⟩, by omega⟩
    · rintro ⟨⟨a, b⟩, d⟩
      have h2 := Cel.m_ok a
      have h3 : 0 ≤ massL cs := by
        clear d
        induction cs with
        | nil => simp [massL]
        | cons x xs ih => have := Cel.m_ok (b x (by simp)); have := ih fun c hc => b c (by simp [hc]); simp only [massL]; omega
      exact ⟨a, by omega, (okFrom_iff cs (m + c.m) (by omega) (by omega)).2 ⟨b, by omega⟩⟩
theorem massL_nonneg : ∀ {cs : List Cel}, (∀ c ∈ cs, c.ok = true) → 0 ≤ massL cs
  | [], _ => by simp [massL]
  | c :: cs, h => by
    have := Cel.m_ok (h c (by simp))
    have := massL_nonneg fun x hx => h x (List.mem_cons_of_mem c hx)
    simp only [massL]; omega
theorem Grd.ok_iff {g : Grd} : g.ok = true ↔ (1 ≤ g.w ∧ g.w ≤ 64 ∧ 1 ≤ g.h ∧ g.h ≤ 64 ∧ g.w * g.h ≤ 1024) ∧ (g.cs.length : Int) = g.w * g.h ∧ (∀ c ∈ g.cs, c.ok = true) ∧ massL g.cs ≤ 1000000000 := by
  unfold Grd.ok sidesB
  simp only [Bool.and_eq_true, decide_eq_true_eq, okFrom_iff g.cs 0 (by omega) (by omega), Int.zero_add]
theorem getD_mem {α : Type} {xs : List α} {k : Nat} (d : α) (h : k < xs.length) : xs.getD k d ∈ xs := by simp [h]

/-! ### Lists that are filled one by one -/
def prog {α : Type} [Inhabited α] (f : Nat → α) (k : Nat) (xs : List α) : List α := (List.range xs.length).map fun j => if j < k then f j else xs.getD j default
theorem prog_length {α : Type} [Inhabited α] (f : Nat → α) (k : Nat) (xs : List α) : (prog f k xs).length = xs.length := by simp [prog]
theorem prog_getD {α : Type} [Inhabited α] (f : Nat → α) (k : Nat) (xs : List α) {j : Nat} (hj : j < xs.length) : (prog f k xs).getD j default = if j < k then f j else xs.getD j default := by
  simp [prog, List.getD, hj]
theorem prog_zero {α : Type} [Inhabited α] (f : Nat → α) (xs : List α) : prog f 0 xs = xs := by
  apply List.ext_getElem?
  intro j
  by_cases hj : j < xs.length
  · simp [prog, hj]
  · simp [prog, hj]
theorem prog_set {α : Type} [Inhabited α] (f : Nat → α) (k : Nat) (xs : List α) {v : α} (hv : v = f k) : (prog f k xs).set k v = prog f (k + 1) xs := by
  subst hv
  apply List.ext_getElem?
  intro j
  rw [List.getElem?_set]
  by_cases hkj : k = j
  · subst hkj
    by_cases hk : k < xs.length
    · simp [prog, hk]
    · simp [prog, hk]
  · rw [if_neg hkj]
    by_cases hj : j < xs.length
    · have : (j < k) ↔ (j < k + 1) := by omega
      simp [prog, hj, this]
    · simp [prog, hj]
theorem prog_full {α : Type} [Inhabited α] (f : Nat → α) {k : Nat} (xs : List α) (hk : xs.length ≤ k) : prog f k xs = (List.range xs.length).map f := by
  unfold prog
  refine List.map_congr_left fun j hj => ?_
  have := List.mem_range.1 hj
  rw [if_pos (by omega)]
theorem set_getD_same {α : Type} (xs : List α) {k : Nat} (v d : α) (hk : k < xs.length) : (xs.set k v).getD k d = v := by simp [List.getD, hk]

/-- What a grid's mass and momentum are told as. -/
def Grd.err (g : Grd) : Int := if g.ok then 0 else 1
def Grd.mass (g : Grd) : Int := if g.ok then massL g.cs else 0
def Grd.east (g : Grd) : Int := if g.ok then eastL g.cs else 0
def Grd.north (g : Grd) : Int := if g.ok then northL g.cs else 0
theorem mom_bd : ∀ {cs : List Cel}, (∀ c ∈ cs, c.ok = true) → -(massL cs) ≤ eastL cs ∧ eastL cs ≤ massL cs ∧ -(massL cs) ≤ northL cs ∧ northL cs ≤ massL cs
  | [], _ => by simp [massL, eastL, northL]
  | c :: cs, h => by
    have h1 := Cel.ok_iff.1 (h c (by simp))
    have h2 := mom_bd fun x hx => h x (List.mem_cons_of_mem c hx)
    simp only [massL, eastL, northL, Cel.m]
    omega
theorem mass_le_take {cs : List Cel} (h : ∀ c ∈ cs, c.ok = true) (k : Nat) : 0 ≤ massL (cs.take k) ∧ massL (cs.take k) ≤ massL cs := by
  have e : massL cs = massL (cs.take k) + massL (cs.drop k) := by rw [← massL_app, List.take_append_drop]
  have h1 := massL_nonneg (cs := cs.take k) fun c hc => h c (List.mem_of_mem_take hc)
  have h2 := massL_nonneg (cs := cs.drop k) fun c hc => h c (List.mem_of_mem_drop hc)
  omega
theorem mass_len : ∀ {cs : List Cel}, (∀ c ∈ cs, c.ok = true) → massL cs ≤ 1000000000 * cs.length
  | [], _ => by simp [massL]
  | c :: cs, h => by
    have h1 := Cel.m_ok (h c (by simp))
    have h2 := mass_len fun x hx => h x (List.mem_cons_of_mem c hx)
    simp only [massL, List.length_cons]
    omega
/-- What is known of the cells up to some place. -/
theorem step_sums {cs : List Cel} (h : ∀ c ∈ cs, c.ok = true) {k : Nat} (hk : k < cs.length) :
    massL (cs.take (k + 1)) = massL (cs.take k) + (cs.getD k default).m ∧ eastL (cs.take (k + 1)) = eastL (cs.take k) + ((cs.getD k default).e - (cs.getD k default).w) ∧
    northL (cs.take (k + 1)) = northL (cs.take k) + ((cs.getD k default).n - (cs.getD k default).s) ∧ (cs.getD k default).ok = true ∧ 0 ≤ massL (cs.take k) ∧ massL (cs.take k) ≤ 1000000000 * k ∧
    -(massL (cs.take k)) ≤ eastL (cs.take k) ∧ eastL (cs.take k) ≤ massL (cs.take k) ∧ -(massL (cs.take k)) ≤ northL (cs.take k) ∧ northL (cs.take k) ≤ massL (cs.take k) := by
  have ht : ∀ c ∈ cs.take k, c.ok = true := fun c hc => h c (List.mem_of_mem_take hc)
  have h1 := mass_len ht
  have h2 := massL_nonneg ht
  have h3 := mom_bd ht
  rw [take_snoc cs default hk, massL_app, eastL_app, northL_app]
  simp only [massL, eastL, northL, List.length_take] at *
  refine ⟨by omega, by omega, by omega, h _ (getD_mem default hk), h2, ?_, h3⟩
  have : min k cs.length = k := by omega
  rw [this] at h1; exact h1
theorem okFrom_drop {cs : List Cel} {m : Int} {k : Nat} (hk : k < cs.length) : okFrom (cs.drop k) m = ((cs.getD k default).ok && (decide (m + (cs.getD k default).m ≤ 1000000000) && okFrom (cs.drop (k + 1)) (m + (cs.getD k default).m))) := by
  rw [drop_cons cs default hk]; rfl
theorem sidesN_f {w h n : Int} (q : ¬ (1 ≤ w ∧ w ≤ 64 ∧ 1 ≤ h ∧ h ≤ 64 ∧ w * h ≤ 1024 ∧ n = w * h)) : sidesN w h n = false := decide_eq_false q
theorem sidesN_e {w h n : Int} (q : 1 ≤ w ∧ w ≤ 64 ∧ 1 ≤ h ∧ h ≤ 64 ∧ w * h ≤ 1024) : sidesN w h n = decide (n = w * h) := by
  unfold sidesN; exact decide_eq_decide.2 (by omega)
theorem gok_f {g : Grd} (q : ¬ (1 ≤ g.w ∧ g.w ≤ 64 ∧ 1 ≤ g.h ∧ g.h ≤ 64 ∧ g.w * g.h ≤ 1024 ∧ (g.cs.length : Int) = g.w * g.h)) : g.ok = false := by
  cases h : g.ok with
  | false => rfl
  | true => exact absurd (by obtain ⟨h1, h2, _⟩ := Grd.ok_iff.1 h; omega) q
theorem gok_start {g : Grd} (q : 1 ≤ g.w ∧ g.w ≤ 64 ∧ 1 ≤ g.h ∧ g.h ≤ 64 ∧ g.w * g.h ≤ 1024 ∧ (g.cs.length : Int) = g.w * g.h) : g.ok = okFrom (g.cs.drop 0) 0 := by
  unfold Grd.ok sidesB
  rw [decide_eq_true (by omega), decide_eq_true q.2.2.2.2.2]; rfl
theorem gok_end {g : Grd} {k : Nat} {m : Int} (hk : g.cs.length ≤ k) (h : g.ok = okFrom (g.cs.drop k) m) : g.ok = true := by
  rw [h, List.drop_eq_nil_of_le hk]; rfl
theorem Cel.mass_bd (c : Cel) : 0 ≤ c.mass.1 ∧ c.mass.1 ≤ 1000000000 ∧ (c.mass.2 = 0 ∨ c.mass.2 = 1) := by
  unfold Cel.mass
  split
  · rename_i h; have := Cel.ok_iff.1 h; refine ⟨?_, ?_, .inl rfl⟩ <;> simp only <;> omega
  · simp
theorem Cel.mass_2 {c : Cel} : (c.mass.2 = 0 → c.ok = true ∧ c.mass.1 = c.m) ∧ (c.mass.2 ≠ 0 → c.ok = false) := by
  unfold Cel.mass Cel.m
  cases c.ok <;> simp
theorem gok_bad {g : Grd} {k : Nat} {m : Int} (hk : k < g.cs.length) (h : g.ok = okFrom (g.cs.drop k) m) (hq : (g.cs.getD k default).mass.2 ≠ 0 ∨ 1000000000 < m + (g.cs.getD k default).mass.1) : g.ok = false := by
  rw [h, okFrom_drop hk]
  obtain ⟨h1, h2⟩ := Cel.mass_2 (c := g.cs.getD k default)
  by_cases hz : (g.cs.getD k default).mass.2 = 0
  · obtain ⟨h3, h4⟩ := h1 hz
    have : ¬ (m + (g.cs.getD k default).m ≤ 1000000000) := by rw [← h4]; omega
    rw [decide_eq_false this]; simp
  · rw [h2 hz]; rfl
theorem gok_next {g : Grd} {k : Nat} {m : Int} (hk : k < g.cs.length) (h : g.ok = okFrom (g.cs.drop k) m) (hq : (g.cs.getD k default).mass.2 = 0) (h2 : m + (g.cs.getD k default).mass.1 ≤ 1000000000) : g.ok = okFrom (g.cs.drop (k + 1)) (m + (g.cs.getD k default).mass.1) := by
  obtain ⟨h3, h4⟩ := (Cel.mass_2 (c := g.cs.getD k default)).1 hq
  rw [h, okFrom_drop hk, h3, ← h4, decide_eq_true h2]; rfl
def okL (l : List Cel) : Bool := l.all Cel.ok
theorem okL_iff {l : List Cel} : okL l = true ↔ ∀ c ∈ l, c.ok = true := List.all_eq_true
theorem okL_snoc {l : List Cel} {k : Nat} (h : okL (l.take k) = true) (hk : k < l.length) (ho : (l.getD k default).ok = true) : okL (l.take (k + 1)) = true := by
  rw [take_snoc l default hk]
  unfold okL at *
  rw [List.all_append, h]; simpa using ho
theorem okL_end {l : List Cel} {k : Nat} (h : okL (l.take k) = true) (hk : l.length ≤ k) : okL l = true := by rwa [List.take_of_length_le hk] at h
theorem okL_bad {l : List Cel} {k : Nat} (hk : k < l.length) (ho : (l.getD k default).ok = false) : okL l = false := by
  cases h : okL l with
  | false => rfl
  | true => have := okL_iff.1 h _ (getD_mem default hk); rw [ho] at this; cases this
theorem gok_okL {g : Grd} (h : g.ok = true) : okL g.cs = true := okL_iff.2 (Grd.ok_iff.1 h).2.2.1
theorem gok_bad2 {g : Grd} (h : okL g.cs = false) : g.ok = false := by
  cases q : g.ok with
  | false => rfl
  | true => rw [gok_okL q] at h; cases h
theorem gok_last {g : Grd} (q : sidesN g.w g.h g.cs.length = true) (h : okL g.cs = true) : g.ok = decide (massL g.cs ≤ 1000000000) := by
  rw [Bool.eq_iff_iff, Grd.ok_iff, decide_eq_true_eq]
  have q := of_decide_eq_true q
  exact ⟨fun x => x.2.2.2, fun x => ⟨by omega, q.2.2.2.2.2, okL_iff.1 h, x⟩⟩
theorem gok_sides {g : Grd} (q : sidesN g.w g.h g.cs.length = false) : g.ok = false := by
  cases h : g.ok with
  | false => rfl
  | true =>
    obtain ⟨h1, h2, _⟩ := Grd.ok_iff.1 h
    have := of_decide_eq_false q
    omega
theorem Grd.tell_t {g : Grd} (h : g.ok = true) : g.err = 0 ∧ g.mass = massL g.cs ∧ g.east = eastL g.cs ∧ g.north = northL g.cs := by simp [Grd.err, Grd.mass, Grd.east, Grd.north, h]
theorem Grd.tell_f {g : Grd} (h : g.ok = false) : g.err = 1 ∧ g.mass = 0 ∧ g.east = 0 ∧ g.north = 0 := by simp [Grd.err, Grd.mass, Grd.east, Grd.north, h]
theorem gtell (g : Grd) : (g.ok = false ∧ g.err = 1 ∧ g.mass = 0 ∧ g.east = 0 ∧ g.north = 0) ∨ (g.ok = true ∧ g.err = 0 ∧ g.mass = massL g.cs ∧ g.east = eastL g.cs ∧ g.north = northL g.cs) := by
  cases h : g.ok
  · exact .inl ⟨rfl, Grd.tell_f h⟩
  · exact .inr ⟨rfl, Grd.tell_t h⟩
theorem gok_bds {g : Grd} (h : g.ok = true) : 1 ≤ g.w ∧ g.w ≤ 64 ∧ 1 ≤ g.h ∧ g.h ≤ 64 ∧ g.w * g.h ≤ 1024 ∧ (g.cs.length : Int) = g.w * g.h ∧ g.cs.length ≤ 1024 ∧ 1 ≤ g.cs.length ∧ 0 ≤ massL g.cs ∧ massL g.cs ≤ 1000000000 := by
  obtain ⟨h1, h2, h3, h4⟩ := Grd.ok_iff.1 h
  have hm := mul_bd h1.1 h1.2.1 h1.2.2.1 h1.2.2.2.1
  have := massL_nonneg h3
  omega

/-! ### Lists that are the same -/
theorem same_f1 {a b : List Cel} (h : a.length ≠ b.length) : decide (a = b) = false := decide_eq_false fun e => h (by rw [e])
theorem same_t {a b : List Cel} {k : Nat} (hl : a.length = b.length) (h : a.take k = b.take k) (hk : a.length ≤ k) : decide (a = b) = true := by
  rw [List.take_of_length_le hk, List.take_of_length_le (by omega)] at h; simpa using h
theorem same_f2 {a b : List Cel} {k : Nat} (ha : k < a.length) (hb : k < b.length) (h : ¬ (a.getD k default = b.getD k default)) : decide (a = b) = false := decide_eq_false fun e => h (by rw [e])
theorem same_next {a b : List Cel} {k : Nat} (ha : k < a.length) (hb : k < b.length) (h : a.take k = b.take k) (he : a.getD k default = b.getD k default) : a.take (k + 1) = b.take (k + 1) := by
  rw [take_snoc a default ha, take_snoc b default hb, h, he]
theorem Cel.ext4 {a b : Cel} (h : a.e = b.e ∧ a.n = b.n ∧ a.w = b.w ∧ a.s = b.s) : a = b := by
  obtain ⟨a1, a2, a3, a4⟩ := a
  obtain ⟨b1, b2, b3, b4⟩ := b
  simp only at h
  obtain ⟨rfl, rfl, rfl, rfl⟩ := h
  rfl
theorem Cel.ne4 {a b : Cel} (h : a.e ≠ b.e ∨ a.n ≠ b.n ∨ a.w ≠ b.w ∨ a.s ≠ b.s) : ¬ a = b := by
  rintro rfl
  simp at h
/-! ### Grids added -/
def addC (xs ys : List Cel) : List Cel := (List.range xs.length).map fun j => (xs.getD j default).add (ys.getD j default)
def addE (a b : Grd) : Int := if a.ok && b.ok then (if a.w = b.w ∧ a.h = b.h then (if massL (addC a.cs b.cs) ≤ 1000000000 then 0 else 4) else 9) else 1
def addG (a b : Grd) : Grd := if addE a b = 0 then ⟨a.w, a.h, addC a.cs b.cs⟩ else ⟨0, 0, []⟩
end Go.Sy
