/- Two cells exchange along a line. -/
import Derived.Test.YtokeaplbmlpkdaaGreatSpOrder
import Derived.Test.YtokeaplbmlpkdaaGreatSyK
set_option linter.unusedSimpArgs false
set_option linter.unusedVariables false
namespace Go.Sy
/-- What meets: what goes one way and the other one. -/
def meetC (a b : Cel) (k : Int) : Cel := if k = 0 then ⟨a.e, a.w, b.w, b.e⟩ else ⟨a.n, a.s, b.s, b.n⟩
def backA (a d : Cel) (k : Int) : Cel := if k = 0 then ⟨d.e, a.n, d.n, a.s⟩ else ⟨a.e, d.e, a.w, d.n⟩
def backB (b d : Cel) (k : Int) : Cel := if k = 0 then ⟨d.s, b.n, d.w, b.s⟩ else ⟨b.e, d.s, b.w, d.w⟩
def xchA (a b : Cel) (r : Rul) (k : Int) : Cel := backA a ((meetC a b k).after r) k
def xchB (a b : Cel) (r : Rul) (k : Int) : Cel := backB b ((meetC a b k).after r) k
def xcE (a b : Cel) (r : Rul) (k : Int) : Int := if a.ok && b.ok && r.ok then (if k = 0 ∨ k = 1 then (if (a.add b).ok then 0 else 4) else 7) else 1
def xcA (a b : Cel) (r : Rul) (k : Int) : Cel := if xcE a b r k = 0 then xchA a b r k else Cel.zero
def xcB (a b : Cel) (r : Rul) (k : Int) : Cel := if xcE a b r k = 0 then xchB a b r k else Cel.zero
theorem xcE_iff {a b : Cel} {r : Rul} {k : Int} : xcE a b r k = 0 ↔ a.ok = true ∧ b.ok = true ∧ r.ok = true ∧ (k = 0 ∨ k = 1) ∧ (a.add b).ok = true := by
  unfold xcE
  cases a.ok <;> cases b.ok <;> cases r.ok <;> simp
  by_cases h : k = 0 ∨ k = 1
  · rw [if_pos h]
    cases (a.add b).ok <;> simp [h]
  · rw [if_neg h]; simp; intro h2; exact absurd h2 h
theorem meet_ok {a b : Cel} {k : Int} (ha : a.ok = true) (hb : b.ok = true) (h : (a.add b).ok = true) : (meetC a b k).ok = true := by
  rw [Cel.ok_iff] at *
  simp only [Cel.add] at h
  unfold meetC
  split <;> simp only <;> omega
theorem rul_inv_ok (r : Rul) : r.inv.ok = r.ok := by
  rw [Bool.eq_iff_iff, Rul.ok_iff, Rul.ok_iff]; simp only [Rul.inv]; omega
theorem Cel.after_sum {c : Cel} (r : Rul) : (c.after r).e + (c.after r).n = c.e + c.n ∧ (c.after r).w + (c.after r).s = c.w + c.s ∧ (c.after r).e - (c.after r).w = c.e - c.w ∧ (c.after r).n - (c.after r).s = c.n - c.s := by
  simp only [Cel.after, Cel.placed]; omega
/-- What an exchange keeps. -/
theorem xch_kept {a b : Cel} {r : Rul} {k : Int} (h : xcE a b r k = 0) :
    (xchA a b r k).e + (xchA a b r k).n + (xchA a b r k).w + (xchA a b r k).s = a.e + a.n + a.w + a.s ∧ (xchB a b r k).e + (xchB a b r k).n + (xchB a b r k).w + (xchB a b r k).s = b.e + b.n + b.w + b.s ∧
    (xchA a b r k).e - (xchA a b r k).w + ((xchB a b r k).e - (xchB a b r k).w) = a.e - a.w + (b.e - b.w) ∧ (xchA a b r k).n - (xchA a b r k).s + ((xchB a b r k).n - (xchB a b r k).s) = a.n - a.s + (b.n - b.s) ∧
    xcE (xchA a b r k) (xchB a b r k) r.inv k = 0 ∧ xchA (xchA a b r k) (xchB a b r k) r.inv k = a ∧ xchB (xchA a b r k) (xchB a b r k) r.inv k = b ∧ (xchA a b r k).ok = true ∧ (xchB a b r k).ok = true := by
  obtain ⟨ha, hb, hr, hk, hs⟩ := xcE_iff.1 h
  have hm := meet_ok (k := k) ha hb hs
  have hd := Cel.after_ok hm hr
  have hsum := Cel.after_sum (c := meetC a b k) r
  have hu := (Cel.after_undone hm hr).1
  have fd := Cel.ok_iff.1 hd
  have fa := Cel.ok_iff.1 ha
  have fb := Cel.ok_iff.1 hb
  have fs := Cel.ok_iff.1 hs
  simp only [Cel.add] at fs
  have key : meetC (xchA a b r k) (xchB a b r k) k = (meetC a b k).after r := by
    rcases hk with rfl | rfl <;> simp [meetC, xchA, xchB, backA, backB]
  have o1 : (xchA a b r k).ok = true := by
    rw [Cel.ok_iff]
    rcases hk with rfl | rfl <;> simp [meetC] at hsum fd <;> simp [xchA, backA, meetC] <;> omega
  have o2 : (xchB a b r k).ok = true := by
    rw [Cel.ok_iff]
    rcases hk with rfl | rfl <;> simp [meetC] at hsum fd <;> simp [xchB, backB, meetC] <;> omega
  have m1 : (xchA a b r k).e + (xchA a b r k).n + (xchA a b r k).w + (xchA a b r k).s = a.e + a.n + a.w + a.s := by
    rcases hk with rfl | rfl <;> simp [meetC] at hsum <;> simp [xchA, backA, meetC] <;> omega
  have m2 : (xchB a b r k).e + (xchB a b r k).n + (xchB a b r k).w + (xchB a b r k).s = b.e + b.n + b.w + b.s := by
    rcases hk with rfl | rfl <;> simp [meetC] at hsum <;> simp [xchB, backB, meetC] <;> omega
  have g1 := Cel.ok_iff.1 o1
  have g2 := Cel.ok_iff.1 o2
  refine ⟨m1, m2, ?_, ?_, ?_, ?_, ?_, o1, o2⟩
  · rcases hk with rfl | rfl <;> simp [meetC] at hsum <;> simp [xchA, xchB, backA, backB, meetC] <;> omega
  · rcases hk with rfl | rfl <;> simp [meetC] at hsum <;> simp [xchA, xchB, backA, backB, meetC] <;> omega
  · rw [xcE_iff]
    refine ⟨o1, o2, by rw [rul_inv_ok]; exact hr, hk, ?_⟩
    rw [Cel.ok_iff]; simp only [Cel.add]; omega
  · show backA (xchA a b r k) ((meetC (xchA a b r k) (xchB a b r k) k).after r.inv) k = a
    rw [key, hu]
    rcases hk with rfl | rfl <;> simp [backA, meetC, xchA]
  · show backB (xchB a b r k) ((meetC (xchA a b r k) (xchB a b r k) k).after r.inv) k = b
    rw [key, hu]
    rcases hk with rfl | rfl <;> simp [backB, meetC, xchB]
theorem Cel.mass_t {c : Cel} (h : c.ok = true) : c.mass.1 = c.e + c.n + c.w + c.s ∧ c.mass.2 = 0 := by simp [Cel.mass, h]
theorem Cel.mass_f {c : Cel} (h : c.ok = false) : c.mass.1 = 0 ∧ c.mass.2 = 1 := by simp [Cel.mass, h]
theorem add_cases (a b : Cel) : (a.ok = false ∧ a.mass.1 = 0 ∧ a.mass.2 = 1) ∨ (a.ok = true ∧ a.mass.2 = 0 ∧ b.ok = false ∧ b.mass.1 = 0 ∧ b.mass.2 = 1) ∨
    (a.ok = true ∧ b.ok = true ∧ a.mass.2 = 0 ∧ b.mass.2 = 0 ∧ (a.add b).ok = true ∧ a.mass.1 + b.mass.1 ≤ 1000000000 ∧ 0 ≤ a.mass.1 ∧ 0 ≤ b.mass.1) ∨
    (a.ok = true ∧ b.ok = true ∧ a.mass.2 = 0 ∧ b.mass.2 = 0 ∧ (a.add b).ok = false ∧ 1000000000 < a.mass.1 + b.mass.1 ∧ a.mass.1 + b.mass.1 ≤ 2000000000) := by
  cases ha : a.ok
  · exact .inl ⟨rfl, Cel.mass_f ha⟩
  cases hb : b.ok
  · exact .inr (.inl ⟨rfl, (Cel.mass_t ha).2, rfl, Cel.mass_f hb⟩)
  obtain ⟨a1, a2⟩ := Cel.mass_t ha
  obtain ⟨b1, b2⟩ := Cel.mass_t hb
  have fa := Cel.ok_iff.1 ha
  have fb := Cel.ok_iff.1 hb
  have fs := Cel.ok_iff (c := a.add b)
  simp only [Cel.add] at fs
  cases hs : (a.add b).ok
  · refine .inr (.inr (.inr ⟨rfl, rfl, a2, b2, rfl, ?_, ?_⟩))
    · rcases Decidable.em (1000000000 < a.mass.1 + b.mass.1) with h | h
      · exact h
      · have := fs.2 (by omega); rw [Cel.add] at hs; rw [this] at hs; cases hs
    · omega
  · rw [Cel.add] at hs
    have := fs.1 hs
    exact .inr (.inr (.inl ⟨rfl, rfl, a2, b2, rfl, by omega, by omega, by omega⟩))
end Go.Sy

/- Grids: what the functions on them come to, in lists of cells. -/
set_option linter.unusedSimpArgs false
set_option linter.unusedVariables false
namespace Go.Sy

def Cel.m (c : Cel) : Int := c.e + c.n + c.w + c.s
def massL : List Cel → Int
  | [] => 0
  | c :: cs => c.m + massL cs
def eastL : List Cel → Int
  | [] => 0
  | c :: cs => (c.e - c.w) + eastL cs
def northL : List Cel → Int
  | [] => 0
  | c :: cs => (c.n - c.s) + northL cs
/-- All cells are valid, and the masses, from m on, stay within bounds. -/
def okFrom : List Cel → Int → Bool
  | [], _ => true
  | c :: cs, m => c.ok && (decide (m + c.m ≤ 1000000000) && okFrom cs (m + c.m))
def sidesB (w h : Int) : Bool := decide (1 ≤ w ∧ w ≤ 64 ∧ 1 ≤ h ∧ h ≤ 64 ∧ w * h ≤ 1024)
def Grd.ok (g : Grd) : Bool := sidesB g.w g.h && (decide ((g.cs.length : Int) = g.w * g.h) && okFrom g.cs 0)
def sidesN (w h n : Int) : Bool := decide (1 ≤ w ∧ w ≤ 64 ∧ 1 ≤ h ∧ h ≤ 64 ∧ w * h ≤ 1024 ∧ n = w * h)
def Grd.none : Grd := ⟨0, 0, []⟩

theorem drop_cons {α : Type} (xs : List α) (d : α) {k : Nat} (h : k < xs.length) : xs.drop k = xs.getD k d :: xs.drop (k + 1) := by
  rw [List.drop_eq_getElem_cons h]; simp [h]
theorem take_snoc {α : Type} (xs : List α) (d : α) {k : Nat} (h : k < xs.length) : xs.take (k + 1) = xs.take k ++ [xs.getD k d] := by
  rw [List.take_succ_eq_append_getElem h]; simp [h]
theorem massL_app : ∀ (xs ys : List Cel), massL (xs ++ ys) = massL xs + massL ys
  | [], ys => by simp [massL]
  | x :: xs, ys => by simp only [List.cons_append, massL, massL_app xs ys]; omega
theorem eastL_app : ∀ (xs ys : List Cel), eastL (xs ++ ys) = eastL xs + eastL ys
  | [], ys => by simp [eastL]
  | x :: xs, ys => by simp only [List.cons_append, eastL, eastL_app xs ys]; omega
theorem northL_app : ∀ (xs ys : List Cel), northL (xs ++ ys) = northL xs + northL ys
  | [], ys => by simp [northL]
  | x :: xs, ys => by simp only [List.cons_append, northL, northL_app xs ys]; omega
theorem Cel.m_ok {c : Cel} (h : c.ok = true) : 0 ≤ c.m ∧ c.m ≤ 1000000000 := by
  have := Cel.ok_iff.1 h; unfold Cel.m; omega
theorem okFrom_iff : ∀ (cs : List Cel) (m : Int), 0 ≤ m → m ≤ 1000000000 → (okFrom cs m = true ↔ (∀ c ∈ cs, c.ok = true) ∧ m + massL cs ≤ 1000000000)
  | [], m, h, h1 => by simp [okFrom, massL]; exact h1
  | c :: cs, m, h, h1 => by
    simp only [okFrom, Bool.and_eq_true, decide_eq_true_eq, List.forall_mem_cons, massL]
    constructor
    · rintro ⟨a, b, d⟩
      have := Cel.m_ok a
      have := (okFrom_iff cs (m + c.m) (by omega) b).1 d
      exact ⟨⟨a, this.1⟩, by omega⟩
    · rintro ⟨⟨a, b⟩, d⟩
      have h2 := Cel.m_ok a
      have h3 : 0 ≤ massL cs := by
        clear d
        induction cs with
        | nil => simp [massL]
        | cons x xs ih => have := Cel.m_ok (b x (by simp)); have := ih fun c hc => b c (by simp [hc]); simp only [massL]; omega
      exact ⟨a, by omega, (okFrom_iff cs (m + c.m) (by omega) (by omega)).2 ⟨b, by omega⟩⟩
theorem massL_nonneg : ∀ {cs : List Cel}, (∀ c ∈ cs, c.ok = true) → 0 ≤ massL cs
  | [], _ => by simp [massL]
  | c :: cs, h => by
    have := Cel.m_ok (h c (by simp))
    have := massL_nonneg fun x hx => h x (List.mem_cons_of_mem c hx)
    simp only [massL]; omega
theorem Grd.ok_iff {g : Grd} : g.ok = true ↔ (1 ≤ g.w ∧ g.w ≤ 64 ∧ 1 ≤ g.h ∧ g.h ≤ 64 ∧ g.w * g.h ≤ 1024) ∧ (g.cs.length : Int) = g.w * g.h ∧ (∀ c ∈ g.cs, c.ok = true) ∧ massL g.cs ≤ 1000000000 := by
  unfold Grd.ok sidesB
  simp only [Bool.and_eq_true, decide_eq_true_eq, okFrom_iff g.cs 0 (by omega) (by omega), Int.zero_add]
theorem getD_mem {α : Type} {xs : List α} {k : Nat} (d : α) (h : k < xs.length) : xs.getD k d ∈ xs := by simp [h]

/-! ### Lists that are filled one by one -/
def prog {α : Type} [Inhabited α] (f : Nat → α) (k : Nat) (xs : List α) : List α := (List.range xs.length).map fun j => if j < k then f j else xs.getD j default
theorem prog_length {α : Type} [Inhabited α] (f : Nat → α) (k : Nat) (xs : List α) : (prog f k xs).length = xs.length := by simp [prog]
theorem prog_getD {α : Type} [Inhabited α] (f : Nat → α) (k : Nat) (xs : List α) {j : Nat} (hj : j < xs.length) : (prog f k xs).getD j default = if j < k then f j else xs.getD j default := by
  simp [prog, List.getD, hj]
theorem prog_zero {α : Type} [Inhabited α] (f : Nat → α) (xs : List α) : prog f 0 xs = xs := by
  apply List.ext_getElem?
  intro j
  by_cases hj : j < xs.length
  · simp [prog, hj]
  · simp [prog, hj]
theorem prog_set {α : Type} [Inhabited α] (f : Nat → α) (k : Nat) (xs : List α) {v : α} (hv : v = f k) : (prog f k xs).set k v = prog f (k + 1) xs := by
  subst hv
  apply List.ext_getElem?
  intro j
  rw [List.getElem?_set]
  by_cases hkj : k = j
  · subst hkj
    by_cases hk : k < xs.length
    · simp [prog, hk]
    · simp [prog, hk]
  · rw [if_neg hkj]
    by_cases hj : j < xs.length
    · have : (j < k) ↔ (j < k + 1) := by omega
      simp [prog, hj, this]
    · simp [prog, hj]
theorem prog_full {α : Type} [Inhabited α] (f : Nat → α) {k : Nat} (xs : List α) (hk : xs.length ≤ k) : prog f k xs = (List.range xs.length).map f := by
  unfold prog
  refine List.map_congr_left fun j hj => ?_
  have := List.mem_range.1 hj
  rw [if_pos (by omega)]
/-- What a grid's mass and momentum are told as. -/
def Grd.err (g : Grd) : Int := if g.ok then 0 else 1
def Grd.mass (g : Grd) : Int := if g.ok then massL g.cs else 0
def Grd.east (g : Grd) : Int := if g.ok then eastL g.cs else 0
def Grd.north (g : Grd) : Int := if g.ok then northL g.cs else 0
theorem mom_bd : ∀ {cs : List Cel}, (∀ c ∈ cs, c.ok = true) → -(massL cs) ≤ eastL cs ∧ eastL cs ≤ massL cs ∧ -(massL cs) ≤ northL cs ∧ northL cs ≤ massL cs
  | [], _ => by simp [massL, eastL, northL]
  | c :: cs, h => by
    have h1 := Cel.ok_iff.1 (h c (by simp))
    have h2 := mom_bd fun x hx => h x (List.mem_cons_of_mem c hx)
    simp only [massL, eastL, northL, Cel.m]
    omega
theorem mass_len : ∀ {cs : List Cel}, (∀ c ∈ cs, c.ok = true) → massL cs ≤ 1000000000 * cs.length
  | [], _ => by simp [massL]
  | c :: cs, h => by
    have h1 := Cel.m_ok (h c (by simp))
    have h2 := mass_len fun x hx => h x (List.mem_cons_of_mem c hx)
    simp only [massL, List.length_cons]
    omega
/-- What is known of the cells up to some place. -/
theorem step_sums {cs : List Cel} (h : ∀ c ∈ cs, c.ok = true) {k : Nat} (hk : k < cs.length) :
    massL (cs.take (k + 1)) = massL (cs.take k) + (cs.getD k default).m ∧ eastL (cs.take (k + 1)) = eastL (cs.take k) + ((cs.getD k default).e - (cs.getD k default).w) ∧
    northL (cs.take (k + 1)) = northL (cs.take k) + ((cs.getD k default).n - (cs.getD k default).s) ∧ (cs.getD k default).ok = true ∧ 0 ≤ massL (cs.take k) ∧ massL (cs.take k) ≤ 1000000000 * k ∧
    -(massL (cs.take k)) ≤ eastL (cs.take k) ∧ eastL (cs.take k) ≤ massL (cs.take k) ∧ -(massL (cs.take k)) ≤ northL (cs.take k) ∧ northL (cs.take k) ≤ massL (cs.take k) := by
  have ht : ∀ c ∈ cs.take k, c.ok = true := fun c hc => h c (List.mem_of_mem_take hc)
  have h1 := mass_len ht
  have h2 := massL_nonneg ht
  have h3 := mom_bd ht
  rw [take_snoc cs default hk, massL_app, eastL_app, northL_app]
  simp only [massL, eastL, northL, List.length_take] at *
  refine ⟨by omega, by omega, by omega, h _ (getD_mem default hk), h2, ?_, h3⟩
  have : min k cs.length = k := by omega
  rw [this] at h1; exact h1
theorem okFrom_drop {cs : List Cel} {m : Int} {k : Nat} (hk : k < cs.length) : okFrom (cs.drop k) m = ((cs.getD k default).ok && (decide (m + (cs.getD k default).m ≤ 1000000000) && okFrom (cs.drop (k + 1)) (m + (cs.getD k default).m))) := by
  rw [drop_cons cs default hk]; rfl
theorem sidesN_f {w h n : Int} (q : ¬ (1 ≤ w ∧ w ≤ 64 ∧ 1 ≤ h ∧ h ≤ 64 ∧ w * h ≤ 1024 ∧ n = w * h)) : sidesN w h n = false := decide_eq_false q
theorem sidesN_e {w h n : Int} (q : 1 ≤ w ∧ w ≤ 64 ∧ 1 ≤ h ∧ h ≤ 64 ∧ w * h ≤ 1024) : sidesN w h n = decide (n = w * h) := by
  unfold sidesN; exact decide_eq_decide.2 (by omega)
theorem gok_f {g : Grd} (q : ¬ (1 ≤ g.w ∧ g.w ≤ 64 ∧ 1 ≤ g.h ∧ g.h ≤ 64 ∧ g.w * g.h ≤ 1024 ∧ (g.cs.length : Int) = g.w * g.h)) : g.ok = false := by
  cases h : g.ok with
  | false => rfl
  | true => exact absurd (by obtain ⟨h1, h2, _⟩ := Grd.ok_iff.1 h; omega) q
theorem gok_start {g : Grd} (q : 1 ≤ g.w ∧ g.w ≤ 64 ∧ 1 ≤ g.h ∧ g.h ≤ 64 ∧ g.w * g.h ≤ 1024 ∧ (g.cs.length : Int) = g.w * g.h) : g.ok = okFrom (g.cs.drop 0) 0 := by
  unfold Grd.ok sidesB
  rw [decide_eq_true (by omega), decide_eq_true q.2.2.2.2.2]; rfl
theorem gok_end {g : Grd} {k : Nat} {m : Int} (hk : g.cs.length ≤ k) (h : g.ok = okFrom (g.cs.drop k) m) : g.ok = true := by
  rw [h, List.drop_eq_nil_of_le hk]; rfl
theorem Cel.mass_bd (c : Cel) : 0 ≤ c.mass.1 ∧ c.mass.1 ≤ 1000000000 ∧ (c.mass.2 = 0 ∨ c.mass.2 = 1) := by
  unfold Cel.mass
  split
  · rename_i h; have := Cel.ok_iff.1 h; refine ⟨?_, ?_, .inl rfl⟩ <;> simp only <;> omega
  · simp
theorem Cel.mass_2 {c : Cel} : (c.mass.2 = 0 → c.ok = true ∧ c.mass.1 = c.m) ∧ (c.mass.2 ≠ 0 → c.ok = false) := by
  unfold Cel.mass Cel.m
  cases c.ok <;> simp
theorem gok_bad {g : Grd} {k : Nat} {m : Int} (hk : k < g.cs.length) (h : g.ok = okFrom (g.cs.drop k) m) (hq : (g.cs.getD k default).mass.2 ≠ 0 ∨ 1000000000 < m + (g.cs.getD k default).mass.1) : g.ok = false := by
  rw [h, okFrom_drop hk]
  obtain ⟨h1, h2⟩ := Cel.mass_2 (c := g.cs.getD k default)
  by_cases hz : (g.cs.getD k default).mass.2 = 0
  · obtain ⟨h3, h4⟩ := h1 hz
    have : ¬ (m + (g.cs.getD k default).m ≤ 1000000000) := by rw [← h4]; omega
    rw [decide_eq_false this]; simp
  · rw [h2 hz]; rfl
theorem gok_next {g : Grd} {k : Nat} {m : Int} (hk : k < g.cs.length) (h : g.ok = okFrom (g.cs.drop k) m) (hq : (g.cs.getD k default).mass.2 = 0) (h2 : m + (g.cs.getD k default).mass.1 ≤ 1000000000) : g.ok = okFrom (g.cs.drop (k + 1)) (m + (g.cs.getD k default).mass.1) := by
  obtain ⟨h3, h4⟩ := (Cel.mass_2 (c := g.cs.getD k default)).1 hq
  rw [h, okFrom_drop hk, h3, ← h4, decide_eq_true h2]; rfl
def okL (l : List Cel) : Bool := l.all Cel.ok
theorem okL_iff {l : List Cel} : okL l = true ↔ ∀ c ∈ l, c.ok = true := List.all_eq_true
theorem okL_snoc {l : List Cel} {k : Nat} (h : okL (l.take k) = true) (hk : k < l.length) (ho : (l.getD k default).ok = true) : okL (l.take (k + 1)) = true := by
  rw [take_snoc l default hk]
  unfold okL at *
  rw [List.all_append, h]; simpa using ho
theorem okL_end {l : List Cel} {k : Nat} (h : okL (l.take k) = true) (hk : l.length ≤ k) : okL l = true := by rwa [List.take_of_length_le hk] at h
theorem okL_bad {l : List Cel} {k : Nat} (hk : k < l.length) (ho : (l.getD k default).ok = false) : okL l = false := by
  cases h : okL l with
  | false => rfl
  | true => have := okL_iff.1 h _ (getD_mem default hk); rw [ho] at this; cases this
theorem gok_okL {g : Grd} (h : g.ok = true) : okL g.cs = true := okL_iff.2 (Grd.ok_iff.1 h).2.2.1
theorem gok_bad2 {g : Grd} (h : okL g.cs = false) : g.ok = false := by
  cases q : g.ok with
  | false => rfl
  | true => rw [gok_okL q] at h; cases h
theorem gok_last {g : Grd} (q : sidesN g.w g.h g.cs.length = true) (h : okL g.cs = true) : g.ok = decide (massL g.cs ≤ 1000000000) := by
  rw [Bool.eq_iff_iff, Grd.ok_iff, decide_eq_true_eq]
  have q := of_decide_eq_true q
  exact ⟨fun x => x.2.2.2, fun x => ⟨by omega, q.2.2.2.2.2, okL_iff.1 h, x⟩⟩
theorem gok_sides {g : Grd} (q : sidesN g.w g.h g.cs.length = false) : g.ok = false := by
  cases h : g.ok with
  | false => rfl
  | true =>
    obtain ⟨h1, h2, _⟩ := Grd.ok_iff.1 h
    have := of_decide_eq_false q
    omega
theorem Grd.tell_t {g : Grd} (h : g.ok = true) : g.err = 0 ∧ g.mass = massL g.cs ∧ g.east = eastL g.cs ∧ g.north = northL g.cs := by simp [Grd.err, Grd.mass, Grd.east, Grd.north, h]
theorem Grd.tell_f {g : Grd} (h : g.ok = false) : g.err = 1 ∧ g.mass = 0 ∧ g.east = 0 ∧ g.north = 0 := by simp [Grd.err, Grd.mass, Grd.east, Grd.north, h]
theorem gtell (g : Grd) : (g.ok = false ∧ g.err = 1 ∧ g.mass = 0 ∧ g.east = 0 ∧ g.north = 0) ∨ (g.ok = true ∧ g.err = 0 ∧ g.mass = massL g.cs ∧ g.east = eastL g.cs ∧ g.north = northL g.cs) := by
  cases h : g.ok
  · exact .inl ⟨rfl, Grd.tell_f h⟩
  · exact .inr ⟨rfl, Grd.tell_t h⟩
theorem gok_bds {g : Grd} (h : g.ok = true) : 1 ≤ g.w ∧ g.w ≤ 64 ∧ 1 ≤ g.h ∧ g.h ≤ 64 ∧ g.w * g.h ≤ 1024 ∧ (g.cs.length : Int) = g.w * g.h ∧ g.cs.length ≤ 1024 ∧ 1 ≤ g.cs.length ∧ 0 ≤ massL g.cs ∧ massL g.cs ≤ 1000000000 := by
  obtain ⟨h1, h2, h3, h4⟩ := Grd.ok_iff.1 h
  have hm := mul_bd h1.1 h1.2.1 h1.2.2.1 h1.2.2.2.1
  have := massL_nonneg h3
  omega

/-! ### Lists that are the same -/
theorem same_f1 {a b : List Cel} (h : a.length ≠ b.length) : decide (a = b) = false := decide_eq_false fun e => h (by rw [e])
theorem same_t {a b : List Cel} {k : Nat} (hl : a.length = b.length) (h : a.take k = b.take k) (hk : a.length ≤ k) : decide (a = b) = true := by
  rw [List.take_of_length_le hk, List.take_of_length_le (by omega)] at h; simpa using h
theorem same_f2 {a b : List Cel} {k : Nat} (ha : k < a.length) (hb : k < b.length) (h : ¬ (a.getD k default = b.getD k default)) : decide (a = b) = false := decide_eq_false fun e => h (by rw [e])
theorem same_next {a b : List Cel} {k : Nat} (ha : k < a.length) (hb : k < b.length) (h : a.take k = b.take k) (he : a.getD k default = b.getD k default) : a.take (k + 1) = b.take (k + 1) := by
  rw [take_snoc a default ha, take_snoc b default hb, h, he]
theorem Cel.ext4 {a b : Cel} (h : a.e = b.e ∧ a.n = b.n ∧ a.w = b.w ∧ a.s = b.s) : a = b := by
  obtain ⟨a1, a2, a3, a4⟩ := a
  obtain ⟨b1, b2, b3, b4⟩ := b
  simp only at h
  obtain ⟨rfl, rfl, rfl, rfl⟩ := h
  rfl
theorem Cel.ne4 {a b : Cel} (h : a.e ≠ b.e ∨ a.n ≠ b.n ∨ a.w ≠ b.w ∨ a.s ≠ b.s) : ¬ a = b := by
  rintro rfl
  simp at h
/-! ### Grids added -/
end Go.Sy

/- Two phases on one grid: masses, momentum, sums. -/
set_option linter.unusedSimpArgs false
set_option linter.unusedVariables false
namespace Go.Sy
theorem Mix.eta (x : Mix) : (⟨x.w, x.h, x.a, x.b⟩ : Mix) = x := rfl
def Mix.ga (x : Mix) : Grd := ⟨x.w, x.h, x.a⟩
def Mix.gb (x : Mix) : Grd := ⟨x.w, x.h, x.b⟩
def Mix.ok (x : Mix) : Bool := x.ga.ok && (x.gb.ok && decide (massL x.a + massL x.b ≤ 1000000000))
def Mix.err (x : Mix) : Int := if x.ok then 0 else 1
theorem mways (x : Mix) : ((⟨x.w, x.h, x.a⟩ : Grd).ok = false ∧ True ∧ (⟨x.w, x.h, x.a⟩ : Grd).err = 1 ∧ (⟨x.w, x.h, x.a⟩ : Grd).mass = 0 ∧ x.ok = false) ∨
    ((⟨x.w, x.h, x.a⟩ : Grd).ok = true ∧ (⟨x.w, x.h, x.b⟩ : Grd).ok = false ∧ (⟨x.w, x.h, x.a⟩ : Grd).err = 0 ∧ (⟨x.w, x.h, x.b⟩ : Grd).err = 1 ∧ (⟨x.w, x.h, x.b⟩ : Grd).mass = 0 ∧ (⟨x.w, x.h, x.a⟩ : Grd).mass = massL x.a ∧ 0 ≤ massL x.a ∧ massL x.a ≤ 1000000000 ∧ x.ok = false) ∨
    ((⟨x.w, x.h, x.a⟩ : Grd).ok = true ∧ (⟨x.w, x.h, x.b⟩ : Grd).ok = true ∧ (⟨x.w, x.h, x.a⟩ : Grd).err = 0 ∧ (⟨x.w, x.h, x.b⟩ : Grd).err = 0 ∧ (⟨x.w, x.h, x.a⟩ : Grd).mass = massL x.a ∧ (⟨x.w, x.h, x.b⟩ : Grd).mass = massL x.b ∧
      0 ≤ massL x.a ∧ massL x.a ≤ 1000000000 ∧ 0 ≤ massL x.b ∧ massL x.b ≤ 1000000000 ∧ x.a.length = x.b.length ∧ 1 ≤ x.a.length ∧ x.a.length ≤ 1024 ∧ x.ok = decide (massL x.a + massL x.b ≤ 1000000000)) := by
  have dok : x.ok = (x.ga.ok && (x.gb.ok && decide (massL x.a + massL x.b ≤ 1000000000))) := rfl
  rcases gtell x.ga with ⟨h1, h2, h3, _⟩ | ⟨h1, h2, h3, _⟩
  · exact .inl ⟨h1, trivial, h2, h3, by rw [dok, h1]; rfl⟩
  · have b1 := gok_bds h1
    rcases gtell x.gb with ⟨g1, g2, g3, _⟩ | ⟨g1, g2, g3, _⟩
    · exact .inr (.inl ⟨h1, g1, h2, g2, g3, h3, b1.2.2.2.2.2.2.2.2.1, b1.2.2.2.2.2.2.2.2.2, by rw [dok, h1, g1]; rfl⟩)
    · have b2 := gok_bds g1
      have hl : x.a.length = x.b.length := by
        have q1 : (x.a.length : Int) = x.w * x.h := b1.2.2.2.2.2.1
        have q2 : (x.b.length : Int) = x.w * x.h := b2.2.2.2.2.2.1
        omega
      exact .inr (.inr ⟨h1, g1, h2, g2, h3, g3, b1.2.2.2.2.2.2.2.2.1, b1.2.2.2.2.2.2.2.2.2, b2.2.2.2.2.2.2.2.2.1, b2.2.2.2.2.2.2.2.2.2, hl, b1.2.2.2.2.2.2.2.1, b1.2.2.2.2.2.2.1, by rw [dok, h1, g1]; rfl⟩)
end Go.Sy

/- Cells that may be too full: their mass all the same. -/
set_option linter.unusedSimpArgs false
set_option linter.unusedVariables false
namespace Go.Sy
def wkC (c : Cel) : Bool := decide (0 ≤ c.e ∧ 0 ≤ c.n ∧ 0 ≤ c.w ∧ 0 ≤ c.s ∧ c.e + c.n + c.w + c.s ≤ 4000000000)
def wkL (l : List Cel) : Bool := l.all wkC
theorem wkL_iff {l : List Cel} : wkL l = true ↔ ∀ c ∈ l, 0 ≤ c.e ∧ 0 ≤ c.n ∧ 0 ≤ c.w ∧ 0 ≤ c.s ∧ c.e + c.n + c.w + c.s ≤ 4000000000 := by
  unfold wkL wkC; rw [List.all_eq_true]; simp only [decide_eq_true_eq]
theorem wk_of_ok {l : List Cel} (h : okL l = true) : wkL l = true := wkL_iff.2 fun c hc => by
  have := Cel.ok_iff.1 (okL_iff.1 h c hc); omega
theorem wk_mass : ∀ {cs : List Cel}, (∀ c ∈ cs, 0 ≤ c.e ∧ 0 ≤ c.n ∧ 0 ≤ c.w ∧ 0 ≤ c.s ∧ c.e + c.n + c.w + c.s ≤ 4000000000) → 0 ≤ massL cs ∧ massL cs ≤ 4000000000 * cs.length
  | [], _ => by simp [massL]
  | c :: cs, h => by
    have h1 := h c (by simp)
    have h2 := wk_mass fun x hx => h x (List.mem_cons_of_mem c hx)
    simp only [massL, List.length_cons, Cel.m]
    omega
theorem wk_step {cs : List Cel} (h : wkL cs = true) {k : Nat} (hk : k < cs.length) : massL (cs.take (k + 1)) = massL (cs.take k) + (cs.getD k default).m ∧ 0 ≤ massL (cs.take k) ∧ massL (cs.take k) ≤ 4000000000 * k ∧
    (0 ≤ (cs.getD k default).e ∧ 0 ≤ (cs.getD k default).n ∧ 0 ≤ (cs.getD k default).w ∧ 0 ≤ (cs.getD k default).s ∧ (cs.getD k default).e + (cs.getD k default).n + (cs.getD k default).w + (cs.getD k default).s ≤ 4000000000) := by
  have h := wkL_iff.1 h
  have h1 := wk_mass (cs := cs.take k) fun c hc => h c (List.mem_of_mem_take hc)
  rw [take_snoc cs default hk, massL_app]
  refine ⟨by simp only [massL]; omega, h1.1, ?_, h _ (getD_mem default hk)⟩
  have : (cs.take k).length = k := by simp; omega
  rw [this] at h1; exact h1.2
end Go.Sy

/- Mixes of two grids; parts of a mix. -/
set_option linter.unusedSimpArgs false
set_option linter.unusedVariables false
namespace Go.Sy
end Go.Sy
