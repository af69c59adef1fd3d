/- Patches opened and shut: a rectangle's cells taken out, and put back. -/
import Derived.Test.YtkaebgfhbgicfaaSpRef
set_option linter.unusedSimpArgs false
set_option linter.unusedVariables false
set_option linter.unusedSectionVars false
namespace Go.Sy
/-! ### cells put at places, one by one -/
def putT (cs : List Cel) (ix : Nat → Nat) (f : Nat → Cel) : Nat → List Cel
  | 0 => cs
  | m + 1 => (putT cs ix f m).set (ix m) (f m)
theorem putT_length (cs : List Cel) (ix : Nat → Nat) (f : Nat → Cel) : ∀ m, (putT cs ix f m).length = cs.length
  | 0 => rfl
  | m + 1 => by rw [putT, List.length_set, putT_length cs ix f m]
theorem getD_set {xs : List Cel} {i j : Nat} {v : Cel} : (xs.set i v).getD j default = if i = j ∧ i < xs.length then v else xs.getD j default := by
  simp only [List.getD_eq_getElem?_getD, List.getElem?_set]
  by_cases h : i = j
  · subst h
    by_cases h2 : i < xs.length
    · simp [h2]
    · simp [h2]
  · simp [h]
theorem putT_out {cs : List Cel} {ix : Nat → Nat} {f : Nat → Cel} {k : Nat} : ∀ {m}, (∀ i, i < m → ix i ≠ k) → (putT cs ix f m).getD k default = cs.getD k default
  | 0, _ => rfl
  | m + 1, h => by
    rw [putT, getD_set, if_neg (fun q => h m (by omega) q.1)]
    exact putT_out fun i hi => h i (by omega)
theorem putT_get {cs : List Cel} {ix : Nat → Nat} {f : Nat → Cel} {n : Nat} (hd : ∀ i j, i < n → j < n → ix i = ix j → i = j) (hl : ∀ i, i < n → ix i < cs.length) {i : Nat} (hi : i < n) : ∀ {m}, m ≤ n → (putT cs ix f m).getD (ix i) default = if i < m then f i else cs.getD (ix i) default
  | 0, _ => by rw [if_neg (by omega)]; rfl
  | m + 1, hm => by
    rw [putT, getD_set, putT_length]
    by_cases h : ix m = ix i
    · have h1 := hd m i (by omega) hi h
      subst h1
      rw [if_pos ⟨rfl, hl _ hi⟩, if_pos (by omega)]
    · rw [if_neg (fun q => h q.1), putT_get hd hl hi (by omega)]
      by_cases h2 : i < m
      · rw [if_pos h2, if_pos (by omega)]
      · have : i ≠ m := fun e => h (by rw [e])
        rw [if_neg h2, if_neg (by omega)]
theorem getD_app_l {xs ys : List Cel} {i : Nat} (h : i < xs.length) : (xs ++ ys).getD i default = xs.getD i default := by
  simp only [List.getD_eq_getElem?_getD, List.getElem?_append_left h]
theorem getD_app_r {xs ys : List Cel} {i : Nat} (h : xs.length ≤ i) : (xs ++ ys).getD i default = ys.getD (i - xs.length) default := by
  simp only [List.getD_eq_getElem?_getD, List.getElem?_append_right h]
def boxT (cs : List Cel) (ix : Nat → Nat) (m : Nat) : List Cel := tab m fun i => cs.getD (ix i) default
theorem boxT_length (cs : List Cel) (ix : Nat → Nat) (m : Nat) : (boxT cs ix m).length = m := tab_length _ _
theorem boxT_get (cs : List Cel) (ix : Nat → Nat) {m i : Nat} (h : i < m) : (boxT cs ix m).getD i default = cs.getD (ix i) default := by
  unfold boxT; rw [tab_at _ h]
theorem ext_getD {xs ys : List Cel} (hl : xs.length = ys.length) (h : ∀ i, i < xs.length → xs.getD i default = ys.getD i default) : xs = ys := by
  apply List.ext_getElem hl
  intro i h1 h2
  have := h i h1
  simpa [List.getD_eq_getElem?_getD, h1, h2] using this
/-- They lie in a row, and what is put in is nothing: the row is cleared. -/
theorem clrX_put {cs : List Cel} {ix : Nat → Nat} {m : Nat} {k : Nat} : ∀ {n : Nat}, (∀ i, i < n → ix (m + i) = k + i) → k + n ≤ cs.length →
    clrX (putT cs ix (fun _ => ⟨0, 0, 0, 0⟩) m) k n = putT cs ix (fun _ => ⟨0, 0, 0, 0⟩) (m + n)
  | 0, _, hn => by
    apply ext_getD
    · rw [clrX_len _ _ _ (by rw [putT_length]; omega)]; rfl
    · intro i hi
      rw [clrX_getD _ _ _ _ (by rw [putT_length]; omega), if_neg (by omega)]; rfl
  | n + 1, h, hn => by
    have ih := clrX_put (cs := cs) (ix := ix) (m := m) (k := k) (n := n) (fun i hi => h i (by omega)) (by omega)
    rw [← Nat.add_assoc, putT, ← ih, h n (by omega)]
    apply ext_getD
    · rw [clrX_len _ _ _ (by rw [putT_length]; omega), List.length_set, clrX_len _ _ _ (by rw [putT_length]; omega)]
    · intro i hi
      rw [clrX_len _ _ _ (by rw [putT_length]; omega), putT_length] at hi
      rw [clrX_getD _ _ _ _ (by rw [putT_length]; omega), getD_set, clrX_len _ _ _ (by rw [putT_length]; omega), putT_length]
      by_cases h1 : k + n = i
      · rw [if_pos (show k ≤ i ∧ i < k + (n + 1) by omega), if_pos (show k + n = i ∧ k + n < cs.length by omega)]; rfl
      · rw [if_neg (show ¬ (k + n = i ∧ k + n < cs.length) from fun q => h1 q.1), clrX_getD _ _ _ _ (by rw [putT_length]; omega)]
        by_cases h2 : k ≤ i ∧ i < k + n
        · rw [if_pos (show k ≤ i ∧ i < k + (n + 1) by omega), if_pos h2]
        · rw [if_neg (show ¬ (k ≤ i ∧ i < k + (n + 1)) by omega), if_neg h2]
theorem box_app {cs : List Cel} {ix : Nat → Nat} {f : Nat → Cel} {m n N k : Nat} (hd : ∀ i j, i < N → j < N → ix i = ix j → i = j) (hl : ∀ i, i < N → ix i < cs.length) (hN : m + n ≤ N) (h : ∀ i, i < n → ix (m + i) = k + i) (hk : k + n ≤ cs.length) :
    boxT cs ix m ++ ((putT cs ix f m).drop k).take n = boxT cs ix (m + n) := by
  apply ext_getD
  · simp only [List.length_append, boxT_length, List.length_take, List.length_drop, putT_length]; omega
  · intro i hi
    simp only [List.length_append, boxT_length, List.length_take, List.length_drop, putT_length] at hi
    rw [boxT_get _ _ (by omega)]
    by_cases h1 : i < m
    · rw [getD_app_l (by rw [boxT_length]; exact h1), boxT_get _ _ h1]
    · rw [getD_app_r (by rw [boxT_length]; omega), boxT_length]
      have hi2 : i - m < n := by omega
      have e : (((putT cs ix f m).drop k).take n).getD (i - m) default = (putT cs ix f m).getD (k + (i - m)) default := by
        simp only [List.getD_eq_getElem?_getD, List.getElem?_take, List.getElem?_drop, if_pos hi2]
      rw [e, ← h _ hi2, show m + (i - m) = i by omega, putT_get hd hl (by omega) (by omega), if_neg h1]
/-- A box that is filled. -/
def boxZ (cs : List Cel) (ix : Nat → Nat) (N m : Nat) : List Cel := boxT cs ix m ++ List.replicate (N - m) ⟨0, 0, 0, 0⟩
theorem boxZ_length (cs : List Cel) (ix : Nat → Nat) {N m : Nat} (h : m ≤ N) : (boxZ cs ix N m).length = N := by
  unfold boxZ; rw [List.length_append, boxT_length, List.length_replicate]; omega
theorem boxZ_zero (cs : List Cel) (ix : Nat → Nat) (N : Nat) : boxZ cs ix N 0 = List.replicate N ⟨0, 0, 0, 0⟩ := rfl
theorem boxZ_full (cs : List Cel) (ix : Nat → Nat) {N m : Nat} (h : N ≤ m) : boxZ cs ix N m = boxT cs ix m := by
  unfold boxZ; rw [show N - m = 0 by omega]; simp
theorem boxZ_set (cs : List Cel) (ix : Nat → Nat) {N m : Nat} (h : m < N) {v : Cel} (hv : v = cs.getD (ix m) default) {a : Nat} (ha : a = m) : (boxZ cs ix N m).set a v = boxZ cs ix N (m + 1) := by
  subst ha
  apply ext_getD
  · rw [List.length_set, boxZ_length _ _ (by omega), boxZ_length _ _ (by omega)]
  · intro i hi
    rw [List.length_set, boxZ_length _ _ (by omega)] at hi
    rw [getD_set, boxZ_length _ _ (by omega)]
    have e : ∀ q, q ≤ N → (boxZ cs ix N q).getD i default = if i < q then cs.getD (ix i) default else ⟨0, 0, 0, 0⟩ := fun q hq => by
      unfold boxZ
      by_cases h1 : i < q
      · rw [getD_app_l (by rw [boxT_length]; exact h1), boxT_get _ _ h1, if_pos h1]
      · rw [getD_app_r (by rw [boxT_length]; omega), boxT_length, if_neg h1]
        simp only [List.getD_eq_getElem?_getD, List.getElem?_replicate]
        rw [if_pos (by omega)]; rfl
    rw [e _ (by omega), e _ (by omega)]
    by_cases h1 : a = i
    · subst h1; rw [if_pos ⟨rfl, h⟩, if_pos (by omega), hv]
    · rw [if_neg (fun q => h1 q.1)]
      by_cases h2 : i < a
      · rw [if_pos h2, if_pos (by omega)]
      · rw [if_neg h2, if_neg (by omega)]
theorem put_mass {cs : List Cel} {ix : Nat → Nat} {n : Nat} (hd : ∀ i j, i < n → j < n → ix i = ix j → i = j) (hl : ∀ i, i < n → ix i < cs.length) : ∀ {m}, m ≤ n → massL (putT cs ix (fun _ => ⟨0, 0, 0, 0⟩) m) + massL (boxT cs ix m) = massL cs
  | 0, _ => by show massL cs + massL (tab 0 _) = _; simp [tab, massL]
  | m + 1, hm => by
    have ih := put_mass hd hl (m := m) (by omega)
    have e : boxT cs ix (m + 1) = boxT cs ix m ++ [cs.getD (ix m) default] := by unfold boxT tab; rw [List.range_succ, List.map_append]; rfl
    rw [putT, massL_set' _ _ _ (by rw [putT_length]; exact hl _ (by omega)), putT_get hd hl (by omega) (by omega), if_neg (by omega), e, massL_app]
    have h0 : (⟨0, 0, 0, 0⟩ : Cel).m = 0 := rfl
    rw [h0, mass_one]; omega
theorem put_nn {cs : List Cel} {ix : Nat → Nat} {f : Nat → Cel} (h : nnL cs) : ∀ {m}, (∀ i, i < m → nnL [f i]) → nnL (putT cs ix f m)
  | 0, _ => h
  | m + 1, hf => fun c hc => by
    rw [putT] at hc
    rcases List.mem_or_eq_of_mem_set hc with h1 | h1
    · exact put_nn h (fun i hi => hf i (by omega)) c h1
    · exact hf m (by omega) c (by simp [h1])
theorem box_nn {cs : List Cel} {ix : Nat → Nat} {n : Nat} (h : nnL cs) (hl : ∀ i, i < n → ix i < cs.length) : nnL (boxT cs ix n) := fun c hc => by
  unfold boxT tab at hc
  obtain ⟨i, hi, rfl⟩ := List.mem_map.1 hc
  exact h _ (getD_mem default (hl i (List.mem_range.1 hi)))
theorem put_back {cs : List Cel} {ix : Nat → Nat} {f : Nat → Cel} {n : Nat} (hd : ∀ i j, i < n → j < n → ix i = ix j → i = j) (hl : ∀ i, i < n → ix i < cs.length) : putT (putT cs ix f n) ix (fun i => (boxT cs ix n).getD i default) n = cs := by
  apply ext_getD
  · rw [putT_length, putT_length]
  · intro k hk
    by_cases h : ∃ i, i < n ∧ ix i = k
    · obtain ⟨i, hi, rfl⟩ := h
      rw [putT_get hd (by rw [putT_length]; exact hl) hi (Nat.le_refl _), if_pos hi, boxT_get _ _ hi]
    · have h' : ∀ i, i < n → ix i ≠ k := fun i hi e => h ⟨i, hi, e⟩
      rw [putT_out h', putT_out h']
/-! ### the places of a rectangle -/
def rix (w x0 y0 bw : Int) (m : Nat) : Nat := (x0 + (m : Int) % bw + w * (y0 + (m : Int) / bw)).toNat
/-- Where a rectangle lies in a grid. -/
structure Rec (w h x0 y0 bw bh : Int) : Prop where
  b0 : 0 ≤ x0 ∧ 0 ≤ y0
  b1 : 1 ≤ bw ∧ 1 ≤ bh
  b2 : x0 + bw ≤ w ∧ y0 + bh ≤ h
  b3 : w ≤ 64 ∧ h ≤ 64
structure RecI (w h x0 y0 bw bh : Int) (n i j : Nat) : Prop where
  v : ((rix w x0 y0 bw (bw.toNat * j + i) : Nat) : Int) = x0 + (i : Int) + w * (y0 + (j : Int))
  t : (x0 + (i : Int) + w * (y0 + (j : Int))).toNat = rix w x0 y0 bw (bw.toNat * j + i)
  b : 0 ≤ w * (y0 + (j : Int)) ∧ w * (y0 + (j : Int)) + w ≤ w * h
  q : 0 ≤ bw * (j : Int) ∧ bw * (j : Int) + bw ≤ bw * bh
  u : ((i : Int) + bw * (j : Int)).toNat = bw.toNat * j + i
  lt : bw.toNat * j + i < n
  m : (((bw.toNat * j + i : Nat) : Int) % bw = (i : Int)) ∧ ((bw.toNat * j + i : Nat) : Int) / bw = (j : Int)
theorem mul_le' {a b c : Int} (h0 : 0 ≤ a) (h : b ≤ c) : a * b ≤ a * c := Int.mul_le_mul_of_nonneg_left h h0
theorem reci_mk {w h x0 y0 bw bh : Int} (H : Rec w h x0 y0 bw bh) {n : Nat} (hn : (n : Int) = bw * bh) {i j : Nat} (hi : (i : Int) < bw) (hj : (j : Int) < bh) : RecI w h x0 y0 bw bh n i j := by
  obtain ⟨b0, b1, b2, b3⟩ := H
  have hW : ((bw.toNat : Nat) : Int) = bw := Int.toNat_of_nonneg (by omega)
  have e : ((bw.toNat * j + i : Nat) : Int) = bw * (j : Int) + (i : Int) := by rw [Int.natCast_add, Int.natCast_mul, hW]
  have hm : ((bw.toNat * j + i : Nat) : Int) % bw = (i : Int) := by rw [e, Int.mul_add_emod_self_left]; exact Int.emod_eq_of_lt (by omega) hi
  have hd : ((bw.toNat * j + i : Nat) : Int) / bw = (j : Int) := by
    rw [e, Int.add_comm, Int.add_mul_ediv_left _ _ (by omega), Int.ediv_eq_zero_of_lt (by omega) hi]; omega
  have h1 : 0 ≤ w * (y0 + (j : Int)) := Int.mul_nonneg (by omega) (by omega)
  have h2 : w * (y0 + (j : Int)) + w ≤ w * h := by
    have := mul_le' (a := w) (b := y0 + (j : Int) + 1) (c := h) (by omega) (by omega)
    rw [Int.mul_add w _ 1, Int.mul_one] at this; exact this
  have h3 : 0 ≤ bw * (j : Int) := Int.mul_nonneg (by omega) (by omega)
  have h4 : bw * (j : Int) + bw ≤ bw * bh := by
    have := mul_le' (a := bw) (b := (j : Int) + 1) (c := bh) (by omega) (by omega)
    rw [Int.mul_add bw _ 1, Int.mul_one] at this; exact this
  have hv : rix w x0 y0 bw (bw.toNat * j + i) = (x0 + (i : Int) + w * (y0 + (j : Int))).toNat := by unfold rix; rw [hm, hd]
  exact ⟨by rw [hv, Int.toNat_of_nonneg (by omega)], hv.symm, ⟨h1, h2⟩, ⟨h3, h4⟩, by omega, by omega, hm, hd⟩
theorem rec_ij {bw bh : Int} (b1 : 1 ≤ bw ∧ 1 ≤ bh) {n : Nat} (hn : (n : Int) = bw * bh) {m : Nat} (hm : m < n) : ∃ i j : Nat, (i : Int) < bw ∧ (j : Int) < bh ∧ m = bw.toNat * j + i := by
  have hW : ((bw.toNat : Nat) : Int) = bw := Int.toNat_of_nonneg (by omega)
  refine ⟨m % bw.toNat, m / bw.toNat, ?_, ?_, (Nat.div_add_mod m bw.toNat).symm⟩
  · have := Nat.mod_lt m (show 0 < bw.toNat by omega); omega
  · have hH : ((bh.toNat : Nat) : Int) = bh := Int.toNat_of_nonneg (by omega)
    have e : n = bh.toNat * bw.toNat := by
      have : ((bh.toNat * bw.toNat : Nat) : Int) = bw * bh := by rw [Int.natCast_mul, hW, hH, Int.mul_comm]
      omega
    have := (Nat.div_lt_iff_lt_mul (show 0 < bw.toNat by omega)).2 (e ▸ hm)
    omega
theorem rix_lt {w h x0 y0 bw bh : Int} (H : Rec w h x0 y0 bw bh) {n N : Nat} (hn : (n : Int) = bw * bh) (hN : (N : Int) = w * h) {m : Nat} (hm : m < n) : rix w x0 y0 bw m < N := by
  obtain ⟨i, j, hi, hj, rfl⟩ := rec_ij H.b1 hn hm
  have q := reci_mk H hn hi hj
  have := q.v; have := q.b; have := H.b2; omega
theorem rix_inj {w h x0 y0 bw bh : Int} (H : Rec w h x0 y0 bw bh) {n : Nat} (hn : (n : Int) = bw * bh) {m k : Nat} (hm : m < n) (hk : k < n) (e : rix w x0 y0 bw m = rix w x0 y0 bw k) : m = k := by
  obtain ⟨i, j, hi, hj, rfl⟩ := rec_ij H.b1 hn hm
  obtain ⟨a, b, ha, hb, rfl⟩ := rec_ij H.b1 hn hk
  have q := (reci_mk H hn hi hj).v
  have q2 := (reci_mk H hn ha hb).v
  have hq : x0 + (i : Int) + w * (y0 + (j : Int)) = x0 + (a : Int) + w * (y0 + (b : Int)) := by omega
  have h2 := H.b2; have h1 := H.b1; have h0 := H.b0
  have hjb : (j : Int) = b := by
    have e1 : (x0 + (i : Int) + w * (y0 + (j : Int))) / w = y0 + (j : Int) := by rw [Int.add_mul_ediv_left _ _ (by omega), Int.ediv_eq_zero_of_lt (by omega) (by omega)]; omega
    have e2 : (x0 + (a : Int) + w * (y0 + (b : Int))) / w = y0 + (b : Int) := by rw [Int.add_mul_ediv_left _ _ (by omega), Int.ediv_eq_zero_of_lt (by omega) (by omega)]; omega
    rw [hq, e2] at e1; omega
  have hjb' : j = b := by omega
  subst hjb'
  have : i = a := by omega
  rw [this]
/-! ### opened -/
structure RecR (w x0 y0 bw : Int) (n N j : Nat) : Prop where
  l : (x0 + w * (y0 + (j : Int))).toNat = rix w x0 y0 bw (bw.toNat * j)
  h : (x0 + bw + w * (y0 + (j : Int))).toNat = rix w x0 y0 bw (bw.toNat * j) + bw.toNat
  b : 0 ≤ w * (y0 + (j : Int)) ∧ x0 + bw + w * (y0 + (j : Int)) ≤ (N : Int)
  ix : ∀ i, i < bw.toNat → rix w x0 y0 bw (bw.toNat * j + i) = rix w x0 y0 bw (bw.toNat * j) + i
  s : bw.toNat * j + bw.toNat ≤ n
  k : rix w x0 y0 bw (bw.toNat * j) + bw.toNat ≤ N
theorem recr_mk {w h x0 y0 bw bh : Int} (H : Rec w h x0 y0 bw bh) {n N : Nat} (hn : (n : Int) = bw * bh) (hN : (N : Int) = w * h) {j : Nat} (hj : (j : Int) < bh) : RecR w x0 y0 bw n N j := by
  have q := reci_mk H hn (i := 0) (j := j) (by have := H.b1; omega) hj
  have hW : ((bw.toNat : Nat) : Int) = bw := Int.toNat_of_nonneg (by have := H.b1; omega)
  have q9 := reci_mk H hn (i := bw.toNat - 1) (j := j) (by have := H.b1; omega) hj
  have qv := q.v; have qb := q.b; have h2 := H.b2; have h1 := H.b1; have h0 := H.b0; have q9l := q9.lt
  rw [Nat.add_zero] at qv
  refine ⟨by omega, by omega, by omega, fun i hi => ?_, by omega, by omega⟩
  have qi := (reci_mk H hn (i := i) (j := j) (by omega) hj).v
  omega
theorem row_box {cs : List Cel} {w h x0 y0 bw bh : Int} (H : Rec w h x0 y0 bw bh) {n : Nat} (hn : (n : Int) = bw * bh) (hN : (cs.length : Int) = w * h) {j : Nat} (hj : (j : Int) < bh) {f : Nat → Cel} {l m : Nat} (hl : l = rix w x0 y0 bw (bw.toNat * j)) (hm : m = bw.toNat) :
    boxT cs (rix w x0 y0 bw) (bw.toNat * j) ++ seg (putT cs (rix w x0 y0 bw) f (bw.toNat * j)) l m = boxT cs (rix w x0 y0 bw) (bw.toNat * (j + 1)) := by
  subst hl; subst hm
  have q := recr_mk H hn hN hj
  rw [Nat.mul_succ]
  exact box_app (N := n) (fun i k hi hk => rix_inj H hn hi hk) (fun i hi => rix_lt H hn hN hi) q.s q.ix q.k
theorem row_clr {cs : List Cel} {w h x0 y0 bw bh : Int} (H : Rec w h x0 y0 bw bh) {n : Nat} (hn : (n : Int) = bw * bh) (hN : (cs.length : Int) = w * h) {j : Nat} (hj : (j : Int) < bh) {l m : Nat} (hl : l = rix w x0 y0 bw (bw.toNat * j)) (hm : m = bw.toNat) :
    clrX (putT cs (rix w x0 y0 bw) (fun _ => ⟨0, 0, 0, 0⟩) (bw.toNat * j)) l m = putT cs (rix w x0 y0 bw) (fun _ => ⟨0, 0, 0, 0⟩) (bw.toNat * (j + 1)) := by
  subst hl; subst hm
  have q := recr_mk H hn hN hj
  rw [Nat.mul_succ]
  exact clrX_put q.ix q.k
def inn (g : Grd) (a : Pnt) : Prop := (1 ≤ a.x ∧ a.x ≤ g.w - 2) ∧ 1 ≤ a.y ∧ a.y ≤ g.h - 2
instance (g : Grd) (a : Pnt) : Decidable (inn g a) := by unfold inn; infer_instance
def opE (g : Grd) (a b : Pnt) : Int := if g.ok then (if inn g a ∧ inn g b then (if 2 * ((max a.x b.x + 1) - (min a.x b.x)) ≤ 64 ∧ 2 * ((max a.y b.y + 1) - (min a.y b.y)) ≤ 64 ∧ 2 * ((max a.x b.x + 1) - (min a.x b.x)) * (2 * ((max a.y b.y + 1) - (min a.y b.y))) ≤ 1024 then 0 else 4) else 7) else 1
def opC (g : Grd) (x0 x1 y0 y1 : Int) : List Cel := putT g.cs (rix g.w x0 y0 (x1 - x0)) (fun _ => ⟨0, 0, 0, 0⟩) ((x1 - x0) * (y1 - y0)).toNat
def opB (g : Grd) (x0 x1 y0 y1 : Int) : List Cel := boxT g.cs (rix g.w x0 y0 (x1 - x0)) ((x1 - x0) * (y1 - y0)).toNat
def opP (g : Grd) (x0 x1 y0 y1 : Int) : Pat := ⟨⟨g.w, g.h, opC g x0 x1 y0 y1⟩, x0, y0, x1, y1, ⟨2 * (x1 - x0), 2 * (y1 - y0), refC (x1 - x0) (opB g x0 x1 y0 y1)⟩⟩
def opG (g : Grd) (a b : Pnt) : Pat := if opE g a b = 0 then opP g (min a.x b.x) (max a.x b.x + 1) (min a.y b.y) (max a.y b.y + 1) else ⟨⟨0, 0, []⟩, 0, 0, 0, 0, ⟨0, 0, []⟩⟩
structure OpOk (g : Grd) (x0 x1 y0 y1 : Int) : Prop where
  gk : g.ok = true
  r : Rec g.w g.h x0 y0 (x1 - x0) (y1 - y0)
  bx : 1 ≤ x0 ∧ x1 ≤ g.w - 1
  by_ : 1 ≤ y0 ∧ y1 ≤ g.h - 1
  lim : 2 * (x1 - x0) ≤ 64 ∧ 2 * (y1 - y0) ≤ 64 ∧ 2 * (x1 - x0) * (2 * (y1 - y0)) ≤ 1024
  q4 : 2 * (x1 - x0) * (2 * (y1 - y0)) = 4 * ((x1 - x0) * (y1 - y0))
  n : ((((x1 - x0) * (y1 - y0)).toNat : Nat) : Int) = (x1 - x0) * (y1 - y0)
  bn : 0 ≤ (x1 - x0) * (y1 - y0) ∧ (x1 - x0) * (y1 - y0) ≤ 256
  nn : (x1 - x0).toNat * (y1 - y0).toNat = ((x1 - x0) * (y1 - y0)).toNat
structure OpK (g : Grd) (x0 x1 y0 y1 : Int) : Prop where
  bl : (opB g x0 x1 y0 y1).length = ((x1 - x0) * (y1 - y0)).toNat
  cl : (opC g x0 x1 y0 y1).length = g.cs.length
  bk : (⟨x1 - x0, y1 - y0, opB g x0 x1 y0 y1⟩ : Grd).ok = true
  bok : okL (opB g x0 x1 y0 y1) = true
  ck : (⟨g.w, g.h, opC g x0 x1 y0 y1⟩ : Grd).ok = true
  fk : (⟨2 * (x1 - x0), 2 * (y1 - y0), refC (x1 - x0) (opB g x0 x1 y0 y1)⟩ : Grd).ok = true
  v : patB (opP g x0 x1 y0 y1) = true
theorem op_k {g : Grd} {x0 x1 y0 y1 : Int} (H : OpOk g x0 x1 y0 y1) : OpK g x0 x1 y0 y1 := by
  have hg := H.gk
  have hgb := gok_bds hg
  have hr := H.r
  have hbx := H.bx
  have hby := H.by_
  have hb1 := hr.b1
  have hlim := H.lim
  have hq4 := H.q4
  have hn := H.n
  have hbn0 := H.bn
  have hinj := fun i j hi hj => rix_inj hr hn (m := i) (k := j) hi hj
  have hlt := fun i hi => rix_lt hr hn hgb.2.2.2.2.2.1 (m := i) hi
  have hnn := okL_nn (gok_okL hg)
  have hbl : (opB g x0 x1 y0 y1).length = ((x1 - x0) * (y1 - y0)).toNat := boxT_length _ _ _
  have hcl : (opC g x0 x1 y0 y1).length = g.cs.length := putT_length _ _ _ _
  have hms : massL (opC g x0 x1 y0 y1) + massL (opB g x0 x1 y0 y1) = massL g.cs := put_mass hinj hlt (Nat.le_refl _)
  have hcn : nnL (opC g x0 x1 y0 y1) := put_nn hnn fun i hi c hc => by simp only [List.mem_singleton] at hc; rw [hc]; simp
  have hbn : nnL (opB g x0 x1 y0 y1) := box_nn hnn hlt
  have hm0 := (nn_mass hcn).1
  have hm1 := (nn_mass hbn).1
  have hgm : massL g.cs ≤ 1000000000 := by omega
  have hbok := ok_of_nn hbn (by omega)
  have hbl' : ((opB g x0 x1 y0 y1).length : Int) = (x1 - x0) * (y1 - y0) := by rw [hbl]; exact hn
  have hrm := refC_mass (w := x1 - x0) (h := y1 - y0) (by omega) (by omega) hbl' hbok
  have hcok : (⟨g.w, g.h, opC g x0 x1 y0 y1⟩ : Grd).ok = true := gok_mk (by omega) (by rw [hcl]; omega) hcn (by omega)
  have hfok : (⟨2 * (x1 - x0), 2 * (y1 - y0), refC (x1 - x0) (opB g x0 x1 y0 y1)⟩ : Grd).ok = true := gok_mk (by omega) (by rw [refC_length]; omega) (refC_nn (by omega) (by omega) hbl' hbok) (by omega)
  have hbk : (⟨x1 - x0, y1 - y0, opB g x0 x1 y0 y1⟩ : Grd).ok = true := gok_mk (by omega) hbl' hbn (by omega)
  have hpok : patOk (opP g x0 x1 y0 y1) := by
    refine ⟨hcok, hfok, ?_, ⟨?_⟩, ?_⟩
    · have a1 : 1 ≤ x0 ∧ x0 < x1 ∧ x1 ≤ g.w - 1 := by omega
      have a2 : 1 ≤ y0 ∧ y0 < y1 ∧ y1 ≤ g.h - 1 := by omega
      exact ⟨⟨a1, a2⟩, rfl, rfl⟩
    rotate_left
    · unfold patM opP; simp only; omega
    · intro i hi hin
      unfold inR opP at hin
      unfold opP at hi ⊢
      simp only at hi hin ⊢
      have hi' : i < g.cs.length := by rw [← hcl]; exact hi
      have hiw : (i : Int) % g.w + g.w * ((i : Int) / g.w) = i := Int.emod_add_mul_ediv _ _
      have q := reci_mk hr hn (i := ((i : Int) % g.w - x0).toNat) (j := ((i : Int) / g.w - y0).toNat) (by omega) (by omega)
      have hv : rix g.w x0 y0 (x1 - x0) ((x1 - x0).toNat * ((i : Int) / g.w - y0).toNat + ((i : Int) % g.w - x0).toNat) = i := by
        have hv := q.v
        rw [show x0 + ((((i : Int) % g.w - x0).toNat : Nat) : Int) = (i : Int) % g.w by omega, show y0 + ((((i : Int) / g.w - y0).toNat : Nat) : Int) = (i : Int) / g.w by omega, hiw] at hv
        omega
      have := putT_get (cs := g.cs) (f := fun _ => ⟨0, 0, 0, 0⟩) hinj hlt q.lt (Nat.le_refl _)
      rw [if_pos q.lt, hv] at this
      show ((opC g x0 x1 y0 y1).getD i default).m = 0
      unfold opC
      rw [this]; rfl
  exact ⟨hbl, hcl, hbk, hbok, hcok, hfok, patB_t hpok⟩
theorem op_ways0 (g : Grd) (a b : Pnt) : (g.ok = false ∧ opE g a b = 1 ∧ opG g a b = ⟨⟨0, 0, []⟩, 0, 0, 0, 0, ⟨0, 0, []⟩⟩ ∧ True) ∨
    (g.ok = true ∧ opE g a b = 7 ∧ opG g a b = ⟨⟨0, 0, []⟩, 0, 0, 0, 0, ⟨0, 0, []⟩⟩ ∧ ¬ (inn g a ∧ inn g b)) ∨
    (g.ok = true ∧ opE g a b = 4 ∧ opG g a b = ⟨⟨0, 0, []⟩, 0, 0, 0, 0, ⟨0, 0, []⟩⟩ ∧ (inn g a ∧ inn g b) ∧ ¬ (2 * ((max a.x b.x + 1) - (min a.x b.x)) ≤ 64 ∧ 2 * ((max a.y b.y + 1) - (min a.y b.y)) ≤ 64 ∧ 2 * ((max a.x b.x + 1) - (min a.x b.x)) * (2 * ((max a.y b.y + 1) - (min a.y b.y))) ≤ 1024)) ∨
    (g.ok = true ∧ opE g a b = 0 ∧ opG g a b = opP g (min a.x b.x) (max a.x b.x + 1) (min a.y b.y) (max a.y b.y + 1) ∧ (inn g a ∧ inn g b) ∧ OpOk g (min a.x b.x) (max a.x b.x + 1) (min a.y b.y) (max a.y b.y + 1)) := by
  cases hg : g.ok
  · have e : opE g a b = 1 := by simp [opE, hg]
    exact .inl ⟨rfl, e, if_neg (by omega), trivial⟩
  · have hb9 := gok_bds hg
    by_cases hc : inn g a ∧ inn g b
    · by_cases hl : 2 * ((max a.x b.x + 1) - (min a.x b.x)) ≤ 64 ∧ 2 * ((max a.y b.y + 1) - (min a.y b.y)) ≤ 64 ∧ 2 * ((max a.x b.x + 1) - (min a.x b.x)) * (2 * ((max a.y b.y + 1) - (min a.y b.y))) ≤ 1024
      · have e : opE g a b = 0 := by unfold opE; rw [if_pos hg, if_pos hc, if_pos hl]
        have hia := hc.1
        have hib := hc.2
        unfold inn at hia hib
        have q4 : 2 * ((max a.x b.x + 1) - (min a.x b.x)) * (2 * ((max a.y b.y + 1) - (min a.y b.y))) = 4 * (((max a.x b.x + 1) - (min a.x b.x)) * ((max a.y b.y + 1) - (min a.y b.y))) := by rw [Int.mul_assoc, Int.mul_left_comm ((max a.x b.x + 1) - (min a.x b.x)) 2, ← Int.mul_assoc]; rfl
        have hn : 0 ≤ ((max a.x b.x + 1) - (min a.x b.x)) * ((max a.y b.y + 1) - (min a.y b.y)) := Int.mul_nonneg (by omega) (by omega)
        exact .inr (.inr (.inr ⟨rfl, e, if_pos e, hc, hg, ⟨by omega, by omega, by omega, by omega⟩, by omega, by omega, hl, q4, Int.toNat_of_nonneg hn, ⟨hn, by omega⟩, by
          have hW : (((max a.x b.x + 1 - min a.x b.x).toNat : Nat) : Int) = max a.x b.x + 1 - min a.x b.x := Int.toNat_of_nonneg (by omega)
          have hH : (((max a.y b.y + 1 - min a.y b.y).toNat : Nat) : Int) = max a.y b.y + 1 - min a.y b.y := Int.toNat_of_nonneg (by omega)
          have e9 : (((max a.x b.x + 1 - min a.x b.x).toNat * (max a.y b.y + 1 - min a.y b.y).toNat : Nat) : Int) = (max a.x b.x + 1 - min a.x b.x) * (max a.y b.y + 1 - min a.y b.y) := by rw [Int.natCast_mul, hW, hH]
          omega⟩))
      · have e : opE g a b = 4 := by unfold opE; rw [if_pos hg, if_pos hc, if_neg hl]
        exact .inr (.inr (.inl ⟨rfl, e, if_neg (by omega), hc, hl⟩))
    · have e : opE g a b = 7 := by unfold opE; rw [if_pos hg, if_neg hc]
      exact .inr (.inl ⟨rfl, e, if_neg (by omega), hc⟩)
theorem op_ways (g : Grd) (a b : Pnt) : (g.ok = false ∧ opE g a b = 1 ∧ opG g a b = ⟨⟨0, 0, []⟩, 0, 0, 0, 0, ⟨0, 0, []⟩⟩ ∧ True ∧ True ∧ True) ∨
    (g.ok = true ∧ opE g a b = 7 ∧ opG g a b = ⟨⟨0, 0, []⟩, 0, 0, 0, 0, ⟨0, 0, []⟩⟩ ∧ decide (inn g a) = false ∧ True ∧ True) ∨
    (g.ok = true ∧ opE g a b = 7 ∧ opG g a b = ⟨⟨0, 0, []⟩, 0, 0, 0, 0, ⟨0, 0, []⟩⟩ ∧ decide (inn g a) = true ∧ decide (inn g b) = false ∧ True) ∨
    (g.ok = true ∧ opE g a b = 4 ∧ opG g a b = ⟨⟨0, 0, []⟩, 0, 0, 0, 0, ⟨0, 0, []⟩⟩ ∧ decide (inn g a) = true ∧ decide (inn g b) = true ∧ ¬ (2 * ((max a.x b.x + 1) - (min a.x b.x)) ≤ 64 ∧ 2 * ((max a.y b.y + 1) - (min a.y b.y)) ≤ 64 ∧ 2 * ((max a.x b.x + 1) - (min a.x b.x)) * (2 * ((max a.y b.y + 1) - (min a.y b.y))) ≤ 1024)) ∨
    (g.ok = true ∧ opE g a b = 0 ∧ opG g a b = opP g (min a.x b.x) (max a.x b.x + 1) (min a.y b.y) (max a.y b.y + 1) ∧ decide (inn g a) = true ∧ decide (inn g b) = true ∧ OpOk g (min a.x b.x) (max a.x b.x + 1) (min a.y b.y) (max a.y b.y + 1)) := by
  rcases op_ways0 g a b with ⟨h1, h2, h3, _⟩ | ⟨h1, h2, h3, h4⟩ | ⟨h1, h2, h3, h4, h5⟩ | ⟨h1, h2, h3, h4, h5⟩
  · exact .inl ⟨h1, h2, h3, trivial, trivial, trivial⟩
  · by_cases ha : inn g a
    · by_cases hb : inn g b
      · exact absurd ⟨ha, hb⟩ h4
      · exact .inr (.inr (.inl ⟨h1, h2, h3, decide_eq_true ha, decide_eq_false hb, trivial⟩))
    · exact .inr (.inl ⟨h1, h2, h3, decide_eq_false ha, trivial, trivial⟩)
  · exact .inr (.inr (.inr (.inl ⟨h1, h2, h3, decide_eq_true h4.1, decide_eq_true h4.2, h5⟩)))
  · exact .inr (.inr (.inr (.inr ⟨h1, h2, h3, decide_eq_true h4.1, decide_eq_true h4.2, h5⟩)))
theorem op_len (g : Grd) (a b : Pnt) : (opG g a b).c.cs.length ≤ g.cs.length ∧ (opG g a b).f.cs.length ≤ 1024 := by
  rcases op_ways0 g a b with ⟨_, _, h, _⟩ | ⟨_, _, h, _⟩ | ⟨_, _, h, _⟩ | ⟨_, _, h, _, H⟩ <;> rw [h]
  · exact ⟨Nat.zero_le _, Nat.zero_le _⟩
  · exact ⟨Nat.zero_le _, Nat.zero_le _⟩
  · exact ⟨Nat.zero_le _, Nat.zero_le _⟩
  · have q := op_k H
    have h1 := q.bl; have h2 := q.cl; have h3 := H.n; have h4 := H.bn
    unfold opP
    simp only [refC_length]
    omega
/-! ### shut -/
noncomputable def paE (p : Pat) : Int := if patB p then 0 else 1
def shC (p : Pat) (m : Nat) : List Cel := putT p.c.cs (rix p.c.w p.x0 p.y0 (p.f.w / 2)) (fun i => (coaC (p.f.w / 2) p.f.cs).getD i default) m
theorem shC_length (p : Pat) (m : Nat) : (shC p m).length = p.c.cs.length := putT_length _ _ _ _
noncomputable def shG (p : Pat) : Grd := if patB p then ⟨p.c.w, p.c.h, shC p (p.f.cs.length / 4)⟩ else ⟨0, 0, []⟩
structure ShOk (p : Pat) : Prop where
  pk : patOk p
  d : p.f.w / 2 = p.x1 - p.x0 ∧ p.f.h / 2 = p.y1 - p.y0
  e : p.f.w % 2 = 0 ∧ p.f.h % 2 = 0
  r : Rec p.c.w p.c.h p.x0 p.y0 (p.f.w / 2) (p.f.h / 2)
  n : ((p.f.cs.length / 4 : Nat) : Int) = p.f.w / 2 * (p.f.h / 2)
  l : (coaC (p.f.w / 2) p.f.cs).length = p.f.cs.length / 4
  bn : p.f.cs.length / 4 ≤ 256
  nn : (p.f.w / 2).toNat * (p.f.h / 2).toNat = p.f.cs.length / 4
theorem sh_mk {p : Pat} (h : patOk p) : ShOk p := by
  have hp := h.r
  unfold patR at hp
  have hc := gok_bds h.c
  have hf := gok_bds h.f
  have h4 := coa6_len h.f (by omega) (by omega)
  exact ⟨h, by omega, by omega, ⟨by omega, by omega, by omega, by omega⟩, by omega, coaC_length _ _, by omega, by
    have hW : (((p.f.w / 2).toNat : Nat) : Int) = p.f.w / 2 := Int.toNat_of_nonneg (by omega)
    have hH : (((p.f.h / 2).toNat : Nat) : Int) = p.f.h / 2 := Int.toNat_of_nonneg (by omega)
    have e9 : (((p.f.w / 2).toNat * (p.f.h / 2).toNat : Nat) : Int) = p.f.w / 2 * (p.f.h / 2) := by rw [Int.natCast_mul, hW, hH]
    omega⟩
theorem sh_ways (p : Pat) : (patB p = false ∧ paE p = 1 ∧ shG p = ⟨0, 0, []⟩ ∧ True) ∨ (patB p = true ∧ paE p = 0 ∧ shG p = ⟨p.c.w, p.c.h, shC p (p.f.cs.length / 4)⟩ ∧ ShOk p) := by
  cases hp : patB p
  · exact .inl ⟨rfl, by unfold paE; rw [hp]; rfl, by unfold shG; rw [hp]; rfl, trivial⟩
  · exact .inr ⟨rfl, by unfold paE; rw [hp]; rfl, by unfold shG; rw [hp]; rfl, sh_mk (patB_ok hp)⟩
theorem sh_len (p : Pat) : (shG p).cs.length ≤ p.c.cs.length := by
  rcases sh_ways p with ⟨_, _, h, _⟩ | ⟨_, _, h, _⟩ <;> rw [h]
  · exact Nat.zero_le _
  · simp only [shC_length]; exact Nat.le_refl _
/-- The place of the k-th cell in the program's words. -/
structure ShB (p : Pat) (k : Nat) : Prop where
  tm : (k : Int).tmod (p.f.w / 2) = (k : Int) % (p.f.w / 2)
  td : (k : Int).tdiv (p.f.w / 2) = (k : Int) / (p.f.w / 2)
  x : 0 ≤ (k : Int) % (p.f.w / 2) ∧ (k : Int) % (p.f.w / 2) < p.f.w / 2
  y : 0 ≤ (k : Int) / (p.f.w / 2) ∧ (k : Int) / (p.f.w / 2) < p.f.h / 2
  b : 0 ≤ p.c.w * (p.y0 + (k : Int) / (p.f.w / 2)) ∧ p.c.w * (p.y0 + (k : Int) / (p.f.w / 2)) + p.c.w ≤ p.c.cs.length
  lt : rix p.c.w p.x0 p.y0 (p.f.w / 2) k < p.c.cs.length
theorem shb_mk {p : Pat} (H : ShOk p) {k : Nat} (hk : k < p.f.cs.length / 4) : ShB p k := by
  have hc := gok_bds H.pk.c
  have hb1 := H.r.b1
  obtain ⟨i, j, hi, hj, rfl⟩ := rec_ij H.r.b1 H.n hk
  have q := reci_mk H.r H.n hi hj
  have qm := q.m
  have qb := q.b
  refine ⟨Int.tmod_eq_emod_of_nonneg (Int.natCast_nonneg _), Int.tdiv_eq_ediv_of_nonneg (Int.natCast_nonneg _), ?_, ?_, ?_, rix_lt H.r H.n hc.2.2.2.2.2.1 hk⟩ <;> (try rw [qm.1]) <;> (try rw [qm.2]) <;> omega
theorem shC_next (p : Pat) (k : Nat) {a : Nat} (ha : a = rix p.c.w p.x0 p.y0 (p.f.w / 2) k) {v : Cel} (hv : v = (coaC (p.f.w / 2) p.f.cs).getD k default) : (shC p k).set a v = shC p (k + 1) := by
  subst ha; subst hv; rfl
/-- An opened patch is valid, and shut it is the grid. -/
theorem op_back {g : Grd} {a b : Pnt} (h : opE g a b = 0) : patB (opG g a b) = true ∧ paE (opG g a b) = 0 ∧ shG (opG g a b) = g := by
  rcases op_ways0 g a b with ⟨_, e, _⟩ | ⟨_, e, _⟩ | ⟨_, e, _⟩ | ⟨hg, e, hG, _, H⟩
  · omega
  · omega
  · omega
  generalize (min a.x b.x) = x0 at *
  generalize (max a.x b.x + 1) = x1 at *
  generalize (min a.y b.y) = y0 at *
  generalize (max a.y b.y + 1) = y1 at *
  have q := op_k H
  have hv : patB (opG g a b) = true := by rw [hG]; exact q.v
  have hgb := gok_bds hg
  have hr := H.r
  have hb1 := hr.b1
  have hn := H.n
  have hinj := fun i j hi hj => rix_inj hr hn (m := i) (k := j) hi hj
  have hlt := fun i hi => rix_lt hr hn hgb.2.2.2.2.2.1 (m := i) hi
  have hbl' : ((opB g x0 x1 y0 y1).length : Int) = (x1 - x0) * (y1 - y0) := by rw [q.bl]; exact hn
  refine ⟨hv, by unfold paE; rw [hv]; rfl, ?_⟩
  have hS : shG (opG g a b) = ⟨(opG g a b).c.w, (opG g a b).c.h, shC (opG g a b) ((opG g a b).f.cs.length / 4)⟩ := by unfold shG; rw [hv]; exact if_pos rfl
  rw [hS, hG]
  unfold shC opP
  simp only
  rw [show 2 * (x1 - x0) / 2 = x1 - x0 by omega, coa_ref (w := x1 - x0) (h := y1 - y0) (by omega) (by omega) hbl' q.bok, refC_length, q.bl, show 4 * ((x1 - x0) * (y1 - y0)).toNat / 4 = ((x1 - x0) * (y1 - y0)).toNat by omega]
  have := put_back (cs := g.cs) (f := fun _ => ⟨0, 0, 0, 0⟩) hinj hlt
  unfold opC opB
  rw [this]
/-! ### the momentum -/
noncomputable def pmX (p : Pat) : Int := if patB p then ((sumC p.c.cs).e + (sumC p.f.cs).e) - ((sumC p.c.cs).w + (sumC p.f.cs).w) else 0
noncomputable def pmY (p : Pat) : Int := if patB p then ((sumC p.c.cs).n + (sumC p.f.cs).n) - ((sumC p.c.cs).s + (sumC p.f.cs).s) else 0
noncomputable def paM (p : Pat) : Int := if patB p then massL p.c.cs + massL p.f.cs else 0
theorem pa_ways (p : Pat) : (patB p = false ∧ paE p = 1 ∧ paM p = 0 ∧ pmX p = 0 ∧ pmY p = 0 ∧ True) ∨ (patB p = true ∧ paE p = 0 ∧ paM p = massL p.c.cs + massL p.f.cs ∧ pmX p = ((sumC p.c.cs).e + (sumC p.f.cs).e) - ((sumC p.c.cs).w + (sumC p.f.cs).w) ∧ pmY p = ((sumC p.c.cs).n + (sumC p.f.cs).n) - ((sumC p.c.cs).s + (sumC p.f.cs).s) ∧ patOk p) := by
  cases hp : patB p
  · refine .inl ⟨rfl, ?_, ?_, ?_, ?_, trivial⟩ <;> simp [paE, paM, pmX, pmY, hp]
  · refine .inr ⟨rfl, ?_, ?_, ?_, ?_, patB_ok hp⟩ <;> simp [paE, paM, pmX, pmY, hp]
theorem sumC_ok {cs : List Cel} (h : okL cs = true) (hm : massL cs ≤ 1000000000) : (sumC cs).ok = true := by
  have h1 := sumT_bd h cs.length
  rw [List.take_length] at h1
  have h2 := (sumC_m cs).1
  unfold Cel.m at h2
  refine okL_iff.1 (ok_of_nn (cs := [sumC cs]) (fun c hc => ?_) ?_) _ (List.mem_singleton.2 rfl)
  · rw [List.mem_singleton] at hc; subst hc; omega
  · rw [mass_one]; unfold Cel.m; omega
theorem pa_ok {p : Pat} (h : patOk p) : okL [sumC p.c.cs, sumC p.f.cs] = true ∧ okL p.c.cs = true ∧ okL p.f.cs = true ∧ okL (p.c.cs ++ p.f.cs) = true := by
  have hm := h.m
  unfold patM at hm
  have hc := gok_okL h.c
  have hf := gok_okL h.f
  have h1 := (nn_mass (okL_nn hc)).1
  have h2 := (nn_mass (okL_nn hf)).1
  refine ⟨okL_two (sumC_ok hc (by omega)) (sumC_ok hf (by omega)), hc, hf, ?_⟩
  refine ok_of_nn (fun c hc' => ?_) (by rw [massL_app]; omega)
  rcases List.mem_append.1 hc' with h9 | h9
  · exact okL_nn hc c h9
  · exact okL_nn hf c h9
theorem levP_ways (g : Grd) (a b : Pnt) (p : Pat) : (decide (big6 g) = true ∧ True ∧ True ∧ True ∧ True ∧ True ∧ True ∧ True) ∨ (decide (big6 g) = false ∧ decide (big6 p.c) = true ∧ True ∧ True ∧ True ∧ True ∧ True ∧ True) ∨ (decide (big6 g) = false ∧ decide (big6 p.c) = false ∧ decide (big6 p.f) = true ∧ True ∧ True ∧ True ∧ True ∧ True) ∨
    (decide (big6 g) = false ∧ decide (big6 p.c) = false ∧ decide (big6 p.f) = false ∧ (g.cs.length ≤ 1100 ∧ p.c.cs.length ≤ 1100 ∧ p.f.cs.length ≤ 1100) ∧ (¬ opE g a b = 0) ∧ True ∧ True ∧ True) ∨
    (decide (big6 g) = false ∧ decide (big6 p.c) = false ∧ decide (big6 p.f) = false ∧ (g.cs.length ≤ 1100 ∧ p.c.cs.length ≤ 1100 ∧ p.f.cs.length ≤ 1100) ∧ opE g a b = 0 ∧ patB (opG g a b) = true ∧ paE (opG g a b) = 0 ∧ shG (opG g a b) = g) := by
  by_cases h0 : big6 g
  · exact .inl ⟨decide_eq_true h0, trivial, trivial, trivial, trivial, trivial, trivial, trivial⟩
  · by_cases h1 : big6 p.c
    · exact .inr (.inl ⟨decide_eq_false h0, decide_eq_true h1, trivial, trivial, trivial, trivial, trivial, trivial⟩)
    · by_cases h2 : big6 p.f
      · exact .inr (.inr (.inl ⟨decide_eq_false h0, decide_eq_false h1, decide_eq_true h2, trivial, trivial, trivial, trivial, trivial⟩))
      · have l0 : g.cs.length ≤ 1100 := by unfold big6 at h0; omega
        have l1 : p.c.cs.length ≤ 1100 := by unfold big6 at h1; omega
        have l2 : p.f.cs.length ≤ 1100 := by unfold big6 at h2; omega
        by_cases he : opE g a b = 0
        · obtain ⟨q1, q2, q3⟩ := op_back he
          exact .inr (.inr (.inr (.inr ⟨decide_eq_false h0, decide_eq_false h1, decide_eq_false h2, ⟨l0, l1, l2⟩, he, q1, q2, q3⟩)))
        · exact .inr (.inr (.inr (.inl ⟨decide_eq_false h0, decide_eq_false h1, decide_eq_false h2, ⟨l0, l1, l2⟩, he, trivial, trivial, trivial⟩)))
/-! ### patches that are the same -/
theorem peq_f {p q : Pat} (h : ¬ (p.x0 = q.x0 ∧ p.y0 = q.y0 ∧ p.x1 = q.x1 ∧ p.y1 = q.y1 ∧ p.c = q.c ∧ p.f = q.f)) : decide (p = q) = false := decide_eq_false fun e => h (by subst e; simp)
theorem peq_t {p q : Pat} (h : p.x0 = q.x0 ∧ p.y0 = q.y0 ∧ p.x1 = q.x1 ∧ p.y1 = q.y1 ∧ p.c = q.c ∧ p.f = q.f) : decide (p = q) = true := decide_eq_true (by
  obtain ⟨c, x0, y0, x1, y1, f⟩ := p
  obtain ⟨c', x0', y0', x1', y1', f'⟩ := q
  obtain ⟨h1, h2, h3, h4, h5, h6⟩ := h
  simp only at h1 h2 h3 h4 h5 h6
  subst h1; subst h2; subst h3; subst h4; subst h5; subst h6; rfl)
/-- A slice whose length is told anew. -/
def SV.ln (v : SV) (n : Nat) : SV := match v with
  | .sl i a k s _ cap => .sl i a k s n cap
  | v => v
theorem den_pat {w h x0 y0 x1 y1 u v e e' : SV} {n j n2 j2 : Nat} {a b : Option Nm} {s s2 len len' cap len2 len2' cap2 : Nat} (hl : len = len') (hl2 : len2 = len2') (he : den e = den e') :
    den (.tup [.agg [w, h, .sl n a 0 s len cap, x0, y0, x1, y1, u, v, .sl n2 b 0 s2 len2 cap2], e]) = den (.tup [.agg [w, h, .sl j a 0 s len' cap, x0, y0, x1, y1, u, v, .sl j2 b 0 s2 len2' cap2], e']) := by
  subst hl; subst hl2; simp only [den, denL, he]
theorem peq_l {p q : Pat} (h1 : p.x0 = q.x0) (h2 : p.y0 = q.y0) (h3 : p.x1 = q.x1) (h4 : p.y1 = q.y1) (h5 : decide (p.c = q.c) = true) : den (.bool (.atom (decide (p.f = q.f)))) = den (.bool (.atom (decide (p = q)))) := by
  have h5 := of_decide_eq_true h5
  by_cases h6 : p.f = q.f
  · rw [peq_t ⟨h1, h2, h3, h4, h5, h6⟩, decide_eq_true h6]
  · rw [peq_f (fun e => h6 e.2.2.2.2.2), decide_eq_false h6]
theorem peq_c {p q : Pat} (h5 : decide (p.c = q.c) = false) : decide (p = q) = false := peq_f fun e => of_decide_eq_false h5 e.2.2.2.2.1
end Go.Sy
