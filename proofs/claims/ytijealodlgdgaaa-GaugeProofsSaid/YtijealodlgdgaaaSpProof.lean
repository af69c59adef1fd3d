/- Proofs of a contradiction: chains of gauges and what they tell. -/
import Derived.Test.YtijealodlgdgaaaSpBest
set_option linter.unusedSimpArgs false
set_option linter.unusedVariables false
namespace Go.Sy

/-! ### No chain is better than the best -/
theorem bst_ge {l : List Gau} (hl : fwd l) {c s : Int} {h : Bool} (hs : s ≠ c) {k : Nat} (hk : k < l.length) (hf : (l.getD k default).f = s) (hb : (bst l c h (l.getD k default).t).2 = true) :
    (bst l c h s).2 = true ∧ btr h ((l.getD k default).side h + (bst l c h (l.getD k default).t).1) (bst l c h s).1 = false := by
  have key : ∀ m, k < m → m ≤ l.length → (bstT l c h s m).2 = true ∧ btr h ((l.getD k default).side h + (bst l c h (l.getD k default).t).1) (bstT l c h s m).1 = false := by
    intro m
    induction m with
    | zero => intro h; omega
    | succ m ih =>
      intro h1 h2
      by_cases e : m = k
      · subst e
        have hle := bst_le hl hb
        rcases bstT_ways c h s (show m < l.length by omega) with ⟨q, _⟩ | ⟨_, q, _⟩ | ⟨_, _, q, _⟩ | ⟨_, _, _, _, e⟩ | ⟨_, _, _, q1, q2, e⟩
        · exact absurd hf q
        · exact absurd hle q
        · rw [hb] at q; cases q
        · rw [e]; exact ⟨rfl, by rw [btr_sg, decide_eq_false_iff_not]; simp only; omega⟩
        · rw [e]; exact ⟨q1, q2⟩
      · obtain ⟨i1, i2⟩ := ih (by omega) (by omega)
        rcases bstT_ways c h s (show m < l.length by omega) with ⟨_, e⟩ | ⟨_, _, e⟩ | ⟨_, _, _, e⟩ | ⟨_, _, _, q, e⟩ | ⟨_, _, _, _, _, e⟩
        · rw [e]; exact ⟨i1, i2⟩
        · rw [e]; exact ⟨i1, i2⟩
        · rw [e]; exact ⟨i1, i2⟩
        · rw [e]
          refine ⟨rfl, ?_⟩
          rcases q with q | q
          · rw [i1] at q; cases q
          · rw [btr_sg, decide_eq_true_eq] at q
            rw [btr_sg, decide_eq_false_iff_not] at i2 ⊢
            simp only at q ⊢
            omega
        · rw [e]; exact ⟨i1, i2⟩
  rw [bst_all hl h hs]
  exact key l.length hk (Nat.le_refl _)

/-! ### A list of numbers read as a chain -/
def xat (l : List Gau) (X : List Int) (j : Nat) : Gau := l.getD (X.getD j 0).toNat default
/-- Where one stands behind the first k. -/
def chA (l : List Gau) (a : Int) (X : List Int) : Nat → Int
  | 0 => a
  | k + 1 => (xat l X k).t
def chL (l : List Gau) (X : List Int) : Nat → Int
  | 0 => 0
  | k + 1 => chL l X k + (xat l X k).lo
def chH (l : List Gau) (X : List Int) : Nat → Int
  | 0 => 0
  | k + 1 => chH l X k + (xat l X k).hi
structure chOk (l : List Gau) (a : Int) (X : List Int) (k : Nat) : Prop where
  fit : ∀ j, j < k → (0 ≤ X.getD j 0 ∧ X.getD j 0 < l.length) ∧ (xat l X j).f = chA l a X j
theorem chOk_zero (l : List Gau) (a : Int) (X : List Int) : chOk l a X 0 := ⟨fun j h => by omega⟩
theorem chOk_next {l : List Gau} {a : Int} {X : List Int} {k : Nat} (h : chOk l a X k) (h1 : 0 ≤ X.getD k 0 ∧ X.getD k 0 < l.length) (h2 : (xat l X k).f = chA l a X k) : chOk l a X (k + 1) := ⟨fun j hj => by
  by_cases e : j = k
  · subst e; exact ⟨h1, h2⟩
  · exact h.fit j (by omega)⟩
open Classical
/-- The sums that the program and the reference tell; whether it is a chain to the end. -/
noncomputable def tdL (l : List Gau) (a : Int) (X : List Int) : Int := if chOk l a X X.length then chL l X X.length else 0
noncomputable def tdH (l : List Gau) (a : Int) (X : List Int) : Int := if chOk l a X X.length then chH l X X.length else 0
noncomputable def tdB (l : List Gau) (a c : Int) (X : List Int) : Bool := decide (chOk l a X X.length ∧ chA l a X X.length = c)
theorem ch_bd {l : List Gau} (hl : fwd l) {a : Int} {X : List Int} : ∀ {k : Nat}, chOk l a X k → (-4000000000 * (k : Int) ≤ chL l X k ∧ chL l X k ≤ 4000000000 * (k : Int)) ∧ -4000000000 * (k : Int) ≤ chH l X k ∧ chH l X k ≤ 4000000000 * (k : Int)
  | 0, _ => by simp [chL, chH]
  | k + 1, h => by
    have ih := ch_bd hl (k := k) ⟨fun j hj => h.fit j (by omega)⟩
    have f := (h.fit k (by omega)).1
    have ho : (xat l X k).Ok := fwd_at hl (by omega)
    have b1 := side_bd ho false
    have b2 := side_bd ho true
    simp only [Gau.side, if_true, if_false, Bool.false_eq_true] at b1 b2
    simp only [chL, chH]
    omega
/-- The ways of a further number. -/
theorem td_go {l : List Gau} {a c : Int} {X : List Int} {k : Nat} (hk : k ≤ X.length) (h : chOk l a X k) :
    (k < X.length ∧ ¬ (0 ≤ X.getD k 0 ∧ X.getD k 0 ≤ l.length - 1) ∧ tdL l a X = 0 ∧ tdH l a X = 0 ∧ tdB l a c X = false) ∨
    (k < X.length ∧ ((0 ≤ X.getD k 0 ∧ X.getD k 0 ≤ l.length - 1) ∧ (xat l X k).f ≠ chA l a X k) ∧ tdL l a X = 0 ∧ tdH l a X = 0 ∧ tdB l a c X = false) ∨
    (k < X.length ∧ ((0 ≤ X.getD k 0 ∧ X.getD k 0 ≤ l.length - 1) ∧ (xat l X k).f = chA l a X k) ∧ chOk l a X (k + 1) ∧ True ∧ True) ∨
    (k = X.length ∧ True ∧ tdL l a X = chL l X k ∧ tdH l a X = chH l X k ∧ tdB l a c X = decide (chA l a X k = c)) := by
  rcases Nat.lt_or_ge k X.length with hlt | hge
  · by_cases h1 : 0 ≤ X.getD k 0 ∧ X.getD k 0 ≤ (l.length : Int) - 1
    · by_cases h2 : (xat l X k).f = chA l a X k
      · exact .inr (.inr (.inl ⟨hlt, ⟨h1, h2⟩, chOk_next h ⟨h1.1, by omega⟩ h2, trivial, trivial⟩))
      · have hn : ¬ chOk l a X X.length := fun q => h2 (q.fit k hlt).2
        exact .inr (.inl ⟨hlt, ⟨h1, h2⟩, by unfold tdL; rw [if_neg hn], by unfold tdH; rw [if_neg hn], by unfold tdB; exact decide_eq_false fun q => hn q.1⟩)
    · have hn : ¬ chOk l a X X.length := fun q => h1 ⟨((q.fit k hlt).1).1, by have := ((q.fit k hlt).1).2; omega⟩
      exact .inl ⟨hlt, h1, by unfold tdL; rw [if_neg hn], by unfold tdH; rw [if_neg hn], by unfold tdB; exact decide_eq_false fun q => hn q.1⟩
  · have e : k = X.length := by omega
    subst e
    refine .inr (.inr (.inr ⟨rfl, trivial, by unfold tdL; rw [if_pos h], by unfold tdH; rw [if_pos h], ?_⟩))
    unfold tdB
    by_cases q : chA l a X X.length = c
    · rw [decide_eq_true q]; exact decide_eq_true ⟨h, q⟩
    · rw [decide_eq_false q]; exact decide_eq_false fun z => q z.2
/-- What a chain tells of one side, behind the first k. -/
def chZ (l : List Gau) (h : Bool) (X : List Int) : Nat → Int
  | 0 => 0
  | k + 1 => chZ l h X k + (xat l X k).side h
theorem chZ_lo (l : List Gau) (X : List Int) : ∀ k, chZ l false X k = chL l X k
  | 0 => rfl
  | k + 1 => by rw [chZ, chL, chZ_lo l X k]; rfl
theorem chZ_hi (l : List Gau) (X : List Int) : ∀ k, chZ l true X k = chH l X k
  | 0 => rfl
  | k + 1 => by rw [chZ, chH, chZ_hi l X k]; rfl
theorem ch_best {l : List Gau} (hl : fwd l) {a c : Int} {X : List Int} (h : Bool) (ho : chOk l a X X.length) (hc : chA l a X X.length = c) : ∀ d k, k + d = X.length →
    (bst l c h (chA l a X k)).2 = true ∧ btr h (chZ l h X X.length - chZ l h X k) (bst l c h (chA l a X k)).1 = false
  | 0, k, e => by
    have e : k = X.length := by omega
    subst e
    rw [hc, bst_end]
    exact ⟨rfl, by rw [btr_sg, decide_eq_false_iff_not]; simp only; rw [show chZ l h X X.length - chZ l h X X.length = 0 by omega]; omega⟩
  | d + 1, k, e => by
    obtain ⟨i1, i2⟩ := ch_best hl h ho hc d (k + 1) (by omega)
    have f := ho.fit k (by omega)
    have hx : (X.getD k 0).toNat < l.length := by omega
    have hok : (xat l X k).Ok := fwd_at hl hx
    have i1 : (bst l c h (xat l X k).t).2 = true := i1
    have i2 : btr h (chZ l h X X.length - (chZ l h X k + (xat l X k).side h)) (bst l c h (xat l X k).t).1 = false := i2
    have hle := bst_le hl i1
    have hne : chA l a X k ≠ c := by
      rw [← f.2]; unfold Gau.Ok at hok; omega
    obtain ⟨g1, g2⟩ := bst_ge hl (h := h) hne (k := (X.getD k 0).toNat) hx f.2 i1
    refine ⟨g1, ?_⟩
    have g2 : btr h ((xat l X k).side h + (bst l c h (xat l X k).t).1) (bst l c h (chA l a X k)).1 = false := g2
    rw [btr_sg, decide_eq_false_iff_not] at i2 g2 ⊢
    rw [sgH_add] at g2
    have e1 : chZ l h X X.length - chZ l h X k = (chZ l h X X.length - (chZ l h X k + (xat l X k).side h)) + (xat l X k).side h := by omega
    rw [e1, sgH_add]
    omega
/-- A chain's sum is no better than the best one. -/
theorem td_best {l : List Gau} (hl : fwd l) {a c : Int} {X : List Int} (hb : tdB l a c X = true) (h : Bool) : (bst l c h a).2 = true ∧ btr h (chZ l h X X.length) (bst l c h a).1 = false := by
  unfold tdB at hb
  have hb := of_decide_eq_true hb
  have := ch_best hl h hb.1 hb.2 X.length 0 (by omega)
  simpa [chZ, chA] using this
/-- The first best chain is a chain, and tells the best sum. -/
theorem chn_td {l : List Gau} (hl : fwd l) {c : Int} {h : Bool} : ∀ (n : Nat) (s : Int), (c - s).toNat ≤ n → (bst l c h s).2 = true → tdB l s c (chn l c h s) = true ∧ chZ l h (chn l c h s) (chn l c h s).length = (bst l c h s).1 := by
  have shift : ∀ (i : Nat) (L : List Int) (a : Int) (k : Nat), chA l a ((i : Int) :: L) (k + 1) = chA l (l.getD i default).t L k := by
    intro i L a k
    cases k with
    | zero => simp [chA, xat]
    | succ k => simp [chA, xat]
  have shz : ∀ (i : Nat) (L : List Int) (k : Nat), chZ l h ((i : Int) :: L) (k + 1) = (l.getD i default).side h + chZ l h L k := by
    intro i L k
    induction k with
    | zero => simp [chZ, xat]
    | succ k ih =>
      rw [chZ, ih, chZ]
      have : xat l ((i : Int) :: L) (k + 1) = xat l L k := by simp [xat]
      rw [this]; omega
  intro n
  induction n with
  | zero =>
    intro s hn hb
    have hle := bst_le hl hb
    have e : s = c := by omega
    subst e
    rw [chn_end, bst_end]
    refine ⟨?_, rfl⟩
    unfold tdB
    exact decide_eq_true ⟨chOk_zero l s [], rfl⟩
  | succ n ih =>
    intro s hn hb
    by_cases e : s = c
    · subst e
      rw [chn_end, bst_end]
      refine ⟨?_, rfl⟩
      unfold tdB
      exact decide_eq_true ⟨chOk_zero l s [], rfl⟩
    · have hle := bst_le hl hb
      have hi := nxI_lt hl e hb
      obtain ⟨q1, q2, q3, q4⟩ := nx_bd (nxI_b hi)
      have hok := fwd_at hl hi
      unfold Gau.Ok at hok
      rw [chn_step hl hle e hb]
      obtain ⟨i1, i2⟩ := ih (l.getD (nxI l c h s) default).t (by omega) q3
      unfold tdB at i1 ⊢
      have i1 := of_decide_eq_true i1
      refine ⟨decide_eq_true ⟨⟨fun j hj => ?_⟩, ?_⟩, ?_⟩
      · cases j with
        | zero => exact ⟨by simp; omega, by simp only [chA, xat, List.getD_cons_zero, Int.toNat_natCast]; exact q1⟩
        | succ j =>
          have hf := i1.1.fit j (by simpa using hj)
          rw [shift]
          have : xat l ((nxI l c h s : Int) :: chn l c h (l.getD (nxI l c h s) default).t) (j + 1) = xat l (chn l c h (l.getD (nxI l c h s) default).t) j := by simp [xat]
          rw [this]
          exact ⟨by simpa using hf.1, hf.2⟩
      · rw [List.length_cons, shift]; exact i1.2
      · rw [List.length_cons, shz, i2]; exact q4
/-- Proves: two chains contradict each other. -/
noncomputable def prvB (l : List Gau) (a c : Int) (X Y : List Int) : Bool := decide (strE l a c = 0) && (tdB l a c X && (tdB l a c Y && decide (tdH l a Y < tdL l a X)))
theorem prv_ways (l : List Gau) (a c : Int) (X Y : List Int) : (strE l a c ≠ 0 ∧ prvB l a c X Y = false ∧ True) ∨
    (strE l a c = 0 ∧ prvB l a c X Y = (tdB l a c X && (tdB l a c Y && decide (tdH l a Y < tdL l a X))) ∧ (gausB l = true ∧ a < c ∧ l.length ≤ 100) ∧ True) := by
  by_cases h : strE l a c = 0
  · rcases str_ways l a c with ⟨_, e⟩ | ⟨_, _, e⟩ | ⟨h1, h2, _⟩
    · rw [h] at e; cases e
    · rw [h] at e; cases e
    · exact .inr ⟨h, by unfold prvB; rw [decide_eq_true h]; rfl, ⟨h1, by omega, by have := (gaus_ok h1).2.1; omega⟩, trivial⟩
  · exact .inl ⟨h, by unfold prvB; rw [decide_eq_false h]; rfl, trivial⟩
end Go.Sy
