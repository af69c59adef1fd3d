/- The reference's best chains, made longer step by step downwards. -/
import Derived.Test.YtijealodlgdgaaaSpChn
import Derived.Test.YtijealodlgdgaaaSpBun
import Derived.Test.YtijealodlgdgaaaSpTrue
import Derived.Test.YtijealodlgdgaaaSpField
set_option linter.unusedSimpArgs false
set_option linter.unusedVariables false
namespace Go.Sy

theorem ex5 {β γ δ ε ζ : Type} {P : β × γ × δ × ε × ζ → Prop} {b : β} {c : γ} {d : δ} {e : ε} {f : ζ} (h : P (b, c, d, e, f)) : ∃ x, P x := ⟨_, h⟩
def sgH (h : Bool) (x : Int) : Int := if h then -x else x
theorem sgH_add (h : Bool) (x y : Int) : sgH h (x + y) = sgH h x + sgH h y := by
  unfold sgH; cases h <;> simp only [if_true, if_false, Bool.false_eq_true] <;> omega
theorem sgH_zero (h : Bool) : sgH h 0 = 0 := by cases h <;> rfl
theorem sgH_sg (h : Bool) (x : Int) : sgH h (sgH h x) = x := by
  unfold sgH; cases h <;> simp only [if_true, if_false, Bool.false_eq_true] <;> omega
theorem btr_sg (h : Bool) (a b : Int) : btr h a b = decide (sgH h b < sgH h a) := by
  unfold btr sgH; cases h <;> simp only [if_true, if_false, Bool.false_eq_true]
  rw [Bool.eq_iff_iff, decide_eq_true_eq, decide_eq_true_eq]; omega
theorem sgH_bd {h : Bool} {x n : Int} (h1 : -n ≤ x) (h2 : x ≤ n) : -n ≤ sgH h x ∧ sgH h x ≤ n := by
  unfold sgH; cases h <;> simp only [if_true, if_false, Bool.false_eq_true] <;> omega

/-! ### The best of the chains that begin at a step -/
def cnd (l : List Gau) (s : Int) (C : List (List Int)) (i : Nat) : Bool := decide ((l.getD i default).f = s) && !decide (C.getD i [] = [])
def fstI (l : List Gau) (s : Int) (S : List Int) (C : List (List Int)) : Nat → Int
  | 0 => -1
  | k + 1 => if cnd l s C k && decide (fstI l s S C k < 0 ∨ S.getD (fstI l s S C k).toNat 0 < S.getD k 0) then (k : Int) else fstI l s S C k
theorem fstI_zero (l : List Gau) (s : Int) (S : List Int) (C : List (List Int)) : fstI l s S C 0 = -1 := rfl
theorem fst_ways (l : List Gau) (s : Int) (S : List Int) (C : List (List Int)) (k : Nat) :
    ((l.getD k default).f ≠ s ∧ True ∧ True ∧ fstI l s S C (k + 1) = fstI l s S C k) ∨
    ((l.getD k default).f = s ∧ C.getD k [] = [] ∧ True ∧ fstI l s S C (k + 1) = fstI l s S C k) ∨
    ((l.getD k default).f = s ∧ C.getD k [] ≠ [] ∧ fstI l s S C k < 0 ∧ fstI l s S C (k + 1) = (k : Int)) ∨
    ((l.getD k default).f = s ∧ C.getD k [] ≠ [] ∧ (0 ≤ fstI l s S C k ∧ S.getD (fstI l s S C k).toNat 0 < S.getD k 0) ∧ fstI l s S C (k + 1) = (k : Int)) ∨
    ((l.getD k default).f = s ∧ C.getD k [] ≠ [] ∧ (0 ≤ fstI l s S C k ∧ S.getD k 0 = S.getD (fstI l s S C k).toNat 0) ∧ fstI l s S C (k + 1) = fstI l s S C k) ∨
    ((l.getD k default).f = s ∧ C.getD k [] ≠ [] ∧ (0 ≤ fstI l s S C k ∧ S.getD k 0 < S.getD (fstI l s S C k).toNat 0) ∧ fstI l s S C (k + 1) = fstI l s S C k) := by
  by_cases h1 : (l.getD k default).f = s
  · by_cases h2 : C.getD k [] = []
    · exact .inr (.inl ⟨h1, h2, trivial, by rw [fstI, cnd, h2]; simp⟩)
    · have hc : cnd l s C k = true := by unfold cnd; rw [decide_eq_true h1, decide_eq_false h2]; rfl
      by_cases h3 : fstI l s S C k < 0
      · exact .inr (.inr (.inl ⟨h1, h2, h3, by rw [fstI, hc, decide_eq_true (.inl h3)]; rfl⟩))
      · rcases Int.lt_trichotomy (S.getD k 0) (S.getD (fstI l s S C k).toNat 0) with h4 | h4 | h4
        · exact .inr (.inr (.inr (.inr (.inr ⟨h1, h2, ⟨by omega, h4⟩, by rw [fstI, decide_eq_false (by omega)]; simp⟩))))
        · exact .inr (.inr (.inr (.inr (.inl ⟨h1, h2, ⟨by omega, h4⟩, by rw [fstI, decide_eq_false (by omega)]; simp⟩))))
        · exact .inr (.inr (.inr (.inl ⟨h1, h2, ⟨by omega, h4⟩, by rw [fstI, hc, decide_eq_true (.inr h4)]; rfl⟩)))
  · exact .inl ⟨h1, trivial, trivial, by rw [fstI, cnd, decide_eq_false h1]; simp⟩
theorem fst_bd (l : List Gau) (s : Int) (S : List Int) (C : List (List Int)) : ∀ k, -1 ≤ fstI l s S C k ∧ fstI l s S C k < k ∧ (0 ≤ fstI l s S C k → C.getD (fstI l s S C k).toNat [] ≠ [] )
  | 0 => by rw [fstI_zero]; exact ⟨by omega, by omega, fun h => by omega⟩
  | k + 1 => by
    obtain ⟨i1, i2, i3⟩ := fst_bd l s S C k
    rcases fst_ways l s S C k with ⟨_, _, _, e⟩ | ⟨_, _, _, e⟩ | ⟨_, h2, _, e⟩ | ⟨_, h2, _, e⟩ | ⟨_, h2, _, e⟩ | ⟨_, h2, _, e⟩ <;> rw [e]
    · exact ⟨i1, by omega, i3⟩
    · exact ⟨i1, by omega, i3⟩
    · exact ⟨by omega, by omega, fun _ => by simpa using h2⟩
    · exact ⟨by omega, by omega, fun _ => by simpa using h2⟩
    · exact ⟨i1, by omega, i3⟩
    · exact ⟨i1, by omega, i3⟩
/-- Each chain begins with its own gauge, and none is too long. -/
structure hdO (C : List (List Int)) : Prop where
  at_ : ∀ k, k < C.length → C.getD k [] ≠ [] → (C.getD k []).getD 0 0 = (k : Int)
  sh : ∀ k, (C.getD k []).length ≤ 2000000
theorem hdO.pos {C : List (List Int)} {k : Nat} (hn : C.getD k [] ≠ []) : 0 < (C.getD k []).length := List.length_pos_iff.2 hn
def fstN (l : List Gau) (s : Int) (S : List Int) (C : List (List Int)) : Int := if fstI l s S C l.length < 0 then 0 else S.getD (fstI l s S C l.length).toNat 0
def fstC (l : List Gau) (s : Int) (S : List Int) (C : List (List Int)) : List Int := if fstI l s S C l.length < 0 then [] else C.getD (fstI l s S C l.length).toNat []
theorem fst_end (l : List Gau) (s : Int) (S : List Int) (C : List (List Int)) : (fstI l s S C l.length < 0 ∧ fstN l s S C = 0 ∧ fstC l s S C = []) ∨
    (0 ≤ fstI l s S C l.length ∧ fstN l s S C = S.getD (fstI l s S C l.length).toNat 0 ∧ fstC l s S C = C.getD (fstI l s S C l.length).toNat []) := by
  unfold fstN fstC
  by_cases h : fstI l s S C l.length < 0
  · exact .inl ⟨h, if_pos h, if_pos h⟩
  · exact .inr ⟨by omega, if_neg h, if_neg h⟩
/-- The ways at the head of its loop. -/
theorem fst_go {l : List Gau} (s : Int) (S : List Int) {C : List (List Int)} {k : Nat} (hk : k ≤ l.length) :
    (k < l.length ∧ (l.getD k default).f ≠ s ∧ True ∧ True ∧ fstI l s S C (k + 1) = fstI l s S C k) ∨
    (k < l.length ∧ (l.getD k default).f = s ∧ C.getD k [] = [] ∧ True ∧ fstI l s S C (k + 1) = fstI l s S C k) ∨
    (k < l.length ∧ (l.getD k default).f = s ∧ C.getD k [] ≠ [] ∧ fstI l s S C k < 0 ∧ fstI l s S C (k + 1) = (k : Int)) ∨
    (k < l.length ∧ (l.getD k default).f = s ∧ C.getD k [] ≠ [] ∧ (0 ≤ fstI l s S C k ∧ S.getD (fstI l s S C k).toNat 0 < S.getD k 0) ∧ fstI l s S C (k + 1) = (k : Int)) ∨
    (k < l.length ∧ (l.getD k default).f = s ∧ C.getD k [] ≠ [] ∧ (0 ≤ fstI l s S C k ∧ S.getD k 0 = S.getD (fstI l s S C k).toNat 0) ∧ fstI l s S C (k + 1) = fstI l s S C k) ∨
    (k < l.length ∧ (l.getD k default).f = s ∧ C.getD k [] ≠ [] ∧ (0 ≤ fstI l s S C k ∧ S.getD k 0 < S.getD (fstI l s S C k).toNat 0) ∧ fstI l s S C (k + 1) = fstI l s S C k) ∨
    (k = l.length ∧ fstI l s S C k < 0 ∧ fstN l s S C = 0 ∧ fstC l s S C = [] ∧ True) ∨
    (k = l.length ∧ 0 ≤ fstI l s S C k ∧ fstN l s S C = S.getD (fstI l s S C k).toNat 0 ∧ fstC l s S C = C.getD (fstI l s S C k).toNat [] ∧ True) := by
  rcases Nat.lt_or_ge k l.length with hlt | hge
  · rcases fst_ways l s S C k with h | h | h | h | h | h
    · exact .inl ⟨hlt, h⟩
    · exact .inr (.inl ⟨hlt, h⟩)
    · exact .inr (.inr (.inl ⟨hlt, h⟩))
    · exact .inr (.inr (.inr (.inl ⟨hlt, h⟩)))
    · exact .inr (.inr (.inr (.inr (.inl ⟨hlt, h⟩))))
    · exact .inr (.inr (.inr (.inr (.inr (.inl ⟨hlt, h⟩)))))
  · have e : k = l.length := by omega
    subst e
    rcases fst_end l s S C with ⟨h1, h2, h3⟩ | ⟨h1, h2, h3⟩
    · exact .inr (.inr (.inr (.inr (.inr (.inr (.inl ⟨rfl, h1, h2, h3, trivial⟩))))))
    · exact .inr (.inr (.inr (.inr (.inr (.inr (.inr ⟨rfl, h1, h2, h3, trivial⟩))))))
/-- What the entries of the gauges that begin at a step are. -/
structure rghC (l : List Gau) (c : Int) (h : Bool) (s : Int) (S : List Int) (C : List (List Int)) : Prop where
  ch : ∀ i, i < l.length → (l.getD i default).f = s → C.getD i [] = if (bst l c h (l.getD i default).t).2 then (i : Int) :: chn l c h (l.getD i default).t else []
  su : ∀ i, i < l.length → (l.getD i default).f = s → (bst l c h (l.getD i default).t).2 = true → S.getD i 0 = sgH h ((l.getD i default).side h + (bst l c h (l.getD i default).t).1)
theorem bst_le {l : List Gau} (hl : fwd l) {c s : Int} {h : Bool} (q : (bst l c h s).2 = true) : s ≤ c := ((bst_bd hl c h s).2 q).1
theorem fst_at {l : List Gau} (hl : fwd l) {c : Int} {h : Bool} {s : Int} {S : List Int} {C : List (List Int)} (R : rghC l c h s S C) : ∀ k, k ≤ l.length →
    ((bstT l c h s k).2 = false ∧ fstI l s S C k = -1) ∨ ((bstT l c h s k).2 = true ∧ ∃ m : Nat, fstI l s S C k = (m : Int) ∧ m < k ∧ (l.getD m default).f = s ∧ (bst l c h (l.getD m default).t).2 = true ∧ (bstT l c h s k).1 = (l.getD m default).side h + (bst l c h (l.getD m default).t).1 ∧
      ∀ j, j < m → (l.getD j default).f = s → (bst l c h (l.getD j default).t).2 = true → S.getD j 0 < S.getD m 0)
  | 0, _ => .inl ⟨by rw [bstT_zero], rfl⟩
  | k + 1, hk => by
    have hkl : k < l.length := by omega
    have ih := fst_at hl R k (by omega)
    have same : ∀ (e1 : bstT l c h s (k + 1) = bstT l c h s k) (e2 : fstI l s S C (k + 1) = fstI l s S C k), ((bstT l c h s (k + 1)).2 = false ∧ fstI l s S C (k + 1) = -1) ∨ ((bstT l c h s (k + 1)).2 = true ∧ ∃ m : Nat, fstI l s S C (k + 1) = (m : Int) ∧ m < k + 1 ∧ (l.getD m default).f = s ∧ (bst l c h (l.getD m default).t).2 = true ∧ (bstT l c h s (k + 1)).1 = (l.getD m default).side h + (bst l c h (l.getD m default).t).1 ∧
      ∀ j, j < m → (l.getD j default).f = s → (bst l c h (l.getD j default).t).2 = true → S.getD j 0 < S.getD m 0) := fun e1 e2 => by
      rw [e1, e2]
      rcases ih with h' | ⟨h1, m, h2, h3, h4⟩
      · exact .inl h'
      · exact .inr ⟨h1, m, h2, by omega, h4⟩
    by_cases hf : (l.getD k default).f = s
    · cases hq : (bst l c h (l.getD k default).t).2
      · have hC : C.getD k [] = [] := by rw [R.ch k hkl hf, hq]; rfl
        have e2 : fstI l s S C (k + 1) = fstI l s S C k := by rw [fstI, cnd, hC]; simp
        rcases bstT_ways c h s hkl with ⟨q, _⟩ | ⟨_, _, e⟩ | ⟨_, _, _, e⟩ | ⟨_, _, q, _⟩ | ⟨_, _, q, _⟩
        · exact absurd hf q
        · exact same e e2
        · exact same e e2
        · rw [hq] at q; cases q
        · rw [hq] at q; cases q
      · have hC : C.getD k [] ≠ [] := by rw [R.ch k hkl hf, hq]; simp
        have hS := R.su k hkl hf hq
        have hle := bst_le hl hq
        have old : ∀ m : Nat, m < k → (∀ j, j < m → (l.getD j default).f = s → (bst l c h (l.getD j default).t).2 = true → S.getD j 0 < S.getD m 0) → S.getD m 0 < S.getD k 0 → (∀ j, j < k → (l.getD j default).f = s → (bst l c h (l.getD j default).t).2 = true → S.getD j 0 ≤ S.getD m 0) →
            ∀ j, j < k → (l.getD j default).f = s → (bst l c h (l.getD j default).t).2 = true → S.getD j 0 < S.getD k 0 := fun m _ _ h2 h3 j hj a b => Int.lt_of_le_of_lt (h3 j hj a b) h2
        have top : ∀ m : Nat, fstI l s S C k = (m : Int) → ∀ j, j < k → (l.getD j default).f = s → (bst l c h (l.getD j default).t).2 = true → S.getD j 0 ≤ S.getD m 0 := by
          have key : ∀ n, n ≤ k → ∀ j, j < n → (l.getD j default).f = s → (bst l c h (l.getD j default).t).2 = true → 0 ≤ fstI l s S C n ∧ S.getD j 0 ≤ S.getD (fstI l s S C n).toNat 0 := by
            intro n
            induction n with
            | zero => intro _ j hj; omega
            | succ n ihn =>
              intro hn j hj a b
              have hnc : (l.getD n default).f = s → (bst l c h (l.getD n default).t).2 = true → C.getD n [] ≠ [] := fun a b => by rw [R.ch n (by omega) a, b]; simp
              by_cases ej : j = n
              · subst ej
                rcases fst_ways l s S C j with ⟨q, _⟩ | ⟨_, q, _⟩ | ⟨_, _, _, e⟩ | ⟨_, _, _, e⟩ | ⟨_, _, q, e⟩ | ⟨_, _, q, e⟩
                · exact absurd a q
                · exact absurd q (hnc a b)
                · rw [e]; exact ⟨by omega, by simp⟩
                · rw [e]; exact ⟨by omega, by simp⟩
                · rw [e]; exact ⟨q.1, Int.le_of_eq q.2⟩
                · rw [e]; exact ⟨q.1, Int.le_of_lt q.2⟩
              · obtain ⟨i1, i2⟩ := ihn (by omega) j (by omega) a b
                rcases fst_ways l s S C n with ⟨_, _, _, e⟩ | ⟨_, _, _, e⟩ | ⟨_, _, q, e⟩ | ⟨_, _, q, e⟩ | ⟨_, _, q, e⟩ | ⟨_, _, q, e⟩ <;> rw [e]
                · exact ⟨i1, i2⟩
                · exact ⟨i1, i2⟩
                · omega
                · exact ⟨by omega, by simp only [Int.toNat_natCast]; omega⟩
                · exact ⟨i1, i2⟩
                · exact ⟨i1, i2⟩
          intro m hm j hj a b
          have := (key k (Nat.le_refl _) j hj a b).2
          rw [hm] at this; simpa using this
        rcases ih with ⟨h1, h2⟩ | ⟨h1, m, h2, h3, h4, h5, h6, h7⟩
        · rcases bstT_ways c h s hkl with ⟨q, _⟩ | ⟨_, q, _⟩ | ⟨_, _, q, _⟩ | ⟨_, _, _, _, e⟩ | ⟨_, _, _, q, _⟩
          · exact absurd hf q
          · exact absurd hle q
          · rw [hq] at q; cases q
          · refine .inr ⟨by rw [e], k, ?_, by omega, hf, hq, by rw [e], fun j hj a b => ?_⟩
            · rcases fst_ways l s S C k with ⟨q, _⟩ | ⟨_, q, _⟩ | ⟨_, _, _, e⟩ | ⟨_, _, q, e⟩ | ⟨_, _, q, e⟩ | ⟨_, _, q, e⟩
              · exact absurd hf q
              · exact absurd q hC
              · exact e
              · omega
              · omega
              · omega
            · have hnc : C.getD j [] ≠ [] := by rw [R.ch j (by omega) a, b]; simp
              have ne : ∀ n, n ≤ k → j < n → 0 ≤ fstI l s S C n := by
                intro n
                induction n with
                | zero => intro _ hj; omega
                | succ n ihn =>
                  intro hn hj'
                  by_cases ej : j = n
                  · subst ej
                    rcases fst_ways l s S C j with ⟨q, _⟩ | ⟨_, q, _⟩ | ⟨_, _, _, e⟩ | ⟨_, _, _, e⟩ | ⟨_, _, q, e⟩ | ⟨_, _, q, e⟩
                    · exact absurd a q
                    · exact absurd q hnc
                    · rw [e]; omega
                    · rw [e]; omega
                    · rw [e]; exact q.1
                    · rw [e]; exact q.1
                  · have := ihn (by omega) (by omega)
                    rcases fst_ways l s S C n with ⟨_, _, _, e⟩ | ⟨_, _, _, e⟩ | ⟨_, _, q, e⟩ | ⟨_, _, q, e⟩ | ⟨_, _, q, e⟩ | ⟨_, _, q, e⟩ <;> rw [e] <;> omega
              have := ne k (Nat.le_refl _) hj
              omega
          · rw [h1] at q; cases q
        · have hSm := R.su m (by omega) h4 h5
          rcases bstT_ways c h s hkl with ⟨q, _⟩ | ⟨_, q, _⟩ | ⟨_, _, q, _⟩ | ⟨_, _, _, q, e⟩ | ⟨_, _, _, _, q, e⟩
          · exact absurd hf q
          · exact absurd hle q
          · rw [hq] at q; cases q
          · rcases q with q | q
            · rw [h1] at q; cases q
            · rw [btr_sg, decide_eq_true_eq, h6, ← hS, ← hSm] at q
              refine .inr ⟨by rw [e], k, ?_, by omega, hf, hq, by rw [e], fun j hj a b => old m h3 h7 q (fun j hj a b => top m h2 j hj a b) j hj a b⟩
              rcases fst_ways l s S C k with ⟨q', _⟩ | ⟨_, q', _⟩ | ⟨_, _, _, e⟩ | ⟨_, _, _, e⟩ | ⟨_, _, q', e⟩ | ⟨_, _, q', e⟩
              · exact absurd hf q'
              · exact absurd q' hC
              · exact e
              · exact e
              · rw [h2] at q'; simp only [Int.toNat_natCast] at q'; omega
              · rw [h2] at q'; simp only [Int.toNat_natCast] at q'; omega
          · rw [btr_sg, decide_eq_false_iff_not, h6, ← hS, ← hSm] at q
            refine same e ?_
            rcases fst_ways l s S C k with ⟨_, _, _, e⟩ | ⟨_, _, _, e⟩ | ⟨_, _, q', _⟩ | ⟨_, _, q', _⟩ | ⟨_, _, _, e⟩ | ⟨_, _, _, e⟩
            · exact e
            · exact e
            · omega
            · rw [h2] at q'; simp only [Int.toNat_natCast] at q'; omega
            · exact e
            · exact e
    · have e2 : fstI l s S C (k + 1) = fstI l s S C k := by rw [fstI, cnd, decide_eq_false hf]; simp
      rcases bstT_ways c h s hkl with ⟨_, e⟩ | ⟨q, _⟩ | ⟨q, _⟩ | ⟨q, _⟩ | ⟨q, _⟩
      · exact same e e2
      all_goals exact absurd q hf
def bsL (l : List Gau) (c : Int) (h : Bool) (s : Int) : List Int := if (bst l c h s).2 then chn l c h s else []
theorem fst_res {l : List Gau} (hl : fwd l) {c : Int} {h : Bool} {s : Int} {S : List Int} {C : List (List Int)} (R : rghC l c h s S C) (hs : s ≠ c) : fstN l s S C = sgH h (bst l c h s).1 ∧ fstC l s S C = bsL l c h s := by
  have hb := bst_all hl h hs
  rcases fst_at hl R l.length (Nat.le_refl _) with ⟨h1, h2⟩ | ⟨h1, m, h2, h3, h4, h5, h6, h7⟩
  · rw [← hb] at h1
    unfold fstN fstC bsL
    rw [h2, bst_z hl h1, h1, sgH_zero]
    exact ⟨rfl, rfl⟩
  · rw [← hb] at h1 h6
    have hSm := R.su m h3 h4 h5
    have hni : nxI l c h s = m := by
      refine nxI_at h3 (fun j hj => ?_) ?_
      · cases e : nxB l c h s (l.getD j default)
        · rfl
        · obtain ⟨q1, q2, q3, q4⟩ := nx_bd e
          have := h7 j hj q1 q3
          rw [R.su j (by omega) q1 q3, hSm, q4, h6] at this
          omega
      · unfold nxB goB
        rw [decide_eq_true (show (l.getD m default).f = s ∧ _ from ⟨h4, bst_le hl h5⟩), h5, decide_eq_true h6.symm]; rfl
    unfold fstN fstC bsL
    rw [h2, h1, if_neg (by omega), if_neg (by omega), if_pos rfl, Int.toNat_natCast]
    refine ⟨by rw [hSm, h6], ?_⟩
    rw [R.ch m h3 h4, h5, if_pos rfl, chn_step hl (bst_le hl h1) hs h1, hni]

/-! ### The last one that is not done -/
def lstI (l : List Gau) (D : List Bool) : Nat → Int
  | 0 => -1
  | i + 1 => if !D.getD i false && decide (lstI l D i < 0 ∨ (l.getD (lstI l D i).toNat default).f < (l.getD i default).f) then (i : Int) else lstI l D i
theorem lstI_zero (l : List Gau) (D : List Bool) : lstI l D 0 = -1 := rfl
theorem lst_ways (l : List Gau) (D : List Bool) (i : Nat) :
    (D.getD i false = true ∧ True ∧ lstI l D (i + 1) = lstI l D i) ∨ (D.getD i false = false ∧ lstI l D i < 0 ∧ lstI l D (i + 1) = (i : Int)) ∨
    (D.getD i false = false ∧ (0 ≤ lstI l D i ∧ (l.getD (lstI l D i).toNat default).f < (l.getD i default).f) ∧ lstI l D (i + 1) = (i : Int)) ∨
    (D.getD i false = false ∧ (0 ≤ lstI l D i ∧ (l.getD i default).f ≤ (l.getD (lstI l D i).toNat default).f) ∧ lstI l D (i + 1) = lstI l D i) := by
  cases h1 : D.getD i false
  · by_cases h2 : lstI l D i < 0
    · exact .inr (.inl ⟨rfl, h2, by rw [lstI, h1, decide_eq_true (.inl h2)]; rfl⟩)
    · by_cases h3 : (l.getD (lstI l D i).toNat default).f < (l.getD i default).f
      · exact .inr (.inr (.inl ⟨rfl, ⟨by omega, h3⟩, by rw [lstI, h1, decide_eq_true (.inr h3)]; rfl⟩))
      · exact .inr (.inr (.inr ⟨rfl, ⟨by omega, by omega⟩, by rw [lstI, decide_eq_false (by omega)]; simp⟩))
  · exact .inl ⟨rfl, trivial, by rw [lstI, h1]; simp⟩
theorem lst_at (l : List Gau) (D : List Bool) : ∀ k, (lstI l D k = -1 ∧ ∀ i, i < k → D.getD i false = true) ∨
    (0 ≤ lstI l D k ∧ lstI l D k < k ∧ D.getD (lstI l D k).toNat false = false ∧ ∀ i, i < k → D.getD i false = false → (l.getD i default).f ≤ (l.getD (lstI l D k).toNat default).f)
  | 0 => .inl ⟨rfl, fun i h => by omega⟩
  | k + 1 => by
    rcases lst_ways l D k with ⟨h1, _, e⟩ | ⟨h1, h2, e⟩ | ⟨h1, h2, e⟩ | ⟨h1, h2, e⟩ <;> rw [e] <;> rcases lst_at l D k with ⟨i1, i2⟩ | ⟨i1, i2, i3, i4⟩
    · exact .inl ⟨i1, fun i hi => by
        by_cases ei : i = k
        · rw [ei]; exact h1
        · exact i2 i (by omega)⟩
    · refine .inr ⟨i1, by omega, i3, fun i hi hd => ?_⟩
      by_cases ei : i = k
      · rw [ei, h1] at hd; cases hd
      · exact i4 i (by omega) hd
    · refine .inr ⟨by omega, by omega, by simpa using h1, fun i hi hd => ?_⟩
      by_cases ei : i = k
      · rw [ei]; simp
      · rw [i2 i (by omega)] at hd; cases hd
    · omega
    · omega
    · refine .inr ⟨by omega, by omega, by simpa using h1, fun i hi hd => ?_⟩
      by_cases ei : i = k
      · rw [ei]; simp
      · have := i4 i (by omega) hd; simp only [Int.toNat_natCast]; omega
    · omega
    · refine .inr ⟨i1, by omega, i3, fun i hi hd => ?_⟩
      by_cases ei : i = k
      · rw [ei]; exact h2.2
      · exact i4 i (by omega) hd

/-! ### Round by round -/
structure bstO (l : List Gau) (c : Int) (h : Bool) (j : Nat) (D : List Bool) (S : List Int) (C : List (List Int)) : Prop where
  lD : D.length = l.length
  lS : S.length = l.length
  lC : C.length = l.length
  cnt : D.count true = j
  dn : ∀ k, k < l.length → D.getD k false = true → C.getD k [] = (if (bst l c h (l.getD k default).t).2 then (k : Int) :: chn l c h (l.getD k default).t else []) ∧
    ((bst l c h (l.getD k default).t).2 = true → S.getD k 0 = sgH h ((l.getD k default).side h + (bst l c h (l.getD k default).t).1))
  un : ∀ k, k < l.length → D.getD k false = false → C.getD k [] = []
  ord : ∀ i k, i < l.length → k < l.length → D.getD i false = true → D.getD k false = false → (l.getD k default).f ≤ (l.getD i default).f
theorem bstO_zero (l : List Gau) (c : Int) (h : Bool) : bstO l c h 0 (List.replicate l.length false) (List.replicate l.length 0) (List.replicate l.length []) := by
  have hd : ∀ k, k < l.length → (List.replicate l.length false).getD k false = false := fun k hk => by simp [List.getD_eq_getElem?_getD, hk]
  exact ⟨by simp, by simp, by simp, by simp [List.count_replicate], fun k hk q => (by rw [hd k hk] at q; cases q), fun k hk _ => (by simp [List.getD_eq_getElem?_getD, hk]), fun i k hi hk q => (by rw [hd i hi] at q; cases q)⟩
theorem bstO.hd {l : List Gau} (hl : fwd l) {c : Int} (hc : c ≤ 1000000) {h : Bool} {j : Nat} {D : List Bool} {S : List Int} {C : List (List Int)} (o : bstO l c h j D S C) : hdO C := by
  have key : ∀ k, k < l.length → C.getD k [] = [] ∨ C.getD k [] = (k : Int) :: chn l c h (l.getD k default).t := fun k hk => by
    cases hd : D.getD k false
    · exact .inl (o.un k hk hd)
    · rw [(o.dn k hk hd).1]
      split
      · exact .inr rfl
      · exact .inl rfl
  refine ⟨fun k hk hn => ?_, fun k => ?_⟩
  · rw [o.lC] at hk
    rcases key k hk with e | e
    · exact absurd e hn
    · rw [e]; rfl
  · rcases Nat.lt_or_ge k l.length with hk | hk
    · rcases key k hk with e | e
      · rw [e]; simp
      · have hu := fwd_at hl hk
        have := chn_len l c h (l.getD k default).t
        unfold Gau.Ok at hu
        rw [e, List.length_cons]; omega
    · rw [List.getD_eq_getElem?_getD, List.getElem?_eq_none (by rw [o.lC]; exact hk)]; simp
theorem count_all {D : List Bool} (h : ∀ i, i < D.length → D.getD i false = true) : D.count true = D.length := by
  rw [List.count_eq_length]
  intro b hb
  obtain ⟨i, hi, rfl⟩ := List.mem_iff_getElem.1 hb
  have := h i hi
  rw [List.getD_eq_getElem?_getD, List.getElem?_eq_getElem hi] at this
  exact this.symm
theorem count_put {D : List Bool} {k : Nat} (hk : k < D.length) (hd : D.getD k false = false) : (D.set k true).count true = D.count true + 1 := by
  rw [List.getD_eq_getElem?_getD, List.getElem?_eq_getElem hk] at hd
  have hd : D[k] = false := hd
  rw [List.count_set hk, hd]; simp
theorem all_count {D : List Bool} (h : D.count true = D.length) : ∀ i, i < D.length → D.getD i false = true := fun i hi => by
  rw [List.count_eq_length] at h
  rw [List.getD_eq_getElem?_getD, List.getElem?_eq_getElem hi]
  exact (h _ (List.getElem_mem hi)).symm
theorem bstO.rgh {l : List Gau} {c : Int} {h : Bool} {D : List Bool} {S : List Int} {C : List (List Int)} (o : bstO l c h l.length D S C) (s : Int) : rghC l c h s S C := by
  have ha := all_count (D := D) (by rw [o.cnt, o.lD])
  rw [o.lD] at ha
  exact ⟨fun i hi _ => (o.dn i hi (ha i hi)).1, fun i hi _ => (o.dn i hi (ha i hi)).2⟩
/-- A round done: the entries of the last one are these. -/
theorem bstO.next {l : List Gau} {c : Int} {h : Bool} {j : Nat} {D : List Bool} {S : List Int} {C : List (List Int)} (o : bstO l c h j D S C) {m : Nat} (hm : m < l.length) (hd : D.getD m false = false)
    (ht : ∀ i, i < l.length → D.getD i false = false → (l.getD i default).f ≤ (l.getD m default).f) {S' : List Int} {C' : List (List Int)} (hS : S'.length = l.length) (hC : C'.length = l.length)
    (oS : ∀ k, k ≠ m → S'.getD k 0 = S.getD k 0) (oC : ∀ k, k ≠ m → C'.getD k [] = C.getD k [])
    (eC : C'.getD m [] = (if (bst l c h (l.getD m default).t).2 then (m : Int) :: chn l c h (l.getD m default).t else [])) (eS : (bst l c h (l.getD m default).t).2 = true → S'.getD m 0 = sgH h ((l.getD m default).side h + (bst l c h (l.getD m default).t).1)) :
    bstO l c h (j + 1) (D.set m true) S' C' := by
  have hmD : m < D.length := by rw [o.lD]; exact hm
  refine ⟨by simp [o.lD], hS, hC, by rw [count_put hmD hd, o.cnt], fun k hk q => ?_, fun k hk q => ?_, fun i k hi hk q1 q2 => ?_⟩
  · by_cases e : k = m
    · subst e; exact ⟨eC, eS⟩
    · rw [getD_set_other _ _ _ e] at q
      rw [oC k e, oS k e]; exact o.dn k hk q
  · by_cases e : k = m
    · subst e; rw [getD_set_same _ _ _ hmD] at q; cases q
    · rw [getD_set_other _ _ _ e] at q
      rw [oC k e]; exact o.un k hk q
  · by_cases e2 : k = m
    · subst e2; rw [getD_set_same _ _ _ hmD] at q2; cases q2
    · rw [getD_set_other _ _ _ e2] at q2
      by_cases e1 : i = m
      · subst e1; exact ht k hk q2
      · rw [getD_set_other _ _ _ e1] at q1
        exact o.ord i k hi hk q1 q2
/-- The ways of a round. -/
theorem bst_rnd {l : List Gau} (hl : fwd l) {c : Int} {h : Bool} {j : Nat} {D : List Bool} {S : List Int} {C : List (List Int)} (o : bstO l c h j D S C) (hj : j < l.length) : ∃ m : Nat, lstI l D l.length = (m : Int) ∧ m < l.length ∧ (l.getD m default).Ok ∧
    (((l.getD m default).t = c ∧ True ∧ bstO l c h (j + 1) (D.set m true) (S.set m (sgH h ((l.getD m default).side h))) (C.set m [(m : Int)])) ∨
     ((l.getD m default).t ≠ c ∧ (fstN l (l.getD m default).t S C = 0 ∧ fstC l (l.getD m default).t S C = []) ∧ bstO l c h (j + 1) (D.set m true) S C) ∨
     ((l.getD m default).t ≠ c ∧ (fstN l (l.getD m default).t S C = sgH h (bst l c h (l.getD m default).t).1 ∧ fstC l (l.getD m default).t S C = chn l c h (l.getD m default).t ∧ 0 < (chn l c h (l.getD m default).t).length) ∧
       bstO l c h (j + 1) (D.set m true) (S.set m (sgH h ((l.getD m default).side h) + sgH h (bst l c h (l.getD m default).t).1)) (C.set m ((m : Int) :: chn l c h (l.getD m default).t)))) := by
  rcases lst_at l D l.length with ⟨_, q⟩ | ⟨q1, q2, q3, q4⟩
  · have := count_all (D := D) (by rw [o.lD]; exact q)
    rw [o.cnt, o.lD] at this; omega
  · obtain ⟨m, hm⟩ := Int.eq_ofNat_of_zero_le q1
    rw [hm] at q2 q3 q4
    have hml : m < l.length := by omega
    have q3 : D.getD m false = false := by simpa using q3
    have q4 : ∀ i, i < l.length → D.getD i false = false → (l.getD i default).f ≤ (l.getD m default).f := fun i hi hd => by simpa using q4 i hi hd
    have hok := fwd_at hl hml
    refine ⟨m, hm, hml, hok, ?_⟩
    by_cases ht : (l.getD m default).t = c
    · have hb : bst l c h (l.getD m default).t = (0, true) := by rw [ht]; exact bst_end l c h
      refine .inl ⟨ht, trivial, o.next hml q3 q4 (by simp [o.lS]) (by simp [o.lC]) (fun k e => getD_set_other _ _ _ e) (fun k e => getD_set_other _ _ _ e) ?_ fun _ => ?_⟩
      · rw [getD_set_same _ _ _ (by rw [o.lC]; exact hml), hb, ht, chn_end]; rfl
      · rw [getD_set_same _ _ _ (by rw [o.lS]; exact hml), hb, Int.add_zero]
    · have R : rghC l c h (l.getD m default).t S C := by
        have hdn : ∀ i, i < l.length → (l.getD i default).f = (l.getD m default).t → D.getD i false = true := fun i hi hf => by
          cases hd : D.getD i false
          · have := q4 i hi hd
            unfold Gau.Ok at hok; omega
          · rfl
        exact ⟨fun i hi hf => (o.dn i hi (hdn i hi hf)).1, fun i hi hf => (o.dn i hi (hdn i hi hf)).2⟩
      obtain ⟨r1, r2⟩ := fst_res hl R ht
      cases hb : (bst l c h (l.getD m default).t).2
      · refine .inr (.inl ⟨ht, ⟨?_, ?_⟩, o.next hml q3 q4 o.lS o.lC (fun k e => rfl) (fun k e => rfl) ?_ fun q => ?_⟩)
        · rw [r1, bst_z hl hb, sgH_zero]
        · rw [r2, bsL, hb]; rfl
        · rw [hb, o.un m hml q3]; rfl
        · rw [hb] at q; cases q
      · refine .inr (.inr ⟨ht, ⟨r1, by rw [r2, bsL, hb]; rfl, ?_⟩, o.next hml q3 q4 (by simp [o.lS]) (by simp [o.lC]) (fun k e => getD_set_other _ _ _ e) (fun k e => getD_set_other _ _ _ e) ?_ fun _ => ?_⟩)
        · rw [chn_step hl (bst_le hl hb) ht hb]; simp
        · rw [getD_set_same _ _ _ (by rw [o.lC]; exact hml), hb]; rfl
        · rw [getD_set_same _ _ _ (by rw [o.lS]; exact hml), sgH_add]
theorem bst_fin {l : List Gau} (hl : fwd l) {c : Int} {h : Bool} {D : List Bool} {S : List Int} {C : List (List Int)} (o : bstO l c h l.length D S C) {s : Int} (hs : s ≠ c) : fstN l s S C = sgH h (bst l c h s).1 ∧ fstC l s S C = bsL l c h s := fst_res hl (o.rgh s) hs
theorem bsL_len {l : List Gau} (hl : fwd l) {c : Int} {h : Bool} {s : Int} (hs : s ≠ c) : ((bst l c h s).2 = true ∧ bsL l c h s = chn l c h s ∧ 0 < (chn l c h s).length) ∨ ((bst l c h s).2 = false ∧ bsL l c h s = [] ∧ True) := by
  unfold bsL
  cases hb : (bst l c h s).2
  · exact .inr ⟨rfl, rfl, trivial⟩
  · exact .inl ⟨rfl, rfl, by rw [chn_step hl (bst_le hl hb) hs hb]; simp⟩
/-- The ways at the head of the rounds' loop. -/
theorem bst_go {l : List Gau} (hl : fwd l) {a c : Int} (ha : 0 ≤ a) (hac : a < c) (hc : c ≤ 1000000) {h : Bool} {j : Nat} (hj : j ≤ l.length) {D : List Bool} {S : List Int} {C : List (List Int)} (o : bstO l c h j D S C) :
    (∃ m : Nat, j < l.length ∧ lstI l D l.length = (m : Int) ∧ (m < l.length ∧ (l.getD m default).Ok) ∧ (l.getD m default).t = c ∧ True ∧ bstO l c h (j + 1) (D.set m true) (S.set m (sgH h ((l.getD m default).side h))) (C.set m [(m : Int)])) ∨
    (∃ m : Nat, j < l.length ∧ lstI l D l.length = (m : Int) ∧ (m < l.length ∧ (l.getD m default).Ok) ∧ (l.getD m default).t ≠ c ∧ (fstN l (l.getD m default).t S C = 0 ∧ fstC l (l.getD m default).t S C = []) ∧ bstO l c h (j + 1) (D.set m true) S C) ∨
    (∃ m : Nat, j < l.length ∧ lstI l D l.length = (m : Int) ∧ (m < l.length ∧ (l.getD m default).Ok) ∧ (l.getD m default).t ≠ c ∧ (fstN l (l.getD m default).t S C = sgH h (bst l c h (l.getD m default).t).1 ∧ fstC l (l.getD m default).t S C = chn l c h (l.getD m default).t ∧ 0 < (chn l c h (l.getD m default).t).length) ∧
       bstO l c h (j + 1) (D.set m true) (S.set m (sgH h ((l.getD m default).side h) + sgH h (bst l c h (l.getD m default).t).1)) (C.set m ((m : Int) :: chn l c h (l.getD m default).t))) ∨
    (∃ m : Nat, j = l.length ∧ m = 0 ∧ True ∧ fstN l a S C = sgH h (bst l c h a).1 ∧ fstC l a S C = bsL l c h a ∧ True) := by
  rcases Nat.lt_or_ge j l.length with hlt | hge
  · obtain ⟨m, h1, h2, h3, ⟨w1, w2, w3⟩ | ⟨w1, w2, w3⟩ | ⟨w1, w2, w3⟩⟩ := bst_rnd hl o hlt
    · exact .inl ⟨m, hlt, h1, ⟨h2, h3⟩, w1, w2, w3⟩
    · exact .inr (.inl ⟨m, hlt, h1, ⟨h2, h3⟩, w1, w2, w3⟩)
    · exact .inr (.inr (.inl ⟨m, hlt, h1, ⟨h2, h3⟩, w1, w2, w3⟩))
  · have e : j = l.length := by omega
    subst e
    obtain ⟨h1, h2⟩ := bst_fin hl o (s := a) (by omega)
    exact .inr (.inr (.inr ⟨0, rfl, rfl, trivial, h1, h2, trivial⟩))
/-- The ways at the head of the search for the last one. -/
theorem lst_go {l : List Gau} {D : List Bool} {i : Nat} (hi : i ≤ l.length) {t : Int} (ht : t = lstI l D i) :
    (i < l.length ∧ D.getD i false = true ∧ True ∧ lstI l D (i + 1) = t) ∨ (i < l.length ∧ D.getD i false = false ∧ t < 0 ∧ lstI l D (i + 1) = (i : Int)) ∨
    (i < l.length ∧ D.getD i false = false ∧ (0 ≤ t ∧ (l.getD t.toNat default).f < (l.getD i default).f) ∧ lstI l D (i + 1) = (i : Int)) ∨
    (i < l.length ∧ D.getD i false = false ∧ (0 ≤ t ∧ (l.getD i default).f ≤ (l.getD t.toNat default).f) ∧ lstI l D (i + 1) = t) ∨
    (i = l.length ∧ t = lstI l D l.length ∧ True ∧ True) := by
  subst ht
  rcases Nat.lt_or_ge i l.length with hlt | hge
  · rcases lst_ways l D i with h | h | h | h
    · exact .inl ⟨hlt, h⟩
    · exact .inr (.inl ⟨hlt, h⟩)
    · exact .inr (.inr (.inl ⟨hlt, h⟩))
    · exact .inr (.inr (.inr (.inl ⟨hlt, h⟩)))
  · have e : i = l.length := by omega
    subst e
    exact .inr (.inr (.inr (.inr ⟨rfl, rfl, trivial, trivial⟩)))
theorem lst_bd (l : List Gau) (D : List Bool) (k : Nat) : -1 ≤ lstI l D k ∧ lstI l D k < k := by
  rcases lst_at l D k with ⟨h, _⟩ | ⟨h1, h2, _⟩ <;> omega
/-! ### The means -/
def meaR (e x d : Int) : Rat2 := if e = 0 then ratP x d else ⟨0, 0⟩
theorem mea_ways (l : List Gau) (a c : Int) : (bndE l a c ≠ 0 ∧ meaR (bndE l a c) (bndL l a c) (c - a) = ⟨0, 0⟩ ∧ meaR (bndE l a c) (bndH l a c) (c - a) = ⟨0, 0⟩ ∧ True) ∨
    (bndE l a c = 0 ∧ meaR (bndE l a c) (bndL l a c) (c - a) = ratP (bndL l a c) (c - a) ∧ meaR (bndE l a c) (bndH l a c) (c - a) = ratP (bndH l a c) (c - a) ∧ (0 < c - a ∧ c - a ≤ 1000000) ∧
      (0 ≤ a ∧ c ≤ 1000000) ∧ (-4000000000000000 ≤ bndL l a c ∧ bndL l a c ≤ 4000000000000000) ∧ -4000000000000000 ≤ bndH l a c ∧ bndH l a c ≤ 4000000000000000) := by
  by_cases h : bndE l a c = 0
  · refine .inr ⟨h, by unfold meaR; rw [if_pos h], by unfold meaR; rw [if_pos h], ?_⟩
    rcases bnd_ways l a c with ⟨h1, h2, _⟩ | ⟨_, h2, _⟩ | ⟨h1, h2, h3, h4, _⟩
    · rw [h2] at h; exact absurd h h1
    · rw [h2] at h; cases h
    · rcases ex_ways l a c false with ⟨q1, q2, _⟩ | ⟨_, q2, _⟩ | ⟨_, q2, q3, _, _, q6⟩
      · rw [h1] at q2; exact absurd q2.symm q1
      · rw [h1] at q2; cases q2
      · have e2 : exE l a c true = 0 := by rw [exE_is]; exact h1
        have e3 : exN l a c true = (bst l c true a).1 := by unfold exN; rw [if_pos e2]
        have b1 := bst_rng (c := c) (s := a) (fwd_of q6.1) q6.2.1 q6.2.2.2 false
        have b2 := bst_rng (c := c) (s := a) (fwd_of q6.1) q6.2.1 q6.2.2.2 true
        rw [h3, h4, q3, e3]
        exact ⟨⟨by omega, by omega⟩, ⟨q6.2.1, q6.2.2.2⟩, b1, b2⟩
  · exact .inl ⟨h, by unfold meaR; rw [if_neg h], by unfold meaR; rw [if_neg h], trivial⟩
end Go.Sy
