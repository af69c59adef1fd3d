/- The first stretch at which gauges contradict each other. -/
import Derived.Test.YtijealodlgdgaaaSpProof
set_option linter.unusedSimpArgs false
set_option linter.unusedVariables false
namespace Go.Sy
open Classical

structure isW (l : List Gau) (a b : Int) : Prop where
  lt : a < b
  wr : bndE l a b = 10
  fr : a ∈ frs l l.length
  to_ : b ∈ tos l l.length
/-- The least wrong stretch. -/
structure minW (l : List Gau) (p : Int × Int) : Prop where
  w : isW l p.1 p.2
  le : ∀ a b, isW l a b → p.1 < a ∨ (p.1 = a ∧ p.2 ≤ b)
theorem minW_one {l : List Gau} {p q : Int × Int} (hp : minW l p) (hq : minW l q) : p = q := by
  have h1 := hp.le _ _ hq.w
  have h2 := hq.le _ _ hp.w
  exact Prod.ext (by omega) (by omega)
noncomputable def wrP (l : List Gau) : Option (Int × Int) := if h : ∃ p, minW l p then some h.choose else none
theorem wrP_some {l : List Gau} {p : Int × Int} (h : minW l p) : wrP l = some p := by
  have he : ∃ p, minW l p := ⟨p, h⟩
  unfold wrP
  rw [dif_pos he, minW_one he.choose_spec h]
theorem wrP_none {l : List Gau} (h : ∀ a b, ¬ isW l a b) : wrP l = none := by
  unfold wrP
  rw [dif_neg]
  rintro ⟨p, hp⟩
  exact h _ _ hp.w
noncomputable def wrA (l : List Gau) : Int := ((wrP l).getD (0, 0)).1
noncomputable def wrB (l : List Gau) : Int := ((wrP l).getD (0, 0)).2
noncomputable def wrE (l : List Gau) : Int := if gausB l = true then (if (wrP l).isSome then 0 else 8) else 1
theorem frs_at {l : List Gau} {i : Nat} (hi : i < l.length) : (l.getD i default).f ∈ frs l l.length := by
  unfold frs
  rw [List.take_length]
  exact List.mem_map.2 ⟨_, by rw [List.getD_eq_getElem?_getD, List.getElem?_eq_getElem hi]; exact List.getElem_mem hi, rfl⟩
theorem tos_at {l : List Gau} {i : Nat} (hi : i < l.length) : (l.getD i default).t ∈ tos l l.length := by
  unfold tos
  rw [List.take_length]
  exact List.mem_map.2 ⟨_, by rw [List.getD_eq_getElem?_getD, List.getElem?_eq_getElem hi]; exact List.getElem_mem hi, rfl⟩
theorem frs_mem {l : List Gau} {a : Int} (h : a ∈ frs l l.length) : ∃ i, i < l.length ∧ (l.getD i default).f = a := by
  unfold frs at h
  rw [List.take_length] at h
  obtain ⟨u, hu, rfl⟩ := List.mem_map.1 h
  obtain ⟨i, hi, rfl⟩ := List.mem_iff_getElem.1 hu
  exact ⟨i, hi, by rw [List.getD_eq_getElem?_getD, List.getElem?_eq_getElem hi]; rfl⟩
theorem tos_mem {l : List Gau} {a : Int} (h : a ∈ tos l l.length) : ∃ i, i < l.length ∧ (l.getD i default).t = a := by
  unfold tos at h
  rw [List.take_length] at h
  obtain ⟨u, hu, rfl⟩ := List.mem_map.1 h
  obtain ⟨i, hi, rfl⟩ := List.mem_iff_getElem.1 hu
  exact ⟨i, hi, by rw [List.getD_eq_getElem?_getD, List.getElem?_eq_getElem hi]; rfl⟩

/-! ### The reference's double loop -/
/-- What is kept behind the rows ahead of i and the first k of row i. -/
structure rwI (l : List Gau) (i k : Nat) (a b : Int) : Prop where
  no : a < 0 → ∀ i' k', i' < l.length → k' < l.length → (i' < i ∨ (i' = i ∧ k' < k)) → ¬ isW l (l.getD i' default).f (l.getD k' default).t
  w : 0 ≤ a → isW l a b
  le : 0 ≤ a → ∀ i' k', i' < l.length → k' < l.length → (i' < i ∨ (i' = i ∧ k' < k)) → isW l (l.getD i' default).f (l.getD k' default).t → a < (l.getD i' default).f ∨ (a = (l.getD i' default).f ∧ b ≤ (l.getD k' default).t)
  lo : -1 ≤ a
theorem rwI_zero (l : List Gau) : rwI l 0 0 (-1) (-1) := ⟨fun _ i' k' _ _ h => by omega, fun h => by omega, fun h => by omega, by omega⟩
theorem rwI_row {l : List Gau} {i : Nat} {a b : Int} (h : rwI l i l.length a b) : rwI l (i + 1) 0 a b :=
  ⟨fun ha i' k' hi hk hs => h.no ha i' k' hi hk (by omega), h.w, fun ha i' k' hi hk hs => h.le ha i' k' hi hk (by omega), h.lo⟩
theorem rwI_skip {l : List Gau} {i k : Nat} {a b : Int} (h : rwI l i k a b) (hn : isW l (l.getD i default).f (l.getD k default).t → 0 ≤ a ∧ (a < (l.getD i default).f ∨ (a = (l.getD i default).f ∧ b ≤ (l.getD k default).t))) : rwI l i (k + 1) a b :=
  ⟨fun ha i' k' hi hk hs => by
    by_cases e : i' = i ∧ k' = k
    · obtain ⟨rfl, rfl⟩ := e
      intro q; have := (hn q).1; omega
    · exact h.no ha i' k' hi hk (by omega), h.w, fun ha i' k' hi hk hs hw => by
    by_cases e : i' = i ∧ k' = k
    · obtain ⟨rfl, rfl⟩ := e
      exact (hn hw).2
    · exact h.le ha i' k' hi hk (by omega) hw, h.lo⟩
theorem rwI_take {l : List Gau} {i k : Nat} {a b : Int} (h : rwI l i k a b) (hw : isW l (l.getD i default).f (l.getD k default).t) (h0 : 0 ≤ (l.getD i default).f)
    (hn : ¬ (0 ≤ a ∧ (a < (l.getD i default).f ∨ (a = (l.getD i default).f ∧ b ≤ (l.getD k default).t)))) : rwI l i (k + 1) (l.getD i default).f (l.getD k default).t :=
  ⟨fun ha => by omega, fun _ => hw, fun _ i' k' hi hk hs hw' => by
    by_cases e : i' = i ∧ k' = k
    · obtain ⟨rfl, rfl⟩ := e
      exact .inr ⟨rfl, Int.le_refl _⟩
    · rcases Int.lt_or_le a 0 with ha | ha
      · exact absurd hw' (h.no ha i' k' hi hk (by omega))
      · have := h.le ha i' k' hi hk (by omega) hw'
        omega, by omega⟩
theorem rwI_end {l : List Gau} {a b : Int} (h : rwI l l.length 0 a b) : (a < 0 ∧ wrP l = none) ∨ (0 ≤ a ∧ wrP l = some (a, b)) := by
  have all : ∀ x y, isW l x y → ∃ i k, i < l.length ∧ k < l.length ∧ (l.getD i default).f = x ∧ (l.getD k default).t = y := fun x y q => by
    obtain ⟨i, hi, e1⟩ := frs_mem q.fr
    obtain ⟨k, hk, e2⟩ := tos_mem q.to_
    exact ⟨i, k, hi, hk, e1, e2⟩
  rcases Int.lt_or_le a 0 with ha | ha
  · refine .inl ⟨ha, wrP_none fun x y q => ?_⟩
    obtain ⟨i, k, hi, hk, rfl, rfl⟩ := all x y q
    exact h.no ha i k hi hk (.inl hi) q
  · refine .inr ⟨ha, wrP_some ⟨h.w ha, fun x y q => ?_⟩⟩
    obtain ⟨i, k, hi, hk, rfl, rfl⟩ := all x y q
    exact h.le ha i k hi hk (.inl hi) q

/-! ### The program's search over sorted lists -/
theorem srt_le (xs : List Int) {i j : Nat} (hij : i ≤ j) (hj : j < (srt xs).length) : (srt xs).getD i 0 ≤ (srt xs).getD j 0 := by
  have hp : (srt xs).Pairwise (fun x y => decide (x ≤ y) = true) := by
    unfold srt
    exact List.pairwise_mergeSort (fun a b c h1 h2 => by simp only [decide_eq_true_eq] at *; omega) (fun a b => by simp only [Bool.or_eq_true, decide_eq_true_eq]; omega) xs
  rcases Nat.lt_or_ge i j with h | h
  · have := List.pairwise_iff_getElem.1 hp i j (by omega) hj h
    rw [List.getD_eq_getElem?_getD, List.getD_eq_getElem?_getD, List.getElem?_eq_getElem hj, List.getElem?_eq_getElem (by omega : i < (srt xs).length)]
    exact of_decide_eq_true this
  · have e : i = j := by omega
    subst e; exact Int.le_refl _
theorem srt_at {xs : List Int} {x : Int} (h : x ∈ xs) : ∃ i, i < (srt xs).length ∧ (srt xs).getD i 0 = x := by
  obtain ⟨i, hi, e⟩ := List.mem_iff_getElem.1 (srt_mem.2 h)
  exact ⟨i, hi, by rw [List.getD_eq_getElem?_getD, List.getElem?_eq_getElem hi]; exact e⟩
structure pwI (l : List Gau) (i j : Nat) : Prop where
  no : ∀ i' j', i' < l.length → j' < l.length → (i' < i ∨ (i' = i ∧ j' < j)) → ¬ isW l ((srt (frs l l.length)).getD i' 0) ((srt (tos l l.length)).getD j' 0)
theorem pwI_zero (l : List Gau) : pwI l 0 0 := ⟨fun i' j' _ _ h => by omega⟩
theorem pwI_row {l : List Gau} {i : Nat} (h : pwI l i l.length) : pwI l (i + 1) 0 := ⟨fun i' j' hi hj hs => h.no i' j' hi hj (by omega)⟩
theorem pwI_next {l : List Gau} {i j : Nat} (h : pwI l i j) (hn : ¬ isW l ((srt (frs l l.length)).getD i 0) ((srt (tos l l.length)).getD j 0)) : pwI l i (j + 1) := ⟨fun i' j' hi hj hs => by
  by_cases e : i' = i ∧ j' = j
  · obtain ⟨rfl, rfl⟩ := e; exact hn
  · exact h.no i' j' hi hj (by omega)⟩
theorem fl (l : List Gau) : (srt (frs l l.length)).length = l.length ∧ (srt (tos l l.length)).length = l.length := by
  rw [srt_len, srt_len, frs_len (Nat.le_refl _), tos_len (Nat.le_refl _)]; exact ⟨rfl, rfl⟩
theorem pw_isW {l : List Gau} {i j : Nat} (hi : i < l.length) (hj : j < l.length) (h1 : (srt (frs l l.length)).getD i 0 < (srt (tos l l.length)).getD j 0) (h2 : bndE l ((srt (frs l l.length)).getD i 0) ((srt (tos l l.length)).getD j 0) = 10) :
    isW l ((srt (frs l l.length)).getD i 0) ((srt (tos l l.length)).getD j 0) :=
  ⟨h1, h2, srt_in (P := fun x => x ∈ frs l l.length) (fun x hx => hx) i (by rw [(fl l).1]; exact hi), srt_in (P := fun x => x ∈ tos l l.length) (fun x hx => hx) j (by rw [(fl l).2]; exact hj)⟩
theorem pw_hit {l : List Gau} {i j : Nat} (h : pwI l i j) (hi : i < l.length) (hj : j < l.length) (hw : isW l ((srt (frs l l.length)).getD i 0) ((srt (tos l l.length)).getD j 0)) :
    wrP l = some ((srt (frs l l.length)).getD i 0, (srt (tos l l.length)).getD j 0) := by
  refine wrP_some ⟨hw, fun x y q => ?_⟩
  obtain ⟨f1, f2⟩ := fl l
  obtain ⟨i', hi', rfl⟩ := srt_at q.fr
  obtain ⟨j', hj', rfl⟩ := srt_at q.to_
  rw [f1] at hi'; rw [f2] at hj'
  simp only
  rcases Nat.lt_or_ge i' i with hlt | hge
  · exact absurd q (h.no i' j' hi' hj' (.inl hlt))
  · have hle := srt_le (frs l l.length) hge (by rw [f1]; exact hi')
    rcases Int.lt_or_le ((srt (frs l l.length)).getD i 0) ((srt (frs l l.length)).getD i' 0) with h1 | h1
    · exact .inl h1
    · have e : (srt (frs l l.length)).getD i 0 = (srt (frs l l.length)).getD i' 0 := by omega
      refine .inr ⟨e, ?_⟩
      rcases Nat.lt_or_ge j' j with hlt | hge2
      · rw [← e] at q
        exact absurd q (h.no i j' hi hj' (.inr ⟨rfl, hlt⟩))
      · exact srt_le (tos l l.length) hge2 (by rw [f2]; exact hj')
theorem pw_end {l : List Gau} (h : pwI l l.length 0) : wrP l = none := wrP_none fun x y q => by
  obtain ⟨f1, f2⟩ := fl l
  obtain ⟨i', hi', rfl⟩ := srt_at q.fr
  obtain ⟨j', hj', rfl⟩ := srt_at q.to_
  rw [f1] at hi'; rw [f2] at hj'
  exact h.no i' j' hi' hj' (.inl hi') q
end Go.Sy
namespace Go.Sy
open Classical
noncomputable def rwN (l : List Gau) (i k : Nat) (x y : Int) : Int × Int :=
  if isW l (l.getD i default).f (l.getD k default).t ∧ ¬ (0 ≤ x ∧ (x < (l.getD i default).f ∨ (x = (l.getD i default).f ∧ y ≤ (l.getD k default).t))) then ((l.getD i default).f, (l.getD k default).t) else (x, y)
theorem rw_go {l : List Gau} (hl : fwd l) {i k : Nat} {x y : Int} (hi : i < l.length) (hk : k ≤ l.length) (h : rwI l i k x y) :
    (k < l.length ∧ (l.getD k default).t ≤ (l.getD i default).f ∧ True ∧ rwN l i k x y = (x, y) ∧ rwI l i (k + 1) (rwN l i k x y).1 (rwN l i k x y).2) ∨
    (k < l.length ∧ (l.getD i default).f < (l.getD k default).t ∧ (0 ≤ x ∧ (x < (l.getD i default).f ∨ (x = (l.getD i default).f ∧ y ≤ (l.getD k default).t))) ∧ rwN l i k x y = (x, y) ∧ rwI l i (k + 1) (rwN l i k x y).1 (rwN l i k x y).2) ∨
    (k < l.length ∧ (l.getD i default).f < (l.getD k default).t ∧ (¬ (0 ≤ x ∧ (x < (l.getD i default).f ∨ (x = (l.getD i default).f ∧ y ≤ (l.getD k default).t))) ∧ bndE l (l.getD i default).f (l.getD k default).t ≠ 10) ∧ rwN l i k x y = (x, y) ∧ rwI l i (k + 1) (rwN l i k x y).1 (rwN l i k x y).2) ∨
    (k < l.length ∧ (l.getD i default).f < (l.getD k default).t ∧ (¬ (0 ≤ x ∧ (x < (l.getD i default).f ∨ (x = (l.getD i default).f ∧ y ≤ (l.getD k default).t))) ∧ bndE l (l.getD i default).f (l.getD k default).t = 10) ∧ rwN l i k x y = ((l.getD i default).f, (l.getD k default).t) ∧ rwI l i (k + 1) (rwN l i k x y).1 (rwN l i k x y).2) ∨
    (k = l.length ∧ True ∧ True ∧ True ∧ rwI l (i + 1) 0 x y) := by
  rcases Nat.lt_or_ge k l.length with hlt | hge
  · by_cases h1 : (l.getD k default).t ≤ (l.getD i default).f
    · have e : rwN l i k x y = (x, y) := if_neg fun q => by have := q.1.lt; omega
      exact .inl ⟨hlt, h1, trivial, e, by rw [e]; exact rwI_skip h fun q => by have := q.lt; omega⟩
    · by_cases h2 : 0 ≤ x ∧ (x < (l.getD i default).f ∨ (x = (l.getD i default).f ∧ y ≤ (l.getD k default).t))
      · have e : rwN l i k x y = (x, y) := if_neg fun q => q.2 h2
        exact .inr (.inl ⟨hlt, by omega, h2, e, by rw [e]; exact rwI_skip h fun _ => h2⟩)
      · by_cases h3 : bndE l (l.getD i default).f (l.getD k default).t = 10
        · have w : isW l (l.getD i default).f (l.getD k default).t := ⟨by omega, h3, frs_at hi, tos_at hlt⟩
          have e : rwN l i k x y = ((l.getD i default).f, (l.getD k default).t) := if_pos ⟨w, h2⟩
          have ho := fwd_at hl hi
          unfold Gau.Ok at ho
          exact .inr (.inr (.inr (.inl ⟨hlt, by omega, ⟨h2, h3⟩, e, by rw [e]; exact rwI_take h w (by omega) h2⟩)))
        · have e : rwN l i k x y = (x, y) := if_neg fun q => h3 q.1.wr
          exact .inr (.inr (.inl ⟨hlt, by omega, ⟨h2, h3⟩, e, by rw [e]; exact rwI_skip h fun q => absurd q.wr h3⟩))
  · have e : k = l.length := by omega
    subst e
    exact .inr (.inr (.inr (.inr ⟨rfl, trivial, trivial, trivial, rwI_row h⟩)))
/-- The answer, by ways. -/
theorem wr_end {l : List Gau} (hg : gausB l = true) {a b : Int} (h : rwI l l.length 0 a b) : (a < 0 ∧ wrA l = 0 ∧ wrB l = 0 ∧ wrE l = 8) ∨ (0 ≤ a ∧ wrA l = a ∧ wrB l = b ∧ wrE l = 0) := by
  rcases rwI_end h with ⟨h1, h2⟩ | ⟨h1, h2⟩
  · exact .inl ⟨h1, by unfold wrA; rw [h2]; rfl, by unfold wrB; rw [h2]; rfl, by unfold wrE; rw [hg, h2]; rfl⟩
  · exact .inr ⟨h1, by unfold wrA; rw [h2]; rfl, by unfold wrB; rw [h2]; rfl, by unfold wrE; rw [hg, h2]; rfl⟩
/-- The ways at the head of the outer loop. -/
theorem rw_out {l : List Gau} (hg : gausB l = true) {i : Nat} (hi : i ≤ l.length) {a b : Int} (h : rwI l i 0 a b) : (i < l.length ∧ True ∧ True ∧ True ∧ True) ∨ (i = l.length ∧ a < 0 ∧ wrA l = 0 ∧ wrB l = 0 ∧ wrE l = 8) ∨ (i = l.length ∧ 0 ≤ a ∧ wrA l = a ∧ wrB l = b ∧ wrE l = 0) := by
  rcases Nat.lt_or_ge i l.length with hlt | hge
  · exact .inl ⟨hlt, trivial, trivial, trivial, trivial⟩
  · have e : i = l.length := by omega
    subst e
    rcases wr_end hg h with q | q
    · exact .inr (.inl ⟨rfl, q⟩)
    · exact .inr (.inr ⟨rfl, q⟩)
theorem wr_val (l : List Gau) : (gausB l = false ∧ wrA l = 0 ∧ wrB l = 0 ∧ wrE l = 1) ∨ gausB l = true := by
  cases hg : gausB l
  · have hn : wrP l = none := wrP_none fun a b q => by
      have := q.wr
      rcases bnd_ways l a b with ⟨h1, h2, _⟩ | ⟨h1, _⟩ | ⟨_, h2, _⟩
      · rcases ex_ways l a b false with ⟨q1, q2, _⟩ | ⟨_, _, _, _, _, q6⟩ | ⟨_, _, _, _, _, q6⟩
        · rw [h2, q2] at this
          rcases str_ways l a b with ⟨_, e⟩ | ⟨h3, _⟩ | ⟨h3, _⟩
          · rw [e] at this; cases this
          · rw [hg] at h3; cases h3
          · rw [hg] at h3; cases h3
        · rw [hg] at q6; cases q6.1
        · rw [hg] at q6; cases q6.1
      · rcases ex_ways l a b false with ⟨q1, q2, _⟩ | ⟨_, _, _, _, _, q6⟩ | ⟨_, _, _, _, _, q6⟩
        · rw [h1] at q2; exact q1 q2.symm
        · rw [hg] at q6; cases q6.1
        · rw [hg] at q6; cases q6.1
      · rw [h2] at this; cases this
    exact .inl ⟨rfl, by unfold wrA; rw [hn]; rfl, by unfold wrB; rw [hn]; rfl, by unfold wrE; rw [hg]; rfl⟩
  · exact .inr rfl
/-- The ways at the heads of the program's loops. -/
theorem pw_out {l : List Gau} (hg : gausB l = true) {i : Nat} (hi : i ≤ l.length) (h : pwI l i 0) : (i < l.length ∧ True ∧ True ∧ True) ∨ (i = l.length ∧ wrA l = 0 ∧ wrB l = 0 ∧ wrE l = 8) := by
  rcases Nat.lt_or_ge i l.length with hlt | hge
  · exact .inl ⟨hlt, trivial, trivial, trivial⟩
  · have e : i = l.length := by omega
    subst e
    have h2 := pw_end h
    exact .inr ⟨rfl, by unfold wrA; rw [h2]; rfl, by unfold wrB; rw [h2]; rfl, by unfold wrE; rw [hg, h2]; rfl⟩
theorem pw_go {l : List Gau} (hg : gausB l = true) {i j : Nat} (hi : i < l.length) (hj : j ≤ l.length) (h : pwI l i j) :
    (j < l.length ∧ (srt (tos l l.length)).getD j 0 ≤ (srt (frs l l.length)).getD i 0 ∧ True ∧ True ∧ True ∧ pwI l i (j + 1)) ∨
    (j < l.length ∧ (srt (frs l l.length)).getD i 0 < (srt (tos l l.length)).getD j 0 ∧ bndE l ((srt (frs l l.length)).getD i 0) ((srt (tos l l.length)).getD j 0) ≠ 10 ∧ True ∧ True ∧ pwI l i (j + 1)) ∨
    (j < l.length ∧ (srt (frs l l.length)).getD i 0 < (srt (tos l l.length)).getD j 0 ∧ bndE l ((srt (frs l l.length)).getD i 0) ((srt (tos l l.length)).getD j 0) = 10 ∧ wrA l = (srt (frs l l.length)).getD i 0 ∧ wrB l = (srt (tos l l.length)).getD j 0 ∧ wrE l = 0) ∨
    (j = l.length ∧ True ∧ True ∧ True ∧ True ∧ pwI l (i + 1) 0) := by
  rcases Nat.lt_or_ge j l.length with hlt | hge
  · by_cases h1 : (srt (tos l l.length)).getD j 0 ≤ (srt (frs l l.length)).getD i 0
    · exact .inl ⟨hlt, h1, trivial, trivial, trivial, pwI_next h fun q => by have := q.lt; omega⟩
    · by_cases h2 : bndE l ((srt (frs l l.length)).getD i 0) ((srt (tos l l.length)).getD j 0) = 10
      · have hh := pw_hit h hi hlt (pw_isW hi hlt (by omega) h2)
        exact .inr (.inr (.inl ⟨hlt, by omega, h2, by unfold wrA; rw [hh]; rfl, by unfold wrB; rw [hh]; rfl, by unfold wrE; rw [hg, hh]; rfl⟩))
      · exact .inr (.inl ⟨hlt, by omega, h2, trivial, trivial, pwI_next h fun q => h2 q.wr⟩)
  · have e : j = l.length := by omega
    subst e
    exact .inr (.inr (.inr ⟨rfl, trivial, trivial, trivial, trivial, pwI_row h⟩))
/-- The ways of the law on proofs. -/
theorem prf_ways (l : List Gau) (a c : Int) (X Y : List Int) : (exE l a c false ≠ 0 ∧ bndE l a c ≠ 10 ∧ prvB l a c X Y = false ∧ True ∧ True) ∨
    (exE l a c false = 0 ∧ exN l a c false ≤ exN l a c true ∧ bndE l a c = 0 ∧ prvB l a c X Y = false ∧ True) ∨
    (exE l a c false = 0 ∧ exN l a c true < exN l a c false ∧ bndE l a c = 10 ∧ prvB l a c (exL l a c false) (exL l a c true) = true ∧ wrE l = 0) := by
  have prv : prvB l a c X Y = true → strE l a c = 0 ∧ (bst l c false a).2 = true ∧ (bst l c true a).1 < (bst l c false a).1 := fun q => by
    rcases prv_ways l a c X Y with ⟨_, h, _⟩ | ⟨h0, h, ⟨hg, _⟩, _⟩
    · rw [h] at q; cases q
    · rw [h] at q
      simp only [Bool.and_eq_true, decide_eq_true_eq] at q
      obtain ⟨q1, q2, q3⟩ := q
      have hl := fwd_of hg
      have b1 := td_best hl q1 false
      have b2 := td_best hl q2 true
      have eX : tdL l a X = chZ l false X X.length := by
        unfold tdB at q1; unfold tdL; rw [if_pos (of_decide_eq_true q1).1, chZ_lo]
      have eY : tdH l a Y = chZ l true Y Y.length := by
        unfold tdB at q2; unfold tdH; rw [if_pos (of_decide_eq_true q2).1, chZ_hi]
      have c1 := b1.2; have c2 := b2.2
      unfold btr at c1 c2
      simp only [if_true, if_false, Bool.false_eq_true, decide_eq_false_iff_not] at c1 c2
      rw [eX, eY] at q3
      exact ⟨h0, b1.1, by omega⟩
  rcases ex_ways l a c false with ⟨h1, h2, _⟩ | ⟨h1, h2, _, _, h5, _⟩ | ⟨h1, h2, h3, h4, h5, h6⟩
  · refine .inl ⟨by rw [h2]; exact h1, ?_, ?_, trivial, trivial⟩
    · rcases bnd_ways l a c with ⟨_, e, _⟩ | ⟨e, _⟩ | ⟨e, _⟩
      · rw [e, h2]
        rcases str_ways l a c with ⟨_, e⟩ | ⟨_, _, e⟩ | ⟨_, _, e⟩ <;> rw [e] <;> decide
      · rw [h2] at e; exact absurd e h1
      · rw [h2] at e; exact absurd e h1
    · cases q : prvB l a c X Y
      · rfl
      · exact absurd (prv q).1 h1
  · refine .inl ⟨by rw [h2]; decide, ?_, ?_, trivial, trivial⟩
    · rcases bnd_ways l a c with ⟨_, e, _⟩ | ⟨e, _⟩ | ⟨e, _⟩
      · rw [e, h2]; decide
      · rw [h2] at e; cases e
      · rw [h2] at e; cases e
    · cases q : prvB l a c X Y
      · rfl
      · have := (prv q).2.1; rw [h5] at this; cases this
  · have e2 : exE l a c true = 0 := by rw [exE_is]; exact h2
    have eN : exN l a c true = (bst l c true a).1 := by unfold exN; rw [if_pos e2]
    have eL : exL l a c true = chn l c true a := by unfold exL; rw [if_pos e2]
    have hl := fwd_of h6.1
    rcases bnd_ways l a c with ⟨e, _⟩ | ⟨_, e, _, _, e4⟩ | ⟨_, e, _, _, e4⟩
    · exact absurd h2 e
    · have i2 : (bst l c true a).2 = true := by rw [← bst_is]; exact h5
      have t1 := chn_td hl (h := false) _ a (Nat.le_refl _) h5
      have t2 := chn_td hl (h := true) _ a (Nat.le_refl _) i2
      refine .inr (.inr ⟨h2, e4, e, ?_, ?_⟩)
      · unfold prvB
        rw [h4, eL, decide_eq_true h1, t1.1, t2.1]
        have eX : tdL l a (chn l c false a) = (bst l c false a).1 := by
          have q := t1.1
          unfold tdB at q; unfold tdL; rw [if_pos (of_decide_eq_true q).1, ← chZ_lo]; exact t1.2
        have eY : tdH l a (chn l c true a) = (bst l c true a).1 := by
          have q := t2.1
          unfold tdB at q; unfold tdH; rw [if_pos (of_decide_eq_true q).1, ← chZ_hi]; exact t2.2
        rw [eX, eY, ← h3, ← eN, decide_eq_true e4]; rfl
      · have hne : a ≠ c := by omega
        have hi := nxI_lt hl hne h5
        obtain ⟨q1, _⟩ := nx_bd (nxI_b hi)
        have ht : c ∈ tos l l.length := by
          have key : ∀ (n : Nat) (s : Int), (c - s).toNat ≤ n → s ≠ c → (bst l c false s).2 = true → c ∈ tos l l.length := by
            intro n
            induction n with
            | zero => intro s hs hne hb; have := bst_le hl hb; omega
            | succ n ih =>
              intro s hs hne hb
              have hi := nxI_lt hl hne hb
              obtain ⟨q1, q2, q3, _⟩ := nx_bd (nxI_b hi)
              have ho := fwd_at hl hi
              unfold Gau.Ok at ho
              by_cases e : (l.getD (nxI l c false s) default).t = c
              · rw [← e]; exact tos_at hi
              · exact ih _ (by omega) e q3
          exact key _ a (Nat.le_refl _) hne h5
        have hw : isW l a c := ⟨h6.2.2.1, e, by rw [← q1]; exact frs_at hi, ht⟩
        unfold wrE
        rw [h6.1, if_pos rfl]
        cases hp : wrP l with
        | some p => rfl
        | none =>
          exfalso
          have h0 : rwI l 0 0 (-1) (-1) := rwI_zero l
          have step : ∀ i, i ≤ l.length → ∃ x y, rwI l i 0 x y := by
            intro i
            induction i with
            | zero => intro _; exact ⟨_, _, h0⟩
            | succ i ih =>
              intro hi'
              obtain ⟨x, y, hx⟩ := ih (by omega)
              have row : ∀ k, k ≤ l.length → ∃ x y, rwI l i k x y := by
                intro k
                induction k with
                | zero => intro _; exact ⟨x, y, hx⟩
                | succ k ihk =>
                  intro hk
                  obtain ⟨x', y', hx'⟩ := ihk (by omega)
                  rcases rw_go hl (show i < l.length by omega) (show k ≤ l.length by omega) hx' with ⟨_, _, _, _, r⟩ | ⟨_, _, _, _, r⟩ | ⟨_, _, _, _, r⟩ | ⟨_, _, _, _, r⟩ | ⟨e, _⟩
                  · exact ⟨_, _, r⟩
                  · exact ⟨_, _, r⟩
                  · exact ⟨_, _, r⟩
                  · exact ⟨_, _, r⟩
                  · omega
              obtain ⟨x', y', hx'⟩ := row l.length (Nat.le_refl _)
              exact ⟨x', y', rwI_row hx'⟩
          obtain ⟨x, y, hx⟩ := step l.length (Nat.le_refl _)
          rcases rwI_end hx with ⟨hneg, _⟩ | ⟨_, hs⟩
          · obtain ⟨i, hi1, e1⟩ := frs_mem hw.fr
            obtain ⟨k, hk1, e2'⟩ := tos_mem hw.to_
            exact hx.no hneg i k hi1 hk1 (.inl hi1) (by rw [e1, e2']; exact hw)
          · rw [hp] at hs; cases hs
    · refine .inr (.inl ⟨h2, e4, e, ?_, trivial⟩)
      cases q : prvB l a c X Y
      · rfl
      · have := (prv q).2.2
        rw [h3, eN] at e4; omega
end Go.Sy
