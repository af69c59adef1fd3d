/- Two phases on one grid: masses, momentum, sums. -/
import Derived.Test.YtijealodlgdgaaaSyK
import Derived.Test.YtijealodlgdgaaaSpGrid
set_option linter.unusedSimpArgs false
set_option linter.unusedVariables false
namespace Go.Sy
theorem addC_nil (ys : List Cel) : addC [] ys = [] := rfl
theorem addC_cons (x : Cel) (xs : List Cel) (y : Cel) (ys : List Cel) : addC (x :: xs) (y :: ys) = x.add y :: addC xs ys := by
  unfold addC
  rw [List.length_cons, List.range_succ_eq_map, List.map_cons, List.map_map]
  rfl
theorem addC_length (xs ys : List Cel) : (addC xs ys).length = xs.length := by simp [addC]
theorem sums_addC : ∀ {xs ys : List Cel}, xs.length = ys.length → massL (addC xs ys) = massL xs + massL ys ∧ eastL (addC xs ys) = eastL xs + eastL ys ∧ northL (addC xs ys) = northL xs + northL ys
  | [], [], _ => by simp [addC_nil, massL, eastL, northL]
  | x :: xs, y :: ys, h => by
    have := sums_addC (xs := xs) (ys := ys) (by simpa using h)
    rw [addC_cons]
    simp only [massL, eastL, northL, Cel.m, Cel.add]
    omega
theorem okL_addC : ∀ {xs ys : List Cel}, xs.length = ys.length → okL xs = true → okL ys = true → massL xs + massL ys ≤ 1000000000 → okL (addC xs ys) = true
  | [], [], _, _, _, _ => rfl
  | x :: xs, y :: ys, h, hx, hy, hm => by
    have hx := okL_iff.1 hx
    have hy := okL_iff.1 hy
    have fx := Cel.ok_iff.1 (hx x (by simp))
    have fy := Cel.ok_iff.1 (hy y (by simp))
    have nx := massL_nonneg fun c hc => hx c (List.mem_cons_of_mem x hc)
    have ny := massL_nonneg fun c hc => hy c (List.mem_cons_of_mem y hc)
    simp only [massL, Cel.m] at hm
    have ih := okL_addC (xs := xs) (ys := ys) (by simpa using h) (okL_iff.2 fun c hc => hx c (List.mem_cons_of_mem x hc)) (okL_iff.2 fun c hc => hy c (List.mem_cons_of_mem y hc)) (by omega)
    rw [addC_cons]
    refine okL_iff.2 fun c hc => ?_
    rcases List.mem_cons.1 hc with rfl | hc
    · rw [Cel.ok_iff]; simp only [Cel.add]; omega
    · exact okL_iff.1 ih c hc
theorem gok_add {a b : Grd} (ha : a.ok = true) (hb : b.ok = true) (hw : a.w = b.w) (hh : a.h = b.h) :
    (⟨a.w, a.h, addC a.cs b.cs⟩ : Grd).ok = decide (massL (addC a.cs b.cs) ≤ 1000000000) ∧ massL (addC a.cs b.cs) = massL a.cs + massL b.cs ∧ a.cs.length = b.cs.length := by
  obtain ⟨a1, a2, a3, a4⟩ := Grd.ok_iff.1 ha
  obtain ⟨b1, b2, b3, b4⟩ := Grd.ok_iff.1 hb
  have hl : a.cs.length = b.cs.length := by rw [← hw, ← hh, ← a2] at b2; omega
  have hs := (sums_addC hl).1
  refine ⟨?_, hs, hl⟩
  rw [Bool.eq_iff_iff, Grd.ok_iff, decide_eq_true_eq]
  refine ⟨fun x => x.2.2.2, fun x => ⟨a1, by rw [addC_length]; exact a2, okL_iff.1 (okL_addC hl (gok_okL ha) (gok_okL hb) (by have x : massL (addC a.cs b.cs) ≤ 1000000000 := x; omega)), x⟩⟩
theorem add_ways (a b : Grd) : (a.ok = false ∧ True ∧ addE a b = 1 ∧ addG a b = ⟨0, 0, []⟩) ∨ (a.ok = true ∧ b.ok = false ∧ addE a b = 1 ∧ addG a b = ⟨0, 0, []⟩) ∨
    (a.ok = true ∧ b.ok = true ∧ ¬ (a.w = b.w ∧ a.h = b.h) ∧ addE a b = 9 ∧ addG a b = ⟨0, 0, []⟩) ∨
    (a.ok = true ∧ b.ok = true ∧ (a.w = b.w ∧ a.h = b.h) ∧ 1000000000 < massL (addC a.cs b.cs) ∧ addE a b = 4 ∧ addG a b = ⟨0, 0, []⟩) ∨
    (a.ok = true ∧ b.ok = true ∧ (a.w = b.w ∧ a.h = b.h) ∧ massL (addC a.cs b.cs) ≤ 1000000000 ∧ addE a b = 0 ∧ addG a b = ⟨a.w, a.h, addC a.cs b.cs⟩) := by
  have hG : addE a b ≠ 0 → addG a b = ⟨0, 0, []⟩ := fun h => if_neg h
  cases ha : a.ok
  · have he : addE a b = 1 := by simp [addE, ha]
    exact .inl ⟨rfl, trivial, he, hG (by omega)⟩
  cases hb : b.ok
  · have he : addE a b = 1 := by simp [addE, ha, hb]
    exact .inr (.inl ⟨rfl, rfl, he, hG (by omega)⟩)
  rcases Decidable.em (a.w = b.w ∧ a.h = b.h) with hs | hs
  · rcases Decidable.em (massL (addC a.cs b.cs) ≤ 1000000000) with hm | hm
    · have he : addE a b = 0 := by unfold addE; rw [ha, hb, Bool.and_true, if_pos rfl, if_pos hs, if_pos hm]
      exact .inr (.inr (.inr (.inr ⟨rfl, rfl, hs, hm, he, if_pos he⟩)))
    · have he : addE a b = 4 := by unfold addE; rw [ha, hb, Bool.and_true, if_pos rfl, if_pos hs, if_neg hm]
      exact .inr (.inr (.inr (.inl ⟨rfl, rfl, hs, by omega, he, hG (by omega)⟩)))
  · have he : addE a b = 9 := by unfold addE; rw [ha, hb, Bool.and_true, if_pos rfl, if_neg hs]
    exact .inr (.inr (.inl ⟨rfl, rfl, hs, he, hG (by omega)⟩))
theorem add_ways4 (a b : Grd) : (a.ok = false ∧ True ∧ addE a b = 1 ∧ addG a b = ⟨0, 0, []⟩) ∨ (a.ok = true ∧ b.ok = false ∧ addE a b = 1 ∧ addG a b = ⟨0, 0, []⟩) ∨
    (a.ok = true ∧ b.ok = true ∧ ¬ (a.w = b.w ∧ a.h = b.h) ∧ addE a b = 9 ∧ addG a b = ⟨0, 0, []⟩) ∨ (a.ok = true ∧ b.ok = true ∧ (a.w = b.w ∧ a.h = b.h)) := by
  rcases add_ways a b with h | h | h | h | h
  · exact .inl h
  · exact .inr (.inl h)
  · exact .inr (.inr (.inl h))
  · exact .inr (.inr (.inr ⟨h.1, h.2.1, h.2.2.1⟩))
  · exact .inr (.inr (.inr ⟨h.1, h.2.1, h.2.2.1⟩))
theorem add_late_t {a b : Grd} (ha : a.ok = true) (hb : b.ok = true) (hs : a.w = b.w ∧ a.h = b.h) (h : massL (addC a.cs b.cs) ≤ 1000000000 ∨ (⟨a.w, a.h, prog (fun j => (a.cs.getD j default).add (b.cs.getD j default)) b.cs.length a.cs⟩ : Grd).ok = true) : addE a b = 0 ∧ addG a b = ⟨a.w, a.h, addC a.cs b.cs⟩ := by
  obtain ⟨h1, h2, h3⟩ := gok_add ha hb hs.1 hs.2
  have hm : massL (addC a.cs b.cs) ≤ 1000000000 := by
    rcases h with h | h
    · exact h
    · rw [prog_full _ _ (by omega)] at h
      have h : (⟨a.w, a.h, addC a.cs b.cs⟩ : Grd).ok = true := h
      rw [h1] at h; simpa using h
  have he : addE a b = 0 := by unfold addE; rw [ha, hb, Bool.and_true, if_pos rfl, if_pos hs, if_pos hm]
  exact ⟨he, if_pos he⟩
theorem add_late_f {a b : Grd} (ha : a.ok = true) (hb : b.ok = true) (hs : a.w = b.w ∧ a.h = b.h) (h : 1000000000 < massL (addC a.cs b.cs) ∨ (⟨a.w, a.h, prog (fun j => (a.cs.getD j default).add (b.cs.getD j default)) b.cs.length a.cs⟩ : Grd).ok = false) : addE a b = 4 ∧ addG a b = ⟨0, 0, []⟩ := by
  obtain ⟨h1, h2, h3⟩ := gok_add ha hb hs.1 hs.2
  have hm : ¬ massL (addC a.cs b.cs) ≤ 1000000000 := by
    rcases h with h | h
    · omega
    · rw [prog_full _ _ (by omega)] at h
      have h : (⟨a.w, a.h, addC a.cs b.cs⟩ : Grd).ok = false := h
      rw [h1] at h; simpa using h
  have he : addE a b = 4 := by unfold addE; rw [ha, hb, Bool.and_true, if_pos rfl, if_pos hs, if_neg hm]
  exact ⟨he, if_neg (by omega)⟩
theorem late_t1 {a b : Grd} {k : Nat} (ha : a.ok = true) (hb : b.ok = true) (hs : a.w = b.w ∧ a.h = b.h) (hk : b.cs.length ≤ k) (h : (⟨a.w, a.h, prog (fun j => (a.cs.getD j default).add (b.cs.getD j default)) k a.cs⟩ : Grd).ok = true) : (addE a b = 0 ∧ addG a b = ⟨a.w, a.h, addC a.cs b.cs⟩) ∧ prog (fun j => (a.cs.getD j default).add (b.cs.getD j default)) k a.cs = addC a.cs b.cs := by
  obtain ⟨h1, h2, h3⟩ := gok_add ha hb hs.1 hs.2
  have e : prog (fun j => (a.cs.getD j default).add (b.cs.getD j default)) k a.cs = addC a.cs b.cs := prog_full _ _ (by omega)
  refine ⟨add_late_t ha hb hs (.inl ?_), e⟩
  rw [e, h1] at h; simpa using h
theorem late_f1 {a b : Grd} {k : Nat} (ha : a.ok = true) (hb : b.ok = true) (hs : a.w = b.w ∧ a.h = b.h) (hk : b.cs.length ≤ k) (h : (⟨a.w, a.h, prog (fun j => (a.cs.getD j default).add (b.cs.getD j default)) k a.cs⟩ : Grd).ok = false) : addE a b = 4 ∧ addG a b = ⟨0, 0, []⟩ := by
  obtain ⟨h1, h2, h3⟩ := gok_add ha hb hs.1 hs.2
  have e : prog (fun j => (a.cs.getD j default).add (b.cs.getD j default)) k a.cs = addC a.cs b.cs := prog_full _ _ (by omega)
  refine add_late_f ha hb hs (.inl ?_)
  rw [e, h1] at h; simpa using h
theorem late_t2 {a b : Grd} {k : Nat} (ha : a.ok = true) (hb : b.ok = true) (hs : a.w = b.w ∧ a.h = b.h) (hk : b.cs.length ≤ k) (h : massL (prog (fun j => (a.cs.getD j default).add (b.cs.getD j default)) k a.cs) ≤ 1000000000) : (addE a b = 0 ∧ addG a b = ⟨a.w, a.h, addC a.cs b.cs⟩) ∧ prog (fun j => (a.cs.getD j default).add (b.cs.getD j default)) k a.cs = addC a.cs b.cs := by
  obtain ⟨h1, h2, h3⟩ := gok_add ha hb hs.1 hs.2
  have e : prog (fun j => (a.cs.getD j default).add (b.cs.getD j default)) k a.cs = addC a.cs b.cs := prog_full _ _ (by omega)
  rw [e] at h
  exact ⟨add_late_t ha hb hs (.inl h), e⟩
theorem late_f2 {a b : Grd} {k : Nat} (ha : a.ok = true) (hb : b.ok = true) (hs : a.w = b.w ∧ a.h = b.h) (hk : b.cs.length ≤ k) (h : 1000000000 < massL (prog (fun j => (a.cs.getD j default).add (b.cs.getD j default)) k a.cs)) : addE a b = 4 ∧ addG a b = ⟨0, 0, []⟩ := by
  obtain ⟨h1, h2, h3⟩ := gok_add ha hb hs.1 hs.2
  have e : prog (fun j => (a.cs.getD j default).add (b.cs.getD j default)) k a.cs = addC a.cs b.cs := prog_full _ _ (by omega)
  rw [e] at h
  exact add_late_f ha hb hs (.inl h)
theorem Mix.eta (x : Mix) : (⟨x.w, x.h, x.a, x.b⟩ : Mix) = x := rfl
def Mix.ga (x : Mix) : Grd := ⟨x.w, x.h, x.a⟩
def Mix.gb (x : Mix) : Grd := ⟨x.w, x.h, x.b⟩
def Mix.ok (x : Mix) : Bool := x.ga.ok && (x.gb.ok && decide (massL x.a + massL x.b ≤ 1000000000))
def Mix.err (x : Mix) : Int := if x.ok then 0 else 1
theorem Mix.ok_t {x : Mix} (h : x.ok = true) : x.ga.ok = true ∧ x.gb.ok = true ∧ massL x.a + massL x.b ≤ 1000000000 ∧ x.a.length = x.b.length ∧ addE x.ga x.gb = 0 ∧ addG x.ga x.gb = ⟨x.w, x.h, addC x.a x.b⟩ ∧ (addG x.ga x.gb).ok = true ∧
    massL (addC x.a x.b) = massL x.a + massL x.b ∧ eastL (addC x.a x.b) = eastL x.a + eastL x.b ∧ northL (addC x.a x.b) = northL x.a + northL x.b := by
  unfold Mix.ok at h
  simp only [Bool.and_eq_true, decide_eq_true_eq] at h
  obtain ⟨ha, hb, hm⟩ := h
  obtain ⟨h1, h2, h3⟩ := gok_add ha hb rfl rfl
  have hs := sums_addC h3
  have he : addE x.ga x.gb = 0 := by
    unfold addE
    rw [ha, hb]
    have h4 : massL (addC x.ga.cs x.gb.cs) ≤ 1000000000 := by
      have : massL x.ga.cs + massL x.gb.cs ≤ 1000000000 := hm
      omega
    rw [Bool.and_true, if_pos rfl, if_pos ⟨rfl, rfl⟩, if_pos h4]
  have hg : addG x.ga x.gb = ⟨x.w, x.h, addC x.a x.b⟩ := by unfold addG; rw [if_pos he]; rfl
  refine ⟨ha, hb, hm, h3, he, hg, ?_, hs⟩
  rw [hg]
  have : (⟨x.w, x.h, addC x.a x.b⟩ : Grd).ok = decide (massL (addC x.a x.b) ≤ 1000000000) := h1
  rw [this, decide_eq_true_eq]
  have := hs.1
  simp only [Mix.ga, Mix.gb] at this
  omega
theorem mtell (x : Mix) : (x.ok = false ∧ x.err = 1) ∨ (x.ok = true ∧ x.err = 0 ∧ x.ga.ok = true ∧ x.gb.ok = true ∧ massL x.a + massL x.b ≤ 1000000000 ∧ x.a.length = x.b.length) := by
  cases h : x.ok
  · exact .inl ⟨rfl, by simp [Mix.err, h]⟩
  · have := Mix.ok_t h
    exact .inr ⟨rfl, by simp [Mix.err, h], this.1, this.2.1, this.2.2.1, this.2.2.2.1⟩
theorem mok_2 {x : Mix} (h : x.ga.ok = false) : x.ok = false := by simp [Mix.ok, h]
theorem mok_3 {x : Mix} (h : x.gb.ok = false) : x.ok = false := by
  cases hh : x.ok with
  | false => rfl
  | true => have := (Mix.ok_t hh).2.1; rw [h] at this; cases this
theorem mways (x : Mix) : ((⟨x.w, x.h, x.a⟩ : Grd).ok = false ∧ True ∧ (⟨x.w, x.h, x.a⟩ : Grd).err = 1 ∧ (⟨x.w, x.h, x.a⟩ : Grd).mass = 0 ∧ x.ok = false) ∨
    ((⟨x.w, x.h, x.a⟩ : Grd).ok = true ∧ (⟨x.w, x.h, x.b⟩ : Grd).ok = false ∧ (⟨x.w, x.h, x.a⟩ : Grd).err = 0 ∧ (⟨x.w, x.h, x.b⟩ : Grd).err = 1 ∧ (⟨x.w, x.h, x.b⟩ : Grd).mass = 0 ∧ (⟨x.w, x.h, x.a⟩ : Grd).mass = massL x.a ∧ 0 ≤ massL x.a ∧ massL x.a ≤ 1000000000 ∧ x.ok = false) ∨
    ((⟨x.w, x.h, x.a⟩ : Grd).ok = true ∧ (⟨x.w, x.h, x.b⟩ : Grd).ok = true ∧ (⟨x.w, x.h, x.a⟩ : Grd).err = 0 ∧ (⟨x.w, x.h, x.b⟩ : Grd).err = 0 ∧ (⟨x.w, x.h, x.a⟩ : Grd).mass = massL x.a ∧ (⟨x.w, x.h, x.b⟩ : Grd).mass = massL x.b ∧
      0 ≤ massL x.a ∧ massL x.a ≤ 1000000000 ∧ 0 ≤ massL x.b ∧ massL x.b ≤ 1000000000 ∧ x.a.length = x.b.length ∧ 1 ≤ x.a.length ∧ x.a.length ≤ 1024 ∧ x.ok = decide (massL x.a + massL x.b ≤ 1000000000)) := by
  have dok : x.ok = (x.ga.ok && (x.gb.ok && decide (massL x.a + massL x.b ≤ 1000000000))) := rfl
  rcases gtell x.ga with ⟨h1, h2, h3, _⟩ | ⟨h1, h2, h3, _⟩
  · exact .inl ⟨h1, trivial, h2, h3, by rw [dok, h1]; rfl⟩
  · have b1 := gok_bds h1
    rcases gtell x.gb with ⟨g1, g2, g3, _⟩ | ⟨g1, g2, g3, _⟩
    · exact .inr (.inl ⟨h1, g1, h2, g2, g3, h3, b1.2.2.2.2.2.2.2.2.1, b1.2.2.2.2.2.2.2.2.2, by rw [dok, h1, g1]; rfl⟩)
    · have b2 := gok_bds g1
      have hl : x.a.length = x.b.length := by
        have q1 : (x.a.length : Int) = x.w * x.h := b1.2.2.2.2.2.1
        have q2 : (x.b.length : Int) = x.w * x.h := b2.2.2.2.2.2.1
        omega
      exact .inr (.inr ⟨h1, g1, h2, g2, h3, g3, b1.2.2.2.2.2.2.2.2.1, b1.2.2.2.2.2.2.2.2.2, b2.2.2.2.2.2.2.2.2.1, b2.2.2.2.2.2.2.2.2.2, hl, b1.2.2.2.2.2.2.2.1, b1.2.2.2.2.2.2.1, by rw [dok, h1, g1]; rfl⟩)
theorem mfull (x : Mix) : (x.ok = false ∧ x.err = 1) ∨ (x.ok = true ∧ x.err = 0 ∧ (⟨x.w, x.h, x.a⟩ : Grd).ok = true ∧ (⟨x.w, x.h, x.b⟩ : Grd).ok = true ∧ (⟨x.w, x.h, x.a⟩ : Grd).err = 0 ∧ (⟨x.w, x.h, x.b⟩ : Grd).err = 0 ∧
      (⟨x.w, x.h, x.a⟩ : Grd).mass = massL x.a ∧ (⟨x.w, x.h, x.b⟩ : Grd).mass = massL x.b ∧ okL x.a = true ∧ okL x.b = true ∧ massL x.a + massL x.b ≤ 1000000000 ∧ (0 ≤ massL x.a ∧ 0 ≤ massL x.b ∧ x.a.length = x.b.length ∧ 1 ≤ x.a.length ∧ x.a.length ≤ 1024) ∧
      (-(massL x.a) ≤ eastL x.a ∧ eastL x.a ≤ massL x.a ∧ -(massL x.a) ≤ northL x.a ∧ northL x.a ≤ massL x.a) ∧ (-(massL x.b) ≤ eastL x.b ∧ eastL x.b ≤ massL x.b ∧ -(massL x.b) ≤ northL x.b ∧ northL x.b ≤ massL x.b) ∧
      addE ⟨x.w, x.h, x.a⟩ ⟨x.w, x.h, x.b⟩ = 0 ∧ addG ⟨x.w, x.h, x.a⟩ ⟨x.w, x.h, x.b⟩ = ⟨x.w, x.h, addC x.a x.b⟩ ∧ (⟨x.w, x.h, addC x.a x.b⟩ : Grd).err = 0 ∧ (⟨x.w, x.h, addC x.a x.b⟩ : Grd).mass = massL x.a + massL x.b ∧
      (⟨x.w, x.h, addC x.a x.b⟩ : Grd).east = eastL x.a + eastL x.b ∧ (⟨x.w, x.h, addC x.a x.b⟩ : Grd).north = northL x.a + northL x.b) := by
  cases h : x.ok
  · exact .inl ⟨rfl, by simp [Mix.err, h]⟩
  · obtain ⟨ha, hb, hm, hl, he, hg, hok, s1, s2, s3⟩ := Mix.ok_t h
    have b1 := gok_bds ha
    have b2 := gok_bds hb
    have t1 := Grd.tell_t ha
    have t2 := Grd.tell_t hb
    rw [hg] at hok
    have t3 := Grd.tell_t hok
    exact .inr ⟨rfl, by simp [Mix.err, h], ha, hb, t1.1, t2.1, t1.2.1, t2.2.1, gok_okL ha, gok_okL hb, hm, ⟨b1.2.2.2.2.2.2.2.2.1, b2.2.2.2.2.2.2.2.2.1, hl, b1.2.2.2.2.2.2.2.1, b1.2.2.2.2.2.2.1⟩,
      mom_bd (okL_iff.1 (gok_okL ha)), mom_bd (okL_iff.1 (gok_okL hb)), he, hg, t3.1, t3.2.1.trans s1, t3.2.2.1.trans s2, t3.2.2.2.trans s3⟩
end Go.Sy
