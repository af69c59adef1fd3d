/- Rows of numbers in many places: what a row's head says, and what lies there. -/
import Derived.Test.YtijealodlgdgaaaSyK
import Derived.Test.YtijealodlgdgaaaSyZ
set_option linter.unusedSimpArgs false
set_option linter.unusedVariables false
namespace Go.Sy
open Go.RowKit

/-- The heads tell of these rows; what is not nil lies among ds. -/
structure okC (rows : List Hd) (ds : List (Nm × List Int)) (C : List (List Int)) : Prop where
  len : rows.length = C.length
  nil : ∀ k, k < C.length → C.getD k [] = [] → (rows.getD k default).nm = none
  at_ : ∀ k, k < C.length → C.getD k [] ≠ [] → ∃ nm, (rows.getD k default).nm = some nm ∧ (nm, C.getD k []) ∈ ds ∧ (rows.getD k default).len = (C.getD k []).length
def addB (a : Option Nm) (xs : List Int) (ds : List (Nm × List Int)) : List (Nm × List Int) :=
  match a with
  | some nm => (nm, xs) :: ds
  | none => ds
theorem addB_mem {a : Option Nm} {xs : List Int} {ds : List (Nm × List Int)} {p : Nm × List Int} (h : p ∈ addB a xs ds) : (a = some p.1 ∧ p.2 = xs) ∨ p ∈ ds := by
  cases a with
  | none => exact .inr h
  | some nm =>
    rcases List.mem_cons.1 h with rfl | h
    · exact .inl ⟨rfl, rfl⟩
    · exact .inr h
theorem addB_in {a : Option Nm} {xs : List Int} {ds : List (Nm × List Int)} {p : Nm × List Int} (h : p ∈ ds) : p ∈ addB a xs ds := by
  cases a with
  | none => exact h
  | some nm => exact List.mem_cons_of_mem _ h
theorem okC_zero (n : Nat) (ds : List (Nm × List Int)) : okC (List.replicate n default) ds (List.replicate n []) :=
  ⟨by simp, fun k hk _ => by
    rw [List.length_replicate] at hk
    simp [List.getD_eq_getElem?_getD, hk]; rfl, fun k hk h => by
    rw [List.length_replicate] at hk
    exact absurd (by simp [List.getD_eq_getElem?_getD, hk]) h⟩
theorem okC_more {rows : List Hd} {ds : List (Nm × List Int)} {C : List (List Int)} (h : okC rows ds C) (a : Option Nm) (xs : List Int) : okC rows (addB a xs ds) C :=
  ⟨h.len, h.nil, fun k hk hn => by obtain ⟨nm, h1, h2, h3⟩ := h.at_ k hk hn; exact ⟨nm, h1, addB_in h2, h3⟩⟩
theorem okC_put {rows : List Hd} {ds : List (Nm × List Int)} {C : List (List Int)} (h : okC rows ds C) {k : Nat} {a : Option Nm} {n cap : Nat} {xs : List Int} (ha : a.isSome = true) (hn : n = xs.length) (hx : xs ≠ []) :
    okC (rows.set k ⟨a, n, cap⟩) (addB a xs ds) (C.set k xs) := by
  refine ⟨by simp [h.len], fun j hj hz => ?_, fun j hj hz => ?_⟩
  · rw [List.length_set] at hj
    by_cases e : j = k
    · subst e; rw [getD_set_same _ _ _ hj] at hz; exact absurd hz hx
    · rw [getD_set_other _ _ _ e] at hz ⊢; exact h.nil j hj hz
  · rw [List.length_set] at hj
    by_cases e : j = k
    · subst e
      rw [getD_set_same _ _ _ hj]
      rw [getD_set_same _ _ _ (by rw [h.len]; exact hj)]
      obtain ⟨nm, rfl⟩ := Option.isSome_iff_exists.1 ha
      exact ⟨nm, rfl, List.mem_cons_self, hn⟩
    · rw [getD_set_other _ _ _ e] at hz ⊢
      rw [getD_set_other _ _ _ e]
      obtain ⟨nm, h1, h2, h3⟩ := h.at_ j hj hz
      exact ⟨nm, h1, addB_in h2, h3⟩
theorem okC_none {rows : List Hd} {ds : List (Nm × List Int)} {C : List (List Int)} (h : okC rows ds C) {k : Nat} (hk : k < C.length) : (rows.getD k default).nm.isNone = decide (C.getD k [] = []) := by
  by_cases e : C.getD k [] = []
  · rw [h.nil k hk e]; exact (decide_eq_true e).symm
  · obtain ⟨nm, h1, _⟩ := h.at_ k hk e
    rw [h1]; exact (decide_eq_false e).symm

/-- A slice of numbers that lies in one of many places. -/
def bi (x : SV) (hp : List HB) (K : List Int → Prop) : Prop :=
  match x with
  | .sl i a k s n _ => match hp[i]? with
    | some b => match b.kd with
      | .bn ds => (k = 0 ∧ s = 1) ∧ ∃ nm xs, (a = some nm ∧ (nm, xs) ∈ ds ∧ n = xs.length) ∧ K xs
      | _ => False
    | none => False
  | _ => False
theorem bn_view {hp : List HB} {i : Nat} {b : HB} {ds : List (Nm × List Int)} (hb : hp[i]? = some b) (hk : b.kd = .bn ds) {nm : Nm} {xs : List Int} (hm : (nm, xs) ∈ ds) (o : Bool) : ViewOk hp ⟨some nm, o, .ro, .ix xs⟩ := fun w hw => by
  have hok := hw b (List.mem_of_getElem? hb)
  obtain ⟨n0, o0, kd, c0⟩ := b
  simp only at hk; subst hk
  intro o ho
  have := hok (nm, xs) hm o (by simpa [Cts.n, Cts.len, Cts.s] using ho)
  simpa [Cts.get, Cts.row, Cts.s, den, Nat.mod_one] using this
theorem iff_bi {x : SV} {hp : List HB} {K : List Int → Prop} (h : bi x hp K) : ∃ (xs : List Int) (a : Option Nm) (cap : Nat), K xs ∧ SlOk hp x (.ix xs) a cap := by
  unfold bi at h
  split at h
  · rename_i i a k s n cap
    split at h
    · rename_i b hb
      split at h
      · rename_i ds hk
        obtain ⟨⟨rfl, rfl⟩, nm, xs, ⟨rfl, hm, rfl⟩, h⟩ := h
        exact ⟨xs, some nm, cap, h, ⟨by simp [den, Cts.s, Cts.len], fun _ => rfl, bn_view hb hk hm false⟩⟩
      · exact h.elim
    · exact h.elim
  · exact h.elim
theorem bi_see {rows : List Hd} {ds : List (Nm × List Int)} {C : List (List Int)} (hC : okC rows ds C) {k : Nat} {K : List Int → Prop} (hk : k < C.length) (hn : C.getD k [] ≠ []) (h : K (C.getD k [])) :
    ∃ nm xs, ((rows.getD k default).nm = some nm ∧ (nm, xs) ∈ ds ∧ (rows.getD k default).len = xs.length) ∧ K xs := by
  obtain ⟨nm, h1, h2, h3⟩ := hC.at_ k hk hn
  exact ⟨nm, _, ⟨h1, h2, h3⟩, h⟩
theorem bi_app {rows : List Hd} {ds : List (Nm × List Int)} {C : List (List Int)} (hC : okC rows ds C) {k : Nat} {K : Nm → List Int → Prop} (hk : k < C.length) (hn : C.getD k [] ≠ []) (h : ∀ nm, (rows.getD k default).nm = some nm → (rows.getD k default).len = (C.getD k []).length → K nm (C.getD k [])) :
    ∃ nm xs, ((rows.getD k default).nm = some nm ∧ (nm, xs) ∈ ds) ∧ K nm xs := by
  obtain ⟨nm, h1, h2, h3⟩ := hC.at_ k hk hn
  exact ⟨nm, _, ⟨h1, h2⟩, h nm h1 h3⟩

/-- A slice of such slices. -/
def lk (x : SV) (hp : List HB) (K : List (List Int) → Prop) : Prop :=
  match x with
  | .sl i a k s n _ => match hp[i]? with
    | some b => match b.cts with
      | .kx ib rows => match hp[ib]? with
        | some bb => match bb.kd with
          | .bn ds => ((k = 0 ∧ s = 1) ∧ b.isC = true ∧ b.nm = a ∧ n = rows.length ∧ (0 < n → a.isSome = true)) ∧ ∃ C, okC rows ds C ∧ K C
          | _ => False
        | none => False
      | _ => False
    | none => False
  | _ => False
theorem iff_lk {x : SV} {hp : List HB} {K : List (List Int) → Prop} (h : lk x hp K) : ∃ (C : List (List Int)) (a : Option Nm) (cap : Nat) (rows : List Hd) (ds : List (Nm × List Int)), K C ∧ okC rows ds C ∧ (∀ ib, SlOk hp x (.kx ib rows) a cap) ∧
    ViewOk hp ⟨none, true, .bn ds, .l []⟩ := by
  unfold lk at h
  split at h
  · rename_i i a k s n cap
    split at h
    · rename_i b hb
      split at h
      · rename_i ib rows hc
        split at h
        · rename_i bb hbb
          split at h
          · rename_i ds hk
            obtain ⟨⟨⟨rfl, rfl⟩, hC, rfl, rfl, hpos⟩, C, hok, h⟩ := h
            have h1 := sl_whole (cap := cap) hb hC (s := 1) (by rw [hc]; rfl) rfl (by rw [hc]; rfl) hpos
            rw [hc] at h1
            have key : ∀ jb, SlOk hp (.sl i b.nm 0 1 rows.length cap) (.kx jb rows) b.nm cap := fun jb =>
              ⟨rfl, h1.pos, fun w hw => (h1.ok w hw).like ⟨rfl, rfl, trivial, rfl, fun o _ => by simp [Cts.get, Cts.row, Cts.s, Nat.mod_one, den]⟩⟩
            have vw : ViewOk hp ⟨none, true, .bn ds, .l []⟩ := fun w hw => by
              have hok2 := hw bb (List.mem_of_getElem? hbb)
              obtain ⟨n0, o0, kd, c0⟩ := bb
              simp only at hk; subst hk
              exact hok2
            exact ⟨C, b.nm, cap, rows, ds, h, hok, key, vw⟩
          · exact h.elim
        · exact h.elim
      · exact h.elim
    · exact h.elim
  · exact h.elim

/-- A block that is only looked at lies among the many from now on. -/
theorem Holds.bnAdd {w0 w : World} {hp : List HB} (h : Holds w0 w hp) {j b : Nat} {a : Option Nm} {o1 : Bool} {xs : List Int} {n0 : Option Nm} {o0 : Bool} {c0 : Cts} {ds : List (Nm × List Int)}
    (hj : hp[j]? = some ⟨a, o1, .ro, .ix xs⟩) (hb : hp[b]? = some ⟨n0, o0, .bn ds, c0⟩) : Holds w0 w (hp.set b ⟨n0, o0, .bn (addB a xs ds), c0⟩) := by
  have hlt : b < hp.length := (List.getElem?_eq_some_iff.1 hb).1
  have at_ : ∀ {j : Nat} {c : HB}, (hp.set b ⟨n0, o0, .bn (addB a xs ds), c0⟩)[j]? = some c → (j = b ∧ c = ⟨n0, o0, .bn (addB a xs ds), c0⟩) ∨ (j ≠ b ∧ hp[j]? = some c) := fun {j c} hj => by
    rw [List.getElem?_set] at hj
    split at hj
    · rename_i hij
      exact .inl ⟨hij.symm, (Option.some.inj hj).symm⟩
    · rename_i hij
      exact .inr ⟨fun e => hij e.symm, hj⟩
  have mem_ : ∀ {c : HB}, c ∈ hp.set b ⟨n0, o0, .bn (addB a xs ds), c0⟩ → c = ⟨n0, o0, .bn (addB a xs ds), c0⟩ ∨ c ∈ hp := fun {c} hc => by
    obtain ⟨j, hj⟩ := List.mem_iff_getElem?.1 hc
    rcases at_ hj with ⟨_, rfl⟩ | ⟨_, hj⟩
    · exact .inl rfl
    · exact .inr (List.mem_of_getElem? hj)
  have hJ := h.blk _ (List.mem_of_getElem? hj)
  have hB := h.blk _ (List.mem_of_getElem? hb)
  have tch : ∀ {g : Nat}, (⟨n0, o0, .bn (addB a xs ds), c0⟩ : HB).touch g → (⟨a, o1, .ro, .ix xs⟩ : HB).touch g ∨ (⟨n0, o0, .bn ds, c0⟩ : HB).touch g := fun {g} ht => by
    rcases ht with ht | ⟨p, hp', hn, rfl⟩
    · exact ht.elim
    · rcases addB_mem hp' with ⟨rfl, e⟩ | hm
      · refine .inl (.inr ⟨?_, rfl⟩)
        rw [e] at hn
        simpa [Cts.n, Cts.len, Cts.s] using hn
      · exact .inr (.inr ⟨p, hm, hn, rfl⟩)
  refine ⟨h.size, fun hg => ?_, fun c hc => ?_, fun c hc ho g hcg => ?_, fun i k bi bk g hi hk hik hcl ht => ?_⟩
  · obtain ⟨q1, q2, q3, q4⟩ := h.base fun c hc => by
      obtain ⟨i, hi⟩ := List.mem_iff_getElem?.1 hc
      by_cases e : i = b
      · subst e; rw [hb] at hi; cases hi; rfl
      · exact hg c (List.mem_iff_getElem?.2 ⟨i, by rw [List.getElem?_set, if_neg (fun e' => e e'.symm)]; exact hi⟩)
    refine ⟨q1, q2, q3, fun k hk hn => q4 k hk fun c hc hcc => ?_⟩
    obtain ⟨i, hi⟩ := List.mem_iff_getElem?.1 hc
    by_cases e : i = b
    · subst e; rw [hb] at hi; cases hi; exact hcc.elim
    · exact hn c (List.mem_iff_getElem?.2 ⟨i, by rw [List.getElem?_set, if_neg (fun e' => e e'.symm)]; exact hi⟩) hcc
  · rcases mem_ hc with rfl | hc
    · intro p hp' o ho
      rcases addB_mem hp' with ⟨rfl, e⟩ | hm
      · have ho' : o < (Cts.ix xs).n := by rw [e] at ho; simpa [Cts.n, Cts.len, Cts.s] using ho
        have := hJ o ho'
        rw [e]
        simpa [Cts.get, Cts.row, Cts.s, den, Nat.mod_one] using this
      · exact hB p hm o ho
    · exact h.blk c hc
  · rcases mem_ hc with rfl | hc
    · exact hcg.elim
    · exact h.own c hc ho g hcg
  · rcases at_ hi with ⟨_, rfl⟩ | ⟨hib, hi'⟩
    · exact hcl.elim
    · rcases at_ hk with ⟨ek, rfl⟩ | ⟨hkb, hk'⟩
      · rcases tch ht with ht | ht
        · by_cases e : i = j
          · rw [e, hj] at hi'; cases hi'; exact hcl.elim
          · exact h.sep i j bi _ g hi' hj e hcl ht
        · exact h.sep i b bi _ g hi' hb hib hcl ht
      · exact h.sep i k bi bk g hi' hk' hik hcl ht
theorem hsel_set : ∀ (hp : List HB) (j : Nat) {b c : HB}, hp[j]? = some c → b.like c → c.own = true → hsel (hp.set j b) hp
  | [], _, _, _, h, _, _ => by simp at h
  | x :: hp, 0, b, c, h, hl, ho => by
    simp at h; subst h
    exact .take hl (.inl ho) (hsel.refl hp)
  | x :: hp, j + 1, b, c, h, hl, ho => by
    simp at h
    exact .take (.refl x) (.inr fun _ h => h) (hsel_set hp j h hl ho)
/-- The last block of numbers behind the first p. -/
def lastI : List HB → Nat → Nat → Option Nat → Option Nat
  | [], _, _, r => r
  | b :: hp, p + 1, i, r => lastI hp p (i + 1) r
  | ⟨_, true, .wr _ _, .ix _⟩ :: hp, 0, i, _ => lastI hp 0 (i + 1) (some i)
  | _ :: hp, 0, i, r => lastI hp 0 (i + 1) r
/-- It is frozen: it lies among the many of block b. -/
def frzK (p b : Nat) (hp : List HB) (K : List HB → Prop) : Prop :=
  match lastI hp p 0 none with
  | some j => match hp[j]? with
    | some ⟨a, true, .wr _ _, .ix xs⟩ => setHK hp j ⟨a, true, .ro, .ix xs⟩ fun hq => match hq[b]? with
      | some ⟨n0, o0, .bn ds, c0⟩ => setHK hq b ⟨n0, o0, .bn (addB a xs ds), c0⟩ K
      | _ => False
    | _ => False
  | none => K hp
theorem frzK_sound {p b : Nat} {hp : List HB} {K : List HB → Prop} (h : frzK p b hp K) : ∃ hq, K hq ∧ ∀ w0 w, Holds w0 w hp → Holds w0 w hq := by
  unfold frzK at h
  split at h
  · rename_i j hj
    split at h
    · rename_i a ty cap xs h1
      rw [setHK_eq] at h
      split at h
      · rename_i n0 o0 ds c0 h3
        rw [setHK_eq] at h
        refine ⟨_, h, fun w0 w hw => ?_⟩
        have hw1 := hw.sel (hsel_set hp j (b := ⟨a, true, .ro, .ix xs⟩) h1 ⟨rfl, rfl, trivial, rfl, fun _ _ => rfl⟩ rfl)
        exact hw1.bnAdd (j := j) (a := a) (o1 := true) (xs := xs) (by rw [List.getElem?_set]; simp [(List.getElem?_eq_some_iff.1 h1).1]) h3
      · exact h.elim
    · exact h.elim
  · exact ⟨hp, h, fun _ _ hw => hw⟩
theorem Wk.kb {P : Program} {X : Env P} {r : Option Nat} {Q : Post} {t : List It} {ds : List Nat} {fr : List (Nat × SV)} {hp : List HB} {K : List (Nat × SV) → List HB → Prop} (p b : Nat)
    (h : ∀ K' : List HB → Prop, (∀ hq, K fr hq → K' hq) → frzK p b hp K') : Wk X r Q (.k ds K :: t) ds fr hp := by
  obtain ⟨q, hk, hq⟩ := frzK_sound (h (fun hq => K fr hq) fun _ h => h)
  exact ⟨fun _ _ _ hf hw => ⟨fr, q, hk, hf, hq _ _ hw⟩⟩
theorem den_tsl {x y : SV} {n j : Nat} {a : Option Nm} {s len len' cap : Nat} (he : den x = den y) (hl : len = len') : den (.tup [x, .sl n a 0 s len cap]) = den (.tup [y, .sl j a 0 s len' cap]) := by
  subst hl; simp [den, denL, he]
theorem seg_nl {α : Type} {xs : List α} {n : Nat} (h : n = xs.length) : [] ++ seg xs 0 n = xs := by subst h; exact seg_all xs
/-- The place of the many. -/
theorem Wk.bn0 {P : Program} {X : Env P} {r : Option Nat} {Q : Post} {t : List It} {ds : List Nat} {fr : List (Nat × SV)} {hp : List HB} (h : Wk X r Q t ds fr (hp ++ [⟨none, true, .bn [], .l []⟩])) : Wk X r Q t ds fr hp :=
  ⟨fun w0 a w hf hw => h.out w0 a w hf (hw.push (fun p hp' => by cases hp') rfl (fun _ g hg => hg.elim) (fun g hg => hg.elim) (fun g hg => by simp [HB.touch, HB.cl, HB.rd] at hg))⟩
end Go.Sy
