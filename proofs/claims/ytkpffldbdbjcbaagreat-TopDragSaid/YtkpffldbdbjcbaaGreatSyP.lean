/- Frames: back from a function that turned some blocks and laid some new ones. -/
import Derived.Test.YtkpffldbdbjcbaaGreatSyN
import Derived.Test.YtkpffldbdbjcbaaGreatSyV
set_option linter.unusedSimpArgs false
set_option linter.unusedVariables false
namespace Go.Sy
open Go.RowKit
/-- The blocks of the frame, as they are told behind it. -/
def FU (hq : List HB) : Nat → List (Nat × HB) → List HB → Prop
  | n, x :: xs, u :: us => (∃ u', hq[n]? = some u' ∧ u.like u' ∧ (u'.own = true ∨ ∀ g, u'.cl g → u.cl g) ∧ u.onto x.2) ∧ FU hq (n + 1) xs us
  | _, [], [] => True
  | _, _, _ => False
/-- The new blocks, each with its place. -/
def FN (hq : List HB) : List Nat → List HB → Prop
  | p :: ps, n :: ns => (∃ c, hq[p]? = some c ∧ n.like c ∧ (c.own = true ∨ ∀ g, c.cl g → n.cl g)) ∧ FN hq ps ns
  | [], [] => True
  | _, _ => False
theorem FU_split {hq : List HB} : ∀ {n : Nat} {xs : List (Nat × HB)} {us : List HB}, FU hq n xs us → us.length = xs.length ∧ (∀ (k i : Nat) (b u : HB), xs[k]? = some (i, b) → us[k]? = some u → u.onto b) ∧
    ∃ f, hq.drop n = f ++ hq.drop (n + xs.length) ∧ ∀ r r', hsel r r' → hsel (us ++ r) (f ++ r')
  | n, [], [], _ => ⟨rfl, fun k i b u h => (by simp at h), [], rfl, fun _ _ h => h⟩
  | n, x :: xs, u :: us, h => by
    obtain ⟨⟨u', h0, h1, h2, h3⟩, h⟩ := h
    obtain ⟨q1, q2, f, q3, q4⟩ := FU_split h
    refine ⟨by simp [q1], fun k i b v hx hu => ?_, u' :: f, ?_, fun r r' hr => .take h1 h2 (q4 r r' hr)⟩
    · cases k with
      | zero =>
        simp only [List.getElem?_cons_zero, Option.some.injEq] at hx hu
        subst hu; rw [hx] at h3; exact h3
      | succ k => exact q2 k i b v (by simpa using hx) (by simpa using hu)
    · obtain ⟨hn, e⟩ := List.getElem?_eq_some_iff.1 h0
      rw [List.drop_eq_getElem_cons hn, e, q3, List.length_cons, List.cons_append, show n + 1 + xs.length = n + (xs.length + 1) by omega]
  | n, [], _ :: _, h => h.elim
  | n, _ :: _, [], h => h.elim
def shf (p j : Nat) : Nat := if j < p then j else j - 1
theorem shf_inj {p i j : Nat} (hi : i ≠ p) (hj : j ≠ p) (h : shf p i = shf p j) : i = j := by
  unfold shf at h
  split at h <;> split at h <;> omega
theorem shf_at {α : Type} {l : List α} {p j : Nat} (hj : j ≠ p) : (l.eraseIdx p)[shf p j]? = l[j]? := by
  unfold shf
  rw [List.getElem?_eraseIdx]
  split
  · simp only [‹j < p›, if_true]
  · rw [if_neg (by omega), show j - 1 + 1 = j by omega]
theorem erase_perm {α : Type} : ∀ {l : List α} {p : Nat} {x : α}, l[p]? = some x → (x :: l.eraseIdx p).Perm l
  | [], p, x, h => by simp at h
  | y :: l, 0, x, h => by
    have h : y = x := by simpa using h
    subst h; exact .refl _
  | y :: l, p + 1, x, h => by
    have := erase_perm (l := l) (p := p) (x := x) (by simpa using h)
    rw [List.eraseIdx_cons_succ]
    exact (List.Perm.swap y x _).trans (.cons y this)
theorem FN_shf {hq : List HB} {p : Nat} : ∀ {ps : List Nat} {ns : List HB}, FN hq ps ns → p ∉ ps → FN (hq.eraseIdx p) (ps.map (shf p)) ns
  | [], [], _, _ => trivial
  | q :: ps, n :: ns, h, hp => by
    simp only [List.mem_cons, not_or] at hp
    obtain ⟨⟨c, h1, h2⟩, h⟩ := h
    exact ⟨⟨c, by rw [shf_at (fun e => hp.1 e.symm)]; exact h1, h2⟩, FN_shf h hp.2⟩
  | [], _ :: _, h, _ => h.elim
  | _ :: _, [], h, _ => h.elim
theorem FN_sel : ∀ {ps : List Nat} {hq ns : List HB}, FN hq ps ns → ps.Nodup → (∀ b ∈ hq, b.spare) → ∃ hr, hr.Perm hq ∧ hsel ns hr
  | [], hq, [], _, _, hm => ⟨hq, .refl _, hsel.left [] hm⟩
  | p :: ps, hq, n :: ns, h, hn, hm => by
    obtain ⟨⟨c, h1, h2, h3⟩, h⟩ := h
    rw [List.nodup_cons] at hn
    have hp := erase_perm h1
    obtain ⟨hr, q1, q2⟩ := FN_sel (FN_shf h hn.1) (by
      refine List.pairwise_map.2 (List.Pairwise.imp_of_mem ?_ hn.2)
      intro a b ha hb hab e
      exact hab (shf_inj (fun e => hn.1 (by rw [← e]; exact ha)) (fun e => hn.1 (by rw [← e]; exact hb)) e)) fun b hb => hm b (hp.mem_iff.1 (List.mem_cons_of_mem _ hb))
    exact ⟨c :: hr, (List.Perm.cons c q1).trans hp, .take h2 h3 q2⟩
  | [], _, _ :: _, h, _, _ => h.elim
  | _ :: _, _, [], h, _, _ => h.elim
/-- What there is to show at the end. -/
def RetG (hp hq : List HB) (K : SV → List HB → Prop) (v : SV) (xs : List (Nat × HB)) : Prop := ∃ v' us news, den v' = den v ∧ (∃ hr, hr.Perm hq ∧ hsel (us ++ news) hr) ∧ us.length = xs.length ∧ (∀ (k i : Nat) (b u : HB), xs[k]? = some (i, b) → us[k]? = some u → u.onto b) ∧ allFresh news = true ∧ K v' (setAll hp xs us ++ news)
theorem retG_in {hp hq : List HB} {K : SV → List HB → Prop} {v : SV} {xs : List (Nat × HB)} (h : RetG hp hq K v xs) : ∃ v' us news, den v' = den v ∧ (∃ hr, hr.Perm hq ∧ hsel (us ++ news) hr) ∧ us.length = xs.length ∧ (∀ (k i : Nat) (b u : HB), xs[k]? = some (i, b) → us[k]? = some u → u.onto b) ∧ allFresh news = true ∧ K v' (setAll hp xs us ++ news) := h
theorem ret_F {hp hq : List HB} {K : SV → List HB → Prop} {v v' : SV} {xs : List (Nat × HB)} (us news : List HB) (ps : List Nat) (hnd : ps.Nodup) (hf : allFresh news = true) (hu : FU hq 0 xs us) (hn : FN (hq.drop xs.length) ps news)
    (hv : den v' = den v) (hK : K v' (setAll hp xs us ++ news)) (hm : allMine (hq.drop xs.length)) :
    RetG hp hq K v xs := by
  obtain ⟨q1, q2, f, q3, q4⟩ := FU_split hu
  obtain ⟨hr, q5, q6⟩ := FN_sel hn hnd fun b hb => spare_mine hm hb
  refine ⟨v', us, news, hv, ⟨f ++ hr, ?_, q4 _ _ q6⟩, q1, q2, hf, hK⟩
  have q7 : (f ++ hr).Perm (f ++ hq.drop xs.length) := q5.append_left f
  rw [List.drop_zero, Nat.zero_add] at q3
  rwa [← q3] at q7
theorem fu_mk {u' u : HB} {x : Nat × HB} {hq us : List HB} {n : Nat} {xs : List (Nat × HB)} (h0 : hq[n]? = some u') (h1 : u.like u') (h2 : u'.own = true ∨ ∀ g, u'.cl g → u.cl g) (h3 : u.onto x.2) (h : FU hq (n + 1) xs us) : FU hq n (x :: xs) (u :: us) := ⟨⟨u', h0, h1, h2, h3⟩, h⟩
theorem fu_nil {hq : List HB} {n : Nat} : FU hq n [] [] := trivial
theorem fu_ob {a : Option Nm} {o : Bool} {p q : Obj} {i n : Nat} {c c' x : Cts} {hq us : List HB} {xs : List (Nat × HB)} (h0 : hq[n]? = some ⟨a, false, .ob p, c'⟩) (hc : c = c') (h : FU hq (n + 1) xs us) : FU hq n ((i, ⟨a, o, .ob q, x⟩) :: xs) (⟨a, false, .ob p, c⟩ :: us) :=
  fu_mk h0 (like_cts hc) (.inr fun g h => (by cases a <;> exact h)) onto_ob h
theorem fn_mk {hq : List HB} {p : Nat} {ps : List Nat} {ns : List HB} {a : Option Nm} {t m : Nat} {c c' : Cts} (h : hq[p]? = some ⟨a, true, .wr t m, c'⟩) (hc : c = c') (hr : FN hq ps ns) : FN hq (p :: ps) (⟨a, true, .wr t m, c⟩ :: ns) :=
  ⟨⟨_, h, like_cts hc, .inl rfl⟩, hr⟩
theorem fn_nil {hq : List HB} : FN hq [] [] := trivial
/-! ### Blocks that are only looked at -/
theorem seen_wr {a : Option Nm} {o o' : Bool} {t m : Nat} {x : Cts} {w : World} (h : (⟨a, o, .wr t m, x⟩ : HB).ok w) : (⟨a, o', .ro, x⟩ : HB).ok w :=
  HB.ok.like (ok_own (o' := o') h) ⟨rfl, rfl, trivial, rfl, fun _ _ => rfl⟩
theorem touch_wr {a : Option Nm} {o o' : Bool} {t m : Nat} {x : Cts} {g : Nat} (h : (⟨a, o', .ro, x⟩ : HB).touch g) : (⟨a, o, .wr t m, x⟩ : HB).touch g :=
  HB.like.touch (b := ⟨a, o', .ro, x⟩) (c := ⟨a, o', .wr t m, x⟩) ⟨rfl, rfl, trivial, rfl, fun _ _ => rfl⟩ h |> fun h => (by cases a <;> exact h)
/-! ### Before a loop: a block of cells is pulled into its place -/
theorem Wk.canonL {P : Program} {X : Env P} {r : Option Nat} {Q : Post} {t : List It} {ds : List Nat} {fr : List (Nat × SV)} {hp : List HB} {x : Code} {id : Nat} (q ty : Nat) (hq : kdAt hp q ty = true) (f : List (Nat × Nat)) (ps : List (Nat × Nat))
    (h : ∀ K' : List (Nat × SV) → List HB → Prop, (∀ fr' hq, Wk X r Q (.c (.loop x) :: .b id :: t) ds fr' hq → K' fr' hq) → pullK hp ps fun hq => K' (renF (renOf f) fr) (renH (renOf f) hq)) : Wk X r Q (.c (.loop x) :: .b id :: t) ds fr hp := Wk.canon q ty hq f ps h
end Go.Sy
