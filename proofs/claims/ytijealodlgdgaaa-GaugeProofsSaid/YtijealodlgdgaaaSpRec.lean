/- A recursion's contract; blocks that are only looked at, whatever their kind; which of two functions. -/
import Derived.Test.YtijealodlgdgaaaSyP
import Derived.Test.YtijealodlgdgaaaSpChn
set_option linter.unusedSimpArgs false
set_option linter.unusedVariables false
namespace Go.Sy
open Go.RowKit
theorem rec_eok {P : Program} {f : FuncId} {c : Nat → ECtr} (he : Enters P f) (h0 : ∀ args hp K, ¬ c 0 args hp K) (hs : ∀ n, EOk P f (c n) → EOk P f (c (n + 1))) : ∀ n, EOk P f (c n)
  | 0 => ⟨he, fun args hp K h => absurd h (h0 args hp K)⟩
  | n + 1 => hs n (rec_eok he h0 hs n)
theorem K9 {K : SV → List HB → Prop} {v : SV} {hq : List HB} (h : K v hq) : K v (hq ++ []) := by rw [List.append_nil]; exact h
def seeK : BK → Bool
  | .ro => true
  | .wr .. => true
  | _ => false
theorem seen_k {a : Option Nm} {o o' : Bool} {k : BK} {x : Cts} {w : World} (hk : seeK k = true) (h : (⟨a, o, k, x⟩ : HB).ok w) : (⟨a, o', .ro, x⟩ : HB).ok w := by
  cases k <;> first | exact ok_own h | exact seen_wr h | cases hk
theorem seen_kl {a : Option Nm} {o o' : Bool} {k : BK} {x y : List SV} {w : World} (hk : seeK k = true) (hd : denL y = denL x) (h : (⟨a, o, k, .l x⟩ : HB).ok w) : (⟨a, o', .ro, .l y⟩ : HB).ok w := ok_l hd (seen_k (o' := o') hk h)
theorem touch_k {a : Option Nm} {o o' : Bool} {k : BK} {x : Cts} {g : Nat} (hk : seeK k = true) (h : (⟨a, o', .ro, x⟩ : HB).touch g) : (⟨a, o, k, x⟩ : HB).touch g := by
  cases k <;> first | exact touch_ro h | exact touch_wr h | cases hk
theorem touch_kl {a : Option Nm} {o o' : Bool} {k : BK} {x y : List SV} (hk : seeK k = true) (hd : denL y = denL x) {g : Nat} (h : (⟨a, o', .ro, .l y⟩ : HB).touch g) : (⟨a, o, k, .l x⟩ : HB).touch g :=
  touch_k hk (HB.like.touch (b := ⟨a, o', .ro, .l y⟩) (c := ⟨a, o', .ro, .l x⟩) (like_l hd) h)
/-- Which of two functions it is. -/
def hsd (lo hi bt : Nat) (K : Bool → Prop) : Prop := ∃ h : Bool, bt = cond h hi lo ∧ K h
theorem iff_hsd {lo hi bt : Nat} {K : Bool → Prop} (h : hsd lo hi bt K) : ∃ b, K b ∧ bt = cond b hi lo := by
  obtain ⟨b, e, h⟩ := h
  exact ⟨b, h, e⟩
/-- A pointer to one of two functions. -/
def ph (lo hi : Nat) (x : SV) (hp : List HB) (K : Bool → Prop) : Prop := pf x hp fun f => hsd lo hi f K
theorem iff_ph {lo hi : Nat} {x : SV} {hp : List HB} {K : Bool → Prop} (h : ph lo hi x hp K) : ∃ (b : Bool) (nm : Nm), K b ∧ den (.ptr 0 nm 0 0 0) = den x ∧ ViewOk hp ⟨some nm, false, .ro, .l [.fn (cond b hi lo) [] []]⟩ := by
  obtain ⟨f, nm, h, he, hv⟩ := iff_pf h
  obtain ⟨b, hb, rfl⟩ := iff_hsd h
  exact ⟨b, nm, hb, he, hv⟩
theorem iff_wim {o : Obj} {K : List (Int × (Int × Bool)) → Nat → Prop} (h : withMC o fun m k => match m with
    | .im xs => K xs k
    | _ => False) : ∃ xs k, o = (MC.im xs).obj k ∧ K xs k := by
  obtain ⟨m, k, e, h⟩ := h
  cases m with
  | im xs => exact ⟨xs, k, e, h⟩
  | ib xs => exact h.elim
  | ii xs => exact h.elim
/-- What is known of a gauge of the list, of the best sum from its end and of the best one so far. -/
def rndB (l : List Gau) (c z : Int) (h : Bool) (k : Nat) : Prop := (k < l.length ∧ 0 ≤ (l.getD k default).f ∧ (l.getD k default).f < (l.getD k default).t ∧ (l.getD k default).t ≤ 1000000) ∧ (-4000000000 ≤ (l.getD k default).side h ∧ (l.getD k default).side h ≤ 4000000000) ∧ (-4000000000000000 ≤ (bst l c h (l.getD k default).t).1 ∧ (bst l c h (l.getD k default).t).1 ≤ 4000000000000000) ∧ -4000000000000000 ≤ (bstT l c h z k).1 ∧ (bstT l c h z k).1 ≤ 4000000000000000
theorem rnd_bd {l : List Gau} (hl : fwd l) {c z : Int} (hz : 0 ≤ z) (hc : c ≤ 1000000) (h : Bool) {k : Nat} (hk : k < l.length) : rndB l c z h k := by
  have hu := fwd_at hl hk
  have hd := side_bd hu h
  unfold Gau.Ok at hu
  exact ⟨⟨hk, by omega, by omega, by omega⟩, hd, bst_rng hl (by omega) hc h, bstT_rng hl hz hc h k⟩
/-- The ways of a round. -/
theorem rnd_ways {l : List Gau} (hl : fwd l) {c z : Int} (hz : 0 ≤ z) (hc : c ≤ 1000000) (h : Bool) {k : Nat} (hk : k ≤ l.length) :
    (True ∧ k = l.length ∧ True ∧ True ∧ True ∧ True) ∨
    (rndB l c z h k ∧ (l.getD k default).f ≠ z ∧ True ∧ True ∧ True ∧ bstT l c h z (k + 1) = bstT l c h z k) ∨
    (rndB l c z h k ∧ ((l.getD k default).f = z ∧ ¬ (l.getD k default).t ≤ c) ∧ True ∧ True ∧ True ∧ bstT l c h z (k + 1) = bstT l c h z k) ∨
    (rndB l c z h k ∧ ((l.getD k default).f = z ∧ (l.getD k default).t ≤ c ∧ (bst l c h (l.getD k default).t).1 = 0) ∧ (bst l c h (l.getD k default).t).2 = false ∧ True ∧ True ∧ bstT l c h z (k + 1) = bstT l c h z k) ∨
    (rndB l c z h k ∧ ((l.getD k default).f = z ∧ (l.getD k default).t ≤ c) ∧ (bst l c h (l.getD k default).t).2 = true ∧ (bstT l c h z k).2 = false ∧ True ∧ bstT l c h z (k + 1) = ((l.getD k default).side h + (bst l c h (l.getD k default).t).1, true)) ∨
    (rndB l c z h k ∧ ((l.getD k default).f = z ∧ (l.getD k default).t ≤ c) ∧ (bst l c h (l.getD k default).t).2 = true ∧ (bstT l c h z k).2 = true ∧ btr h ((l.getD k default).side h + (bst l c h (l.getD k default).t).1) (bstT l c h z k).1 = true ∧ bstT l c h z (k + 1) = ((l.getD k default).side h + (bst l c h (l.getD k default).t).1, true)) ∨
    (rndB l c z h k ∧ ((l.getD k default).f = z ∧ (l.getD k default).t ≤ c) ∧ (bst l c h (l.getD k default).t).2 = true ∧ (bstT l c h z k).2 = true ∧ btr h ((l.getD k default).side h + (bst l c h (l.getD k default).t).1) (bstT l c h z k).1 = false ∧ bstT l c h z (k + 1) = bstT l c h z k) := by
  by_cases hq : k < l.length
  · have hb := rnd_bd hl hz hc h hq
    rcases bstT_ways c h z hq with ⟨h1, e⟩ | ⟨h1, h2, e⟩ | ⟨h1, h2, h3, e⟩ | ⟨h1, h2, h3, h4, e⟩ | ⟨h1, h2, h3, h4, h5, e⟩
    · exact .inr (.inl ⟨hb, h1, trivial, trivial, trivial, e⟩)
    · exact .inr (.inr (.inl ⟨hb, ⟨h1, h2⟩, trivial, trivial, trivial, e⟩))
    · exact .inr (.inr (.inr (.inl ⟨hb, ⟨h1, h2, bst_z hl h3⟩, h3, trivial, trivial, e⟩)))
    · cases h6 : (bstT l c h z k).2
      · exact .inr (.inr (.inr (.inr (.inl ⟨hb, ⟨h1, h2⟩, h3, rfl, trivial, e⟩))))
      · exact .inr (.inr (.inr (.inr (.inr (.inl ⟨hb, ⟨h1, h2⟩, h3, rfl, h4.resolve_left (by rw [h6]; decide), e⟩)))))
    · exact .inr (.inr (.inr (.inr (.inr (.inr ⟨hb, ⟨h1, h2⟩, h3, h4, h5, e⟩)))))
  · exact .inl ⟨trivial, by omega, trivial, trivial, trivial, trivial⟩
theorem ex7 {β γ δ β' γ' δ' ε : Type} {P : β × γ × δ × β' × γ' × δ' × ε → Prop} {b : β} {c : γ} {d : δ} {b' : β'} {c' : γ'} {d' : δ'} {e : ε} (h : P (b, c, d, b', c', d', e)) : ∃ x, P x := ⟨_, h⟩
/-! ### The rounds of a chain -/
theorem stp_ways {l : List Gau} (hl : fwd l) {c s : Int} {h : Bool} (q : (bst l c h s).2 = true) : (s = c ∧ True) ∨ (s ≠ c ∧ nxI l c h s < l.length) := by
  by_cases e : s = c
  · exact .inl ⟨e, trivial⟩
  · exact .inr ⟨e, nxI_lt hl e q⟩
/-- What is known of a gauge that may be the next one. -/
def chB (l : List Gau) (c s : Int) (h : Bool) (k : Nat) : Prop := (k < l.length ∧ 0 ≤ (l.getD k default).f ∧ (l.getD k default).f < (l.getD k default).t ∧ (l.getD k default).t ≤ 1000000) ∧ (-4000000000 ≤ (l.getD k default).side h ∧ (l.getD k default).side h ≤ 4000000000) ∧ (-4000000000000000 ≤ (bst l c h (l.getD k default).t).1 ∧ (bst l c h (l.getD k default).t).1 ≤ 4000000000000000) ∧ -4000000000000000 ≤ (bst l c h s).1 ∧ (bst l c h s).1 ≤ 4000000000000000
theorem chn_ways {l : List Gau} (hl : fwd l) {c s : Int} (hz : 0 ≤ s) (hc : c ≤ 1000000) (h : Bool) (hn : nxI l c h s < l.length) {k : Nat} (hk : k ≤ nxI l c h s) :
    (chB l c s h k ∧ (l.getD k default).f ≠ s ∧ True ∧ True ∧ k + 1 ≤ nxI l c h s) ∨ (chB l c s h k ∧ ((l.getD k default).f = s ∧ ¬ (l.getD k default).t ≤ c) ∧ True ∧ True ∧ k + 1 ≤ nxI l c h s) ∨ (chB l c s h k ∧ ((l.getD k default).f = s ∧ (l.getD k default).t ≤ c) ∧ (bst l c h (l.getD k default).t).2 = false ∧ True ∧ k + 1 ≤ nxI l c h s) ∨
    (chB l c s h k ∧ ((l.getD k default).f = s ∧ (l.getD k default).t ≤ c) ∧ (bst l c h (l.getD k default).t).2 = true ∧ (l.getD k default).side h + (bst l c h (l.getD k default).t).1 ≠ (bst l c h s).1 ∧ k + 1 ≤ nxI l c h s) ∨ (chB l c s h k ∧ ((l.getD k default).f = s ∧ (l.getD k default).t ≤ c) ∧ (bst l c h (l.getD k default).t).2 = true ∧ (l.getD k default).side h + (bst l c h (l.getD k default).t).1 = (bst l c h s).1 ∧ k = nxI l c h s) := by
  have hq : k < l.length := by omega
  have hb : chB l c s h k := by
    have hu := fwd_at hl hq
    have hd := side_bd hu h
    unfold Gau.Ok at hu
    exact ⟨⟨hq, by omega, by omega, by omega⟩, hd, bst_rng hl (by omega) hc h, bst_rng hl hz hc h⟩
  have hw : nxB l c h s (l.getD k default) = true ∨ nxB l c h s (l.getD k default) = false := by cases nxB l c h s (l.getD k default) <;> simp
  rcases hw with hw | hw
  · obtain ⟨h1, h2, h3, h4⟩ := nx_bd hw
    have : k = nxI l c h s := by
      rcases Nat.lt_or_ge k (nxI l c h s) with q | q
      · rw [nxI_first q hq] at hw; cases hw
      · omega
    exact .inr (.inr (.inr (.inr ⟨hb, ⟨h1, h2⟩, h3, h4, this⟩)))
  · have hne : k + 1 ≤ nxI l c h s := by
      rcases Nat.lt_or_ge k (nxI l c h s) with q | q
      · omega
      · have e : k = nxI l c h s := by omega
        rw [e, nxI_b hn] at hw; cases hw
    by_cases h1 : (l.getD k default).f = s
    · by_cases h2 : (l.getD k default).t ≤ c
      · cases h3 : (bst l c h (l.getD k default).t).2
        · exact .inr (.inr (.inl ⟨hb, ⟨h1, h2⟩, rfl, trivial, hne⟩))
        · refine .inr (.inr (.inr (.inl ⟨hb, ⟨h1, h2⟩, rfl, fun h4 => ?_, hne⟩)))
          have : nxB l c h s (l.getD k default) = true := by
            unfold nxB goB
            rw [h3, decide_eq_true (And.intro h1 h2), decide_eq_true h4]; rfl
          rw [this] at hw; cases hw
      · exact .inr (.inl ⟨hb, ⟨h1, h2⟩, trivial, trivial, hne⟩)
    · exact .inl ⟨hb, h1, trivial, trivial, hne⟩
/-- What is kept while a chain is laid. -/
structure chnO (l : List Gau) (c : Int) (h : Bool) (z s : Int) (L : List Int) : Prop where
  is : (bst l c h s).2 = true
  eq : L ++ chn l c h s = chn l c h z
  lo : z ≤ s
  hi : s ≤ c
theorem chnO_len {l : List Gau} {c : Int} {h : Bool} {z s : Int} {L : List Int} (q : chnO l c h z s L) (hz : 0 ≤ z) (hc : c ≤ 1000000) : L.length ≤ 1000000 := by
  have h1 := congrArg List.length q.eq
  have h2 := chn_len l c h z
  rw [List.length_append] at h1
  omega
theorem chnO_next {l : List Gau} (hl : fwd l) {c : Int} {h : Bool} {z s : Int} {L : List Int} (q : chnO l c h z s L) (e : s ≠ c) {k : Nat} (hk : k = nxI l c h s) : chnO l c h z (l.getD k default).t (L ++ [(k : Int)]) := by
  subst hk
  have hi := nxI_lt hl e q.is
  obtain ⟨h1, h2, h3, _⟩ := nx_bd (nxI_b hi)
  have hu := fwd_at hl hi
  unfold Gau.Ok at hu
  have := q.lo
  refine ⟨h3, ?_, by omega, h2⟩
  rw [← q.eq, chn_step hl q.hi e q.is, List.append_assoc]; rfl
theorem chnO_end {l : List Gau} {c : Int} {h : Bool} {z s : Int} {L : List Int} (q : chnO l c h z s L) (e : s = c) : L = chn l c h z := by
  subst e
  have := q.eq
  rwa [chn_end, List.append_nil] at this
/-- The ways of the law on a further gauge. -/
theorem more_ways (l : List Gau) (v : Gau) (a c : Int) : (gausB l = false ∧ True ∧ True ∧ True ∧ True) ∨ (gausB l = true ∧ gausB (l ++ [v]) = false ∧ True ∧ True ∧ True) ∨ (gausB l = true ∧ gausB (l ++ [v]) = true ∧ exE l a c false ≠ 0 ∧ True ∧ True) ∨
    (gausB l = true ∧ gausB (l ++ [v]) = true ∧ exE l a c false = 0 ∧ exE (l ++ [v]) a c false = 0 ∧ exN l a c false ≤ exN (l ++ [v]) a c false ∧ exN (l ++ [v]) a c true ≤ exN l a c true) := by
  cases h1 : gausB l
  · exact .inl ⟨rfl, trivial, trivial, trivial, trivial⟩
  · cases h2 : gausB (l ++ [v])
    · exact .inr (.inl ⟨rfl, rfl, trivial, trivial, trivial⟩)
    · by_cases h3 : exE l a c false = 0
      · obtain ⟨h4, h5⟩ := ex_more h1 h2 false h3
        obtain ⟨_, h6⟩ := ex_more h1 h2 true (by rw [exE_is]; exact h3)
        rw [btr_f] at h5 h6
        simp only [if_true, if_false, Bool.false_eq_true] at h5 h6
        exact .inr (.inr (.inr ⟨rfl, rfl, h3, h4, h5, h6⟩))
      · exact .inr (.inr (.inl ⟨rfl, rfl, h3, trivial, trivial⟩))
end Go.Sy
