/- Loops whose rounds lay new blocks: blocks told in another order at a round's end. -/
import Derived.Test.YtkpffldbdbjcbaaGreatSyY
set_option linter.unusedSimpArgs false
set_option linter.unusedVariables false
namespace Go.Sy
open Go.RowKit

/-- One block taken out of its place. -/
def takeK : List HB → Nat → (HB → List HB → Prop) → Prop
  | [], _, _ => False
  | b :: r, 0, K => K b r
  | b :: r, j + 1, K => takeK r j fun x r' => K x (b :: r')
theorem takeK_iff : ∀ {hp : List HB} {j : Nat} {K : HB → List HB → Prop}, takeK hp j K → ∃ b r, (b :: r).Perm hp ∧ K b r
  | b :: r, 0, K, h => ⟨b, r, .refl _, h⟩
  | b :: r, j + 1, K, h => by
    obtain ⟨x, r', hp, h⟩ := takeK_iff (K := fun x r' => K x (b :: r')) h
    exact ⟨x, b :: r', (List.Perm.swap b x r').trans (.cons b hp), h⟩
/-- .. and put into another one. -/
def insK : List HB → Nat → HB → (List HB → Prop) → Prop
  | r, 0, b, K => K (b :: r)
  | [], _ + 1, b, K => K [b]
  | c :: r, i + 1, b, K => insK r i b fun r' => K (c :: r')
theorem insK_iff : ∀ {r : List HB} {i : Nat} {b : HB} {K : List HB → Prop}, insK r i b K → ∃ q, q.Perm (b :: r) ∧ K q
  | [], 0, b, K, h => ⟨_, .refl _, h⟩
  | _ :: _, 0, b, K, h => ⟨_, .refl _, h⟩
  | [], _ + 1, b, K, h => ⟨_, .refl _, h⟩
  | c :: r, i + 1, b, K, h => by
    obtain ⟨q, hp, h⟩ := insK_iff (K := fun r' => K (c :: r')) h
    exact ⟨c :: q, (List.Perm.cons c hp).trans (.swap b c r), h⟩
/-- Blocks pulled forward: each from a place to a place. -/
def pullK : List HB → List (Nat × Nat) → (List HB → Prop) → Prop
  | hp, [], K => K hp
  | hp, (i, j) :: ps, K => takeK hp i fun b r => insK r j b fun hq => pullK hq ps K
theorem pullK_iff : ∀ {ps : List (Nat × Nat)} {hp : List HB} {K : List HB → Prop}, pullK hp ps K → ∃ q, q.Perm hp ∧ K q
  | [], hp, K, h => ⟨hp, .refl _, h⟩
  | (i, j) :: ps, hp, K, h => by
    obtain ⟨b, r, h1, h⟩ := takeK_iff h
    obtain ⟨q, h2, h⟩ := insK_iff h
    obtain ⟨q', h3, h⟩ := pullK_iff h
    exact ⟨q', h3.trans (h2.trans h1), h⟩
theorem Wk.kp {P : Program} {X : Env P} {r : Option Nat} {Q : Post} {t : List It} {ds : List Nat} {fr : List (Nat × SV)} {hp : List HB} {K : List (Nat × SV) → List HB → Prop} (ps : List (Nat × Nat))
    (h : ∀ K' : List HB → Prop, (∀ hq, K fr hq → K' hq) → pullK hp ps K') : Wk X r Q (.k ds K :: t) ds fr hp := by
  obtain ⟨q, hp', hk⟩ := pullK_iff (h (fun hq => K fr hq) fun _ h => h)
  exact ⟨fun _ _ _ hf hw => ⟨fr, q, hk, hf, hw.perm hp'.symm⟩⟩
theorem den_g {w h : SV} {n j : Nat} {a : Option Nm} {s len len' cap : Nat} (hl : len = len') : den (.agg [w, h, .sl n a 0 s len cap]) = den (.agg [w, h, .sl j a 0 s len' cap]) := by
  subst hl; simp [den, denL]
theorem sl_like {i j : Nat} {a : Option Nm} {s n n' c : Nat} (hl : n = n') : den (.sl i a 0 s n c) = den (.sl j a 0 s n' c) := by
  subst hl; simp [den]
/-! What there is, told later. -/
theorem exAt {α β : Type} {P : α × β → Prop} (a : α) (h : ∃ y, P (a, y)) : ∃ x, P x := by obtain ⟨y, h⟩ := h; exact ⟨_, h⟩
theorem ex2 {β γ : Type} {P : β × γ → Prop} {b : β} {c : γ} (h : P (b, c)) : ∃ x, P x := ⟨_, h⟩
theorem ex3 {β γ δ : Type} {P : β × γ × δ → Prop} {b : β} {c : γ} {d : δ} (h : P (b, c, d)) : ∃ x, P x := ⟨_, h⟩
theorem ex6 {β γ δ β' γ' δ' : Type} {P : β × γ × δ × β' × γ' × δ' → Prop} {b : β} {c : γ} {d : δ} {b' : β'} {c' : γ'} {d' : δ'} (h : P (b, c, d, b', c', d')) : ∃ x, P x := ⟨_, h⟩
def isRx (hp : List HB) (i : Nat) : Bool := match hp[i]? with
  | some ⟨_, _, _, .rx _⟩ => true
  | _ => false
/-- Before a loop: a block of rules that lies at a place is pulled elsewhere. -/
theorem Wk.norm {P : Program} {X : Env P} {r : Option Nat} {Q : Post} {t : List It} {ds : List Nat} {fr : List (Nat × SV)} {hp : List HB} {x : Code} (q : Nat) (ps : List (Nat × Nat)) (hq : isRx hp q = true)
    (h : ∀ K' : List HB → Prop, (∀ hq, Wk X r Q (.c (.loop x) :: t) ds fr hq → K' hq) → pullK hp ps K') : Wk X r Q (.c (.loop x) :: t) ds fr hp := by
  obtain ⟨q, hp', hk⟩ := pullK_iff (h (fun hq => Wk X r Q (.c (.loop x) :: t) ds fr hq) fun _ h => h)
  exact ⟨fun w0 a w hf hw => hk.out w0 a w hf (hw.perm hp'.symm)⟩
/-- One cell of a row of values. -/
def Cts.cell (c : Cts) (i : Nat) : SV := match c with
  | .l xs => xs.getD i .und
  | _ => .und
/-- The same value, its block looked up at another place. -/
def SV.at (v : SV) (i : Nat) : SV := match v with
  | .sl _ a k s l c => .sl i a k s l c
  | .ptr _ nm k s d => .ptr i nm k s d
  | v => v
/-- A block that is only looked at, told twice. -/
theorem Wk.dup {P : Program} {X : Env P} {r : Option Nat} {Q : Post} {t : List It} {ds : List Nat} {fr : List (Nat × SV)} {hp : List HB} (i : Nat) {nm : Option Nm} {own : Bool} {c : Cts} (hi : hp[i]? = some ⟨nm, own, .ro, c⟩)
    (hr : hp.all (fun b => match b.kd with | .ro => true | _ => false) = true) (h : Wk X r Q t ds fr (hp ++ [⟨nm, true, .ro, c⟩])) : Wk X r Q t ds fr hp :=
  ⟨fun w0 a w hf hw => h.out w0 a w hf (hw.push (b := ⟨nm, true, .ro, c⟩) (by
      have := hw.blk _ (List.mem_of_getElem? hi)
      exact this) rfl (fun _ g hg => hg.elim) (fun g hg => hg.elim) (fun g _ x hx hc => by
      have := List.all_eq_true.1 hr x hx
      obtain ⟨n, o, k, q⟩ := x
      cases k <;> first | exact hc | (simp at this; done)))⟩
/-- The same cells, told otherwise. -/
theorem like_l {nm : Option Nm} {own : Bool} {kd : BK} {xs ys : List SV} (h : denL xs = denL ys) : HB.like ⟨nm, own, kd, .l xs⟩ ⟨nm, own, kd, .l ys⟩ := by
  have hl : xs.length = ys.length := by rw [← denL_len, ← denL_len, h]
  refine ⟨rfl, rfl, by cases kd <;> simp, by simp [Cts.n, Cts.len, Cts.s, hl], fun o ho => ?_⟩
  show den ((Cts.l xs).get o) = den ((Cts.l ys).get o)
  rw [Cts.l_get, Cts.l_get]
  exact denL_getD h o
end Go.Sy
