/- Values that lie in two new blocks. -/
import Derived.Test.YtijealodlgdgaaaSyZ
set_option linter.unusedSimpArgs false
set_option linter.unusedVariables false
namespace Go.Sy
open Go.RowKit

theorem pick1 {α : Type} : ∀ {l : List α} {i : Nat} {x : α}, l[i]? = some x → ∃ r, (x :: r).Perm l ∧ ∀ j y, j ≠ i → l[j]? = some y → y ∈ r
  | [], i, x, h => by simp at h
  | z :: l, 0, x, h => by
    have h : z = x := by simpa using h
    subst h
    refine ⟨l, .refl _, fun j y hj hy => ?_⟩
    cases j with
    | zero => exact absurd rfl hj
    | succ j => exact List.mem_of_getElem? (i := j) (by simpa using hy)
  | z :: l, i + 1, x, h => by
    obtain ⟨r, hp, hm⟩ := pick1 (l := l) (i := i) (x := x) (by simpa using h)
    refine ⟨z :: r, (List.Perm.swap z x r).trans (.cons z hp), fun j y hj hy => ?_⟩
    cases j with
    | zero =>
      have hy : z = y := by simpa using hy
      subst hy; exact List.mem_cons_self ..
    | succ j => exact List.mem_cons_of_mem _ (hm j y (fun e => hj (by rw [e])) (by simpa using hy))
theorem mem_perm {α : Type} {y : α} {r : List α} (h : y ∈ r) : ∃ q, (y :: q).Perm r := by
  obtain ⟨s, t, rfl⟩ := List.append_of_mem h
  exact ⟨s ++ t, List.perm_middle.symm⟩
theorem spare_mine {hq : List HB} (hm : allMine hq) {b : HB} (hb : b ∈ hq) : b.spare := by
  obtain ⟨h1, h2⟩ := allMine_mem hm b hb
  refine ⟨?_, h1⟩
  by_cases hc : ∃ g, b.cl g
  · exact .inl (h2 hc)
  · exact .inr fun g hg => hc ⟨g, hg⟩
/-- Two blocks of all, in whatever order they lie. -/
theorem hsel_two {hq : List HB} {i j : Nat} {b c : HB} (hij : i ≠ j) (hi : hq[i]? = some b) (hj : hq[j]? = some c) (hm : allMine hq) : ∃ hr, hr.Perm hq ∧ hsel [b, c] hr := by
  obtain ⟨r, hp, hr⟩ := pick1 hi
  obtain ⟨q, hq'⟩ := mem_perm (hr j c (fun e => hij e.symm) hj)
  have hall : (b :: c :: q).Perm hq := (List.Perm.cons b hq').trans hp
  refine ⟨b :: c :: q, hall, ?_⟩
  exact .take (.refl b) (.inr fun _ h => h) (.take (.refl c) (.inr fun _ h => h) (hsel.left [] (hq := q) fun d hd => spare_mine hm (hall.mem_iff.1 (by simp [hd]))))
/-- A contract whose value lies in new blocks, in whatever order they came. -/
theorem eok_of_wkP {P : Program} (X : Env P) {f : FuncId} {fn : Func} {code : Code} (hf : P.funcs[f]? = some fn) (hb : fn.body = some code)
    (hname : (fn.name == "runtime.NumGoroutine") = false) (hN : fn.ntmps = X.N) (hrs : fn.results.toList = X.rs) {c : ECtr}
    (h : ∀ (args : List SV) (hp : List HB) (K : SV → List HB → Prop), c args hp K → ∃ (args' : List SV) (hp0 : List HB), denL args' = denL args ∧ allRo hp0 ∧ (∀ w, (∀ b ∈ hp, b.ok w) → ∀ b ∈ hp0, b.ok w) ∧
      args'.length ≤ X.N ∧ Wk X none (endP X fun v hq => ∃ v' news, den v' = den v ∧ (∃ hr, hr.Perm hq ∧ hsel news hr) ∧ allFresh news = true ∧ K v' (hp ++ news)) [.c code] [] (argFr 0 args') hp0) : EOk P f c :=
  ⟨⟨fn, hf, hname, by rw [hb]; rfl⟩, fun args hp K hc w0 w hw => by
    obtain ⟨args', hp0, ha, hro, hsub, hn, hv⟩ := h args hp K hc
    rw [← ha]
    refine (calls_of_wk X hf hb hN hrs hn hv (Holds.ofRo (hsub w hw.blk) hro)).mono fun e w' ⟨v, hq, ⟨v', news, h1, ⟨hr, hperm, h2⟩, h3, hK⟩, he, hw'⟩ => ?_
    refine ⟨v', hp ++ news, hK, by rw [he, h1], ?_⟩
    have hn' := (hw'.perm hperm.symm).sel h2
    have hfr := allFresh_mem h3
    have hbel : Below w.heap.size w w' := hn'.toBelow (fun b hb => (hfr b hb).2.1) fun b hb _ => (hfr b hb).1
    have hold := hw.below hbel
    have hge : ∀ b ∈ news, ∀ g, b.touch g → w.heap.size ≤ g := fun b hb g ht => hn'.own b hb (hfr b hb).1 g ((hfr b hb).2.2 g ht)
    have hlt : ∀ b ∈ hp, ∀ g, b.touch g → g < w.heap.size := fun b hb g ht => (hw.blk b hb).lt ht
    refine ⟨hold.size, fun hg => ?_, fun b hb => ?_, fun b hb hbo g hbg => ?_, ?_⟩
    · obtain ⟨q1, q2, q3, q4⟩ := hold.base fun b hb => hg b (List.mem_append.2 (.inl hb))
      exact ⟨q1, q2, q3, fun k hk hnn => q4 k hk fun b hb => hnn b (List.mem_append.2 (.inl hb))⟩
    · rcases List.mem_append.1 hb with hb | hb
      · exact hold.blk b hb
      · exact hn'.blk b hb
    · rcases List.mem_append.1 hb with hb | hb
      · exact hold.own b hb hbo g hbg
      · exact Nat.le_trans hw.size (hge b hb g (.inl hbg))
    · rw [sep_iff, List.pairwise_append]
      refine ⟨sep_iff.1 hold.sep, sep_iff.1 hn'.sep, fun b hb c hc g => ⟨fun h1 h2 => ?_, fun h1 h2 => ?_⟩⟩
      · have := hlt b hb g (.inl h1); have := hge c hc g h2; omega
      · have := hlt b hb g h2; have := hge c hc g (.inl h1); omega⟩
theorem ret_sl2 {hp hq : List HB} {K : SV → List HB → Prop} {wrap : SV → SV → SV} {n : Nat} {ty : TypeId} {c d : Cts} (hK : ∀ (a b : Option Nm) (cap cap2 bc bc2 : Nat), (0 < c.len → a.isSome = true) → (c.len ≤ cap ∧ cap ≤ 9223372036854775807) → (0 < d.len → b.isSome = true) → (d.len ≤ cap2 ∧ cap2 ≤ 9223372036854775807) →
      K (wrap (.sl n a 0 c.s c.len cap) (.sl (n + 1) b 0 d.s d.len cap2)) (hp ++ [⟨a, true, .wr ty bc, c⟩, ⟨b, true, .wr ty bc2, d⟩]))
    {v : SV} (i j : Nat) (hij : i ≠ j) (h : ∃ (a b : Option Nm) (cap cap2 bc bc2 : Nat) (c' d' : Cts), hq[i]? = some ⟨a, true, .wr ty bc, c'⟩ ∧ hq[j]? = some ⟨b, true, .wr ty bc2, d'⟩ ∧ den (wrap (.sl n a 0 c.s c.len cap) (.sl (n + 1) b 0 d.s d.len cap2)) = den v ∧ c' = c ∧ d' = d ∧ allMine hq ∧
      (0 < c.len → a.isSome = true) ∧ (c.len ≤ cap ∧ cap ≤ 9223372036854775807) ∧ (0 < d.len → b.isSome = true) ∧ (d.len ≤ cap2 ∧ cap2 ≤ 9223372036854775807)) :
    ∃ v' news, den v' = den v ∧ (∃ hr, hr.Perm hq ∧ hsel news hr) ∧ allFresh news = true ∧ K v' (hp ++ news) := by
  obtain ⟨a, b, cap, cap2, bc, bc2, c', d', h1, h2, h3, rfl, rfl, h6, h7, h8, h9, h0⟩ := h
  exact ⟨_, _, h3, hsel_two hij h1 h2 h6, rfl, hK a b cap cap2 bc bc2 h7 h8 h9 h0⟩
end Go.Sy
