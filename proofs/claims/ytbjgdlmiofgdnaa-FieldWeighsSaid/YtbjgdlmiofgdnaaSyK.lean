/- More arguments: two cells in one. -/
import Derived.Test.YtbjgdlmiofgdnaaSyJ
set_option linter.unusedSimpArgs false
set_option linter.unusedVariables false
namespace Go.Sy
/-- Two cells. -/
structure Prr where
  a : Cel
  b : Cel
  deriving DecidableEq
theorem Prr.eta (p : Prr) : (⟨p.a, p.b⟩ : Prr) = p := rfl
def d1 (x : SV) (K : Prr → Prop) : Prop :=
  match x with
  | .agg [a, b, c, d, e, f, g, h] => i1 a fun a => i1 b fun b => i1 c fun c => i1 d fun d => i1 e fun e => i1 f fun f => i1 g fun g => i1 h fun h => K ⟨⟨a, b, c, d⟩, ⟨e, f, g, h⟩⟩
  | _ => False
theorem iff_d1 {x : SV} {K : Prr → Prop} (h : d1 x K) : ∃ c : Prr, K c ∧ den x = den (.agg [.int .i64 c.a.e, .int .i64 c.a.n, .int .i64 c.a.w, .int .i64 c.a.s, .int .i64 c.b.e, .int .i64 c.b.n, .int .i64 c.b.w, .int .i64 c.b.s]) := by
  unfold d1 at h
  split at h
  · obtain ⟨a, h, h1⟩ := iff_i1 h
    obtain ⟨b, h, h2⟩ := iff_i1 h
    obtain ⟨c, h, h3⟩ := iff_i1 h
    obtain ⟨d, h, h4⟩ := iff_i1 h
    obtain ⟨e, h, h5⟩ := iff_i1 h
    obtain ⟨f, h, h6⟩ := iff_i1 h
    obtain ⟨k, h, h7⟩ := iff_i1 h
    obtain ⟨l, h, h8⟩ := iff_i1 h
    exact ⟨_, h, by simp [den, denL, h1, h2, h3, h4, h5, h6, h7, h8]⟩
  · exact h.elim
/-- A function's value without captured variables. -/
def f1 (x : SV) (K : Nat → Prop) : Prop :=
  match x with
  | .fn n [] [] => K n
  | _ => False
theorem iff_f1 {x : SV} {K : Nat → Prop} (h : f1 x K) : ∃ n : Nat, K n ∧ den x = den (.fn n [] []) := by
  unfold f1 at h
  split at h
  · exact ⟨_, h, rfl⟩
  · exact h.elim
/-- Two grids on one. -/
def m1 (x : SV) (hp : List HB) (K : Mix → Prop) : Prop :=
  match x with
  | .agg [w, h, a, b] => i1 w fun w => i1 h fun h => lc a hp fun a => lc b hp fun b => K ⟨w, h, a, b⟩
  | _ => False
theorem iff_m1 {x : SV} {hp : List HB} {K : Mix → Prop} (h : m1 x hp K) : ∃ (g : Mix) (a : Option Nm) (cap : Nat) (a' : Option Nm) (cap' : Nat), K g ∧ den (.agg [.int .i64 g.w, .int .i64 g.h, .sl 0 a 0 4 g.a.length cap, .sl 0 a' 0 4 g.b.length cap']) = den x ∧
    (0 < g.a.length → a.isSome = true) ∧ (0 < g.b.length → a'.isSome = true) ∧ ViewOk hp ⟨a, false, .ro, .cx g.a⟩ ∧ ViewOk hp ⟨a', false, .ro, .cx g.b⟩ := by
  unfold m1 at h
  split at h
  · obtain ⟨w, h, e1⟩ := iff_i1 h
    obtain ⟨hh, h, e2⟩ := iff_i1 h
    obtain ⟨xs, a, cap, h, hs⟩ := iff_lc h
    obtain ⟨ys, b, dap, h, ht⟩ := iff_lc h
    refine ⟨_, a, cap, b, dap, h, ?_, hs.pos, ht.pos, hs.ok, ht.ok⟩
    have q1 := hs.eq
    have q2 := ht.eq
    simp only [Cts.s, Cts.len] at q1 q2
    simp only [den, denL, e1, e2, ← q1, ← q2]
  · exact h.elim
/-- Three whole numbers in one. -/
structure Tri where
  x : Int
  y : Int
  z : Int
  deriving DecidableEq
theorem Tri.eta (p : Tri) : (⟨p.x, p.y, p.z⟩ : Tri) = p := rfl
def tr1 (x : SV) (K : Tri → Prop) : Prop :=
  match x with
  | .agg [a, b, c] => i1 a fun a => i1 b fun b => i1 c fun c => K ⟨a, b, c⟩
  | _ => False
theorem iff_tr1 {x : SV} {K : Tri → Prop} (h : tr1 x K) : ∃ c : Tri, K c ∧ den x = den (.agg [.int .i64 c.x, .int .i64 c.y, .int .i64 c.z]) := by
  unfold tr1 at h
  split at h
  · obtain ⟨a, h, h1⟩ := iff_i1 h
    obtain ⟨b, h, h2⟩ := iff_i1 h
    obtain ⟨c, h, h3⟩ := iff_i1 h
    exact ⟨_, h, by simp [den, denL, h1, h2, h3]⟩
  · exact h.elim
/-- A pointer to a function's value. -/
def pf (x : SV) (hp : List HB) (K : Nat → Prop) : Prop := cellsAt x hp 1 fun vs => match vs with
  | [v] => f1 v K
  | _ => False
theorem iff_pf {x : SV} {hp : List HB} {K : Nat → Prop} (h : pf x hp K) : ∃ (f : Nat) (nm : Nm), K f ∧ den (.ptr 0 nm 0 0 0) = den x ∧ ViewOk hp ⟨some nm, false, .ro, .l [.fn f [] []]⟩ := by
  obtain ⟨vs, nm, h, hl, he, hv⟩ := iff_cellsAt h
  split at h
  · obtain ⟨c, h, hc⟩ := iff_f1 h
    refine ⟨c, nm, h, by rw [he]; simp [den], hv _ rfl fun j hj => ?_⟩
    rename_i v _
    have hd : denL [v] = denL [.fn c [] []] := by simp only [denL, hc]
    rw [denL_getD hd, Cts.l_get]
  · exact h.elim
theorem ret_sl' {hp hq : List HB} {K : SV → List HB → Prop} {wrap : SV → SV} {n : Nat} {ty : TypeId} {c : Cts} (hK : ∀ (a : Option Nm) (cap : Nat), (0 < c.len → a.isSome = true) → cap ≤ 9223372036854775807 → K (wrap (.sl n a 0 c.s c.len cap)) (hp ++ [⟨a, true, .wr ty (cap * c.s), c⟩]))
    {v : SV} {c' : Cts} (i : Nat) {a : Option Nm} {cap : Nat} (hi : hq[i]? = some ⟨a, true, .wr ty (cap * c.s), c'⟩) (hc : c' = c) (hv : den (wrap (.sl n a 0 c.s c.len cap)) = den v) (hm : allMine hq) (hpos : 0 < c.len → a.isSome = true) (hcap : cap ≤ 9223372036854775807) :
    ∃ v' news, den v' = den v ∧ hsel news hq ∧ allFresh news = true ∧ K v' (hp ++ news) := by
  subst hc
  exact ret_sl hK i a cap hv hi hm hpos hcap
/-- .. whose room is not told. -/
theorem ret_slF {hp hq : List HB} {K : SV → List HB → Prop} {wrap : SV → SV} {n : Nat} {ty : TypeId} {c : Cts} (hK : ∀ (a : Option Nm) (cap bc : Nat), (0 < c.len → a.isSome = true) → (c.len ≤ cap ∧ cap ≤ 9223372036854775807) → K (wrap (.sl n a 0 c.s c.len cap)) (hp ++ [⟨a, true, .wr ty bc, c⟩]))
    {v : SV} {c' : Cts} (i : Nat) {a : Option Nm} {cap bc : Nat} (hi : hq[i]? = some ⟨a, true, .wr ty bc, c'⟩) (hc : c' = c) (hv : den (wrap (.sl n a 0 c.s c.len cap)) = den v) (hm : allMine hq) (hpos : 0 < c.len → a.isSome = true) (hcap : c.len ≤ cap ∧ cap ≤ 9223372036854775807) :
    ∃ v' news, den v' = den v ∧ hsel news hq ∧ allFresh news = true ∧ K v' (hp ++ news) := by
  subst hc
  exact ⟨_, _, hv, hsel_one hi hm, rfl, hK a cap bc hpos hcap⟩
theorem ret_slG {hp hq : List HB} {K : SV → List HB → Prop} {wrap : SV → SV} {n : Nat} {ty : TypeId} {c : Cts} (hK : ∀ (a : Option Nm) (cap bc : Nat), (0 < c.len → a.isSome = true) → (c.len ≤ cap ∧ cap ≤ 9223372036854775807) → K (wrap (.sl n a 0 c.s c.len cap)) (hp ++ [⟨a, true, .wr ty bc, c⟩]))
    {v : SV} (i : Nat) (h : ∃ (a : Option Nm) (cap bc : Nat) (c' : Cts), hq[i]? = some ⟨a, true, .wr ty bc, c'⟩ ∧ den (wrap (.sl n a 0 c.s c.len cap)) = den v ∧ c' = c ∧ allMine hq ∧ (0 < c.len → a.isSome = true) ∧ (c.len ≤ cap ∧ cap ≤ 9223372036854775807)) :
    ∃ v' news, den v' = den v ∧ hsel news hq ∧ allFresh news = true ∧ K v' (hp ++ news) := by
  obtain ⟨a, cap, bc, c', h1, h2, h3, h4, h5, h6⟩ := h
  exact ret_slF hK i h1 h3 h2 h4 h5 h6
/-- An empty one: it lies nowhere. -/
theorem ret_slN {hp hq : List HB} {K : SV → List HB → Prop} {wrap : SV → SV} {n : Nat} {ty : TypeId} {c : Cts} (hK : ∀ (a : Option Nm) (cap bc : Nat), (0 < c.len → a.isSome = true) → (c.len ≤ cap ∧ cap ≤ 9223372036854775807) → K (wrap (.sl n a 0 c.s c.len cap)) (hp ++ [⟨a, true, .wr ty bc, c⟩]))
    {v : SV} (i : Nat) {c' : Cts} (hl : c.len = 0) (hi : hq[i]? = some ⟨none, true, .wr ty 0, c'⟩) (hc : c' = c) (hv : den (wrap (.sl n none 0 c.s c.len 0)) = den v) (hm : allMine hq) :
    ∃ v' news, den v' = den v ∧ hsel news hq ∧ allFresh news = true ∧ K v' (hp ++ news) :=
  ret_slF hK i hi hc hv hm (fun h => by omega) ⟨by omega, by omega⟩
theorem den_tag {w h e e' : SV} {n j : Nat} {a : Option Nm} {s len len' cap : Nat} (hl : len = len') (he : den e = den e') : den (.tup [.agg [w, h, .sl n a 0 s len cap], e]) = den (.tup [.agg [w, h, .sl j a 0 s len' cap], e']) := by
  subst hl; simp [den, denL, he]
end Go.Sy
