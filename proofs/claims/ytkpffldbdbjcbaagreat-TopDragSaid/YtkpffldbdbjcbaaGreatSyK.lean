/- Arguments, taken apart. -/
import Derived.Test.YtkpffldbdbjcbaaGreatSyH
set_option linter.unusedSimpArgs false
set_option linter.unusedVariables false
namespace Go.Sy
open Go.RowKit

/-- A grid of cells; two on one grid. -/
structure Grd where
  w : Int
  h : Int
  cs : List Cel
  deriving DecidableEq
theorem Grd.eta (g : Grd) : (⟨g.w, g.h, g.cs⟩ : Grd) = g := rfl
structure Mix where
  w : Int
  h : Int
  a : List Cel
  b : List Cel
  deriving DecidableEq
structure Wal where
  k : List Int
  b : List Int
  deriving DecidableEq
structure Pat where
  c : Grd
  x0 : Int
  y0 : Int
  x1 : Int
  y1 : Int
  f : Grd
  deriving DecidableEq

def c1 (x : SV) (K : Cel → Prop) : Prop :=
  match x with
  | .agg vs => cel4 vs K
  | _ => False
theorem iff_c1 {x : SV} {K : Cel → Prop} (h : c1 x K) : ∃ c : Cel, K c ∧ den x = den c.sv := by
  unfold c1 at h
  split at h
  · obtain ⟨c, h, e⟩ := iff_cel4 h
    exact ⟨c, h, by simp only [den, e]; rfl⟩
  · exact h.elim
def r1 (x : SV) (K : Rul → Prop) : Prop :=
  match x with
  | .agg vs => rul2 vs K
  | _ => False
theorem iff_r1 {x : SV} {K : Rul → Prop} (h : r1 x K) : ∃ c : Rul, K c ∧ den x = den c.sv := by
  unfold r1 at h
  split at h
  · obtain ⟨c, h, e⟩ := iff_rul2 h
    exact ⟨c, h, by simp only [den, e]; rfl⟩
  · exact h.elim
def q1 (x : SV) (K : Rat2 → Prop) : Prop :=
  match x with
  | .agg vs => rat2 vs K
  | _ => False
def pt1 (x : SV) (K : Pnt → Prop) : Prop :=
  match x with
  | .agg vs => pnt2 vs K
  | _ => False
theorem iff_pt1 {x : SV} {K : Pnt → Prop} (h : pt1 x K) : ∃ c : Pnt, K c ∧ den x = den (.agg [.int .i64 c.x, .int .i64 c.y]) := by
  unfold pt1 at h
  split at h
  · obtain ⟨c, h, e⟩ := iff_pnt2 h
    exact ⟨c, h, by simp only [den, e]; rfl⟩
  · exact h.elim
def ga1 (x : SV) (K : Gau → Prop) : Prop :=
  match x with
  | .agg vs => gau10 vs K
  | _ => False
theorem iff_ga1 {x : SV} {K : Gau → Prop} (h : ga1 x K) : ∃ c : Gau, K c ∧ den x = den (.agg [.int .i64 c.f, .int .i64 c.t, .int .i64 c.bl, .int .i64 c.bh, .int .i64 c.il, .int .i64 c.ih, .int .i64 c.ol, .int .i64 c.oh, .int .i64 c.al, .int .i64 c.ah]) := by
  unfold ga1 at h
  split at h
  · obtain ⟨c, h, e⟩ := iff_gau10 h
    exact ⟨c, h, by simp only [den, e]; rfl⟩
  · exact h.elim

def mineB : List HB → Bool
  | [] => true
  | b :: r => match b.kd with
    | .ro => mineB r
    | .gh .. => false
    | _ => b.own && mineB r
theorem mine_of : ∀ {hp : List HB}, mineB hp = true → allMine hp
  | [], _ => trivial
  | ⟨nm, own, kd, cts⟩ :: r, h => by
    cases kd with
    | ro => exact ⟨⟨rfl, .inr trivial⟩, mine_of h⟩
    | gh J k => simp [mineB] at h
    | _ => simp only [mineB, Bool.and_eq_true] at h; exact ⟨⟨rfl, .inl h.1⟩, mine_of h.2⟩
theorem denL_cons {a x : SV} {as xs : List SV} (h : den a = den x) (hs : denL as = denL xs) : denL (a :: as) = denL (x :: xs) := by rw [denL, denL, h, hs]
theorem withV_mk {o : Option SV} {v : SV} {K : SV → Prop} (h : o = some v) (hk : K v) : withV o K := by subst h; exact hk
section
variable {P : Program} {X : Env P} {r : Option Nat} {Q : Post} {t : List It} {ds : List Nat} {fr : List (Nat × SV)} {hp : List HB}
theorem wk_ops {full rest : List Oper} (h : Wk X r Q (.ops full rest :: t) ds fr hp) : Wk X r Q (.ops full rest :: t) ds fr hp := h
theorem wk_yld {full rest : List Oper} {d : Option Tmp} {f : Tmp} {args : Array Operand} {tys : Array TypeId} {ty : TypeId} {pos : String} {af : Array Edge} {gd : Option (Nat × Bool)} (h : Wk X r Q (.ops full (⟨d, .call ⟨.value (.tmp f), args, tys⟩, ty, pos, af, gd⟩ :: rest) :: t) ds fr hp) : Wk X r Q (.ops full (⟨d, .call ⟨.value (.tmp f), args, tys⟩, ty, pos, af, gd⟩ :: rest) :: t) ds fr hp := h
theorem wk_rg {full : List Oper} {ls : List Nat} {p : Plan} (h : Wk X r Q (.rg full ls p :: t) ds fr hp) : Wk X r Q (.rg full ls p :: t) ds fr hp := h
theorem wk_xq {full : List Oper} {l1 l2 : List Nat} {as : List (Nat × TypeId × Cts)} {hq : List HB} {p : Plan} (h : Wk X r Q (.xq full l1 l2 as hq p :: t) ds fr hp) : Wk X r Q (.xq full l1 l2 as hq p :: t) ds fr hp := h
theorem wk_rs {full : List Oper} {T : List Nat} {H : List (Nat × Option (Nat × HB))} {ls : List Nat} {p : Plan} (h : Wk X r Q (.rs full T H ls p :: t) ds fr hp) : Wk X r Q (.rs full T H ls p :: t) ds fr hp := h
theorem wk_c {x : Code} (h : Wk X r Q (.c x :: t) ds fr hp) : Wk X r Q (.c x :: t) ds fr hp := h
end
theorem g_ile {a b : Int} (h : a ≤ b) : a ≤ b := h
theorem g_ilt {a b : Int} (h : a < b) : a < b := h
theorem g_nle {a b : Nat} (h : a ≤ b) : a ≤ b := h
theorem g_nlt {a b : Nat} (h : a < b) : a < b := h
theorem g_ieq {a b : Int} (h : a = b) : a = b := h
theorem g_neq {a b : Nat} (h : a = b) : a = b := h
theorem I64_two {x : Int} (h1 : -9223372036854775808 ≤ x) (h2 : x ≤ 9223372036854775807) : I64 x := ⟨h1, h2⟩
theorem mine_goal {hp : List HB} (h : allMine hp) : allMine hp := h
theorem withV_goal {o : Option SV} {K : SV → Prop} (h : withV o K) : withV o K := h
theorem hsel_goal {hp hq : List HB} (h : hsel hp hq) : hsel hp hq := h
theorem ble_goal {a b : Nat} (h : Nat.ble a b = true) : a ≤ b := Nat.le_of_ble_eq_true h
theorem k_goal {P : Program} {X : Env P} {r : Option Nat} {Q : Post} {t : List It} {ds ds' : List Nat} {K : List (Nat × SV) → List HB → Prop} {fr : List (Nat × SV)} {hp : List HB} (h : Wk X r Q (.k ds' K :: t) ds fr hp) : Wk X r Q (.k ds' K :: t) ds fr hp := h
theorem top_goal {p : Plan} {ops : Array Oper} (h : p.top ops = true) : p.top ops = true := h
theorem allB_goal {l : List Oper} (h : allB noDef l = true) : allB noDef l = true := h
/-! ### Blocks that a callee looks at -/
def ViewOk (hp : List HB) (b0 : HB) : Prop := ∀ w, (∀ b ∈ hp, b.ok w) → b0.ok w

/-- The same cells, looked at from further on, or told otherwise. -/
theorem HB.ok.view {b : HB} {w : World} (h : b.ok w) (hC : b.isC = true) {nm : Nm} (hnm : b.nm = some nm) (o : Nat) {c : Cts} (hn : o + c.n ≤ b.cts.n) (hc : ∀ j, j < c.n → den (b.cts.get (o + j)) = den (c.get j)) :
    HB.ok ⟨some ⟨nm.g, nm.b + o⟩, false, .ro, c⟩ w := fun j hj => by
  have hj : j < c.n := hj
  simp only
  rw [Nat.add_assoc, h.cell hnm (by omega) (HB.isC_kd hC), hc j hj]
theorem HB.ok.none_n {b : HB} {w : World} (h : b.ok w) (hC : b.isC = true) (hnm : b.nm = none) : b.cts.n = 0 := by
  obtain ⟨nm, own, kd, cts⟩ := b
  simp only at hnm; subst hnm
  cases kd <;> first | exact h | exact h.1 | (simp [HB.isC] at hC; done)

/-- A whole list. -/
structure SlOk (hp : List HB) (x : SV) (c : Cts) (a : Option Nm) (cap : Nat) : Prop where
  eq : den (.sl 0 a 0 c.s c.len cap) = den x
  pos : 0 < c.len → a.isSome = true
  ok : ViewOk hp ⟨a, false, .ro, c⟩
theorem sl_nil (hp : List HB) (c : Cts) (h : c.len = 0) : SlOk hp .nilsl c none 0 :=
  ⟨by simp [den, h], fun h' => by omega, fun w _ => by show c.n = 0; unfold Cts.n; rw [h]; simp⟩
theorem sl_whole {hp : List HB} {i : Nat} {b : HB} {a : Option Nm} {len cap s : Nat} (hb : hp[i]? = some b) (hC : b.isC = true) (hs : s = b.cts.s) (hnm : b.nm = a) (hl : len = b.cts.len) (hp' : 0 < len → a.isSome = true) : SlOk hp (.sl i a 0 s len cap) b.cts a cap := by
  subst hl; subst hs
  refine ⟨by simp [den], hp', fun w hw => ?_⟩
  have hok := hw b (List.mem_of_getElem? hb)
  cases a with
  | none => exact hok.none_n hC hnm
  | some nm => simpa using hok.view hC hnm 0 (c := b.cts) (by omega) (fun j _ => by rw [Nat.zero_add])
def slW (x : SV) (hp : List HB) (s0 : Nat) (K : Cts → Prop) : Prop :=
  match x with
  | .sl i a k s len _ => match hp[i]? with
    | some b => match b.isC && (Nat.beq s s0 && Nat.beq b.cts.s s0) with
      | true => (k = 0 ∧ b.nm = a ∧ len = b.cts.len ∧ (0 < len → a.isSome = true)) ∧ K b.cts
      | false => False
    | none => False
  | _ => False
theorem iff_slW {x : SV} {hp : List HB} {s0 : Nat} {K : Cts → Prop} (h : slW x hp s0 K) : ∃ c a cap, K c ∧ c.s = s0 ∧ SlOk hp x c a cap := by
  unfold slW at h
  split at h
  · split at h
    · rename_i b hb
      split at h
      · rename_i hbb
        simp only [Bool.and_eq_true] at hbb
        have h1 := Nat.eq_of_beq_eq_true hbb.2.1
        have h2 := Nat.eq_of_beq_eq_true hbb.2.2
        obtain ⟨⟨rfl, hnm, hl, hp'⟩, h⟩ := h
        exact ⟨_, _, _, h, h2, sl_whole hb hbb.1 (by rw [h1, h2]) hnm hl hp'⟩
      · exact h.elim
    · exact h.elim
  · exact h.elim

def lc (x : SV) (hp : List HB) (K : List Cel → Prop) : Prop :=
  match x with
  | .nilsl => K []
  | x => slW x hp 4 fun c => match c with | .cx xs => K xs | _ => False
theorem iff_lc {x : SV} {hp : List HB} {K : List Cel → Prop} (h : lc x hp K) : ∃ (xs : List Cel) (a : Option Nm) (cap : Nat), K xs ∧ SlOk hp x (.cx xs) a cap := by
  unfold lc at h
  split at h
  · exact ⟨[], none, 0, h, sl_nil _ _ rfl⟩
  · obtain ⟨c, a, cap, h, _, hs⟩ := iff_slW h
    split at h
    · exact ⟨_, a, cap, h, hs⟩
    · exact h.elim
def lr (x : SV) (hp : List HB) (K : List Rul → Prop) : Prop :=
  match x with
  | .nilsl => K []
  | x => slW x hp 2 fun c => match c with | .rx xs => K xs | _ => False
theorem iff_lr {x : SV} {hp : List HB} {K : List Rul → Prop} (h : lr x hp K) : ∃ (xs : List Rul) (a : Option Nm) (cap : Nat), K xs ∧ SlOk hp x (.rx xs) a cap := by
  unfold lr at h
  split at h
  · exact ⟨[], none, 0, h, sl_nil _ _ rfl⟩
  · obtain ⟨c, a, cap, h, _, hs⟩ := iff_slW h
    split at h
    · exact ⟨_, a, cap, h, hs⟩
    · exact h.elim
def lg (x : SV) (hp : List HB) (K : List Gau → Prop) : Prop :=
  match x with
  | .nilsl => K []
  | x => slW x hp 10 fun c => match c with | .gx xs => K xs | _ => False
theorem iff_lg {x : SV} {hp : List HB} {K : List Gau → Prop} (h : lg x hp K) : ∃ (xs : List Gau) (a : Option Nm) (cap : Nat), K xs ∧ SlOk hp x (.gx xs) a cap := by
  unfold lg at h
  split at h
  · exact ⟨[], none, 0, h, sl_nil _ _ rfl⟩
  · obtain ⟨c, a, cap, h, _, hs⟩ := iff_slW h
    split at h
    · exact ⟨_, a, cap, h, hs⟩
    · exact h.elim
def lp (x : SV) (hp : List HB) (K : List Pnt → Prop) : Prop :=
  match x with
  | .nilsl => K []
  | x => slW x hp 2 fun c => match c with | .px xs => K xs | _ => False
def ls (x : SV) (hp : List HB) (K : List ByteArray → Prop) : Prop :=
  match x with
  | .nilsl => K []
  | x => slW x hp 1 fun c => match c with | .sx xs => K xs | _ => False
/-- So many cells from a place on, as numbers. -/
def cellsAt (x : SV) (hp : List HB) (n : Nat) (K : List SV → Prop) : Prop :=
  match x with
  | .ptr i nm k s d => match hp[i]? with
    | some b => match b.isC with
      | true => b.nm = some nm ∧ match b.cts with
        | .l xs => match Nat.ble (k * s + d + n) xs.length with
          | true => K (rangeL xs (k * s + d) n)
          | false => False
        | c => match Nat.beq c.s s && Nat.ble (d + n) c.s with
          | true => k < c.len ∧ K (rangeL (c.row k) d n)
          | false => False
      | false => False
    | none => False
  | _ => False
theorem rangeL_len (xs : List SV) (o n : Nat) : (rangeL xs o n).length = n := by simp [rangeL_eq]
theorem rangeL_get (xs : List SV) {o n j : Nat} (hj : j < n) : (rangeL xs o n).getD j .und = xs.getD (o + j) .und := by
  rw [rangeL_eq, List.getD_eq_getElem?_getD, List.getElem?_map, List.getElem?_range hj]; rfl
theorem iff_cellsAt {x : SV} {hp : List HB} {n : Nat} {K : List SV → Prop} (h : cellsAt x hp n K) : ∃ vs nm, K vs ∧ vs.length = n ∧ den x = .pointer (some ⟨nm.g, nm.b, none⟩) ∧
    ∀ c : Cts, c.n = n → (∀ j, j < n → den (vs.getD j .und) = den (c.get j)) → ViewOk hp ⟨some nm, false, .ro, c⟩ := by
  unfold cellsAt at h
  split at h
  · rename_i i nm k s d
    split at h
    · rename_i b hb
      split at h
      · rename_i hC
        obtain ⟨hnm, h⟩ := h
        split at h
        · rename_i xs hx
          split at h
          · rename_i hle
            have hle := Nat.le_of_ble_eq_true hle
            refine ⟨_, ⟨nm.g, nm.b + (k * s + d)⟩, h, rangeL_len _ _ _, by simp [den], fun c hc hj w hw => ?_⟩
            exact (hw b (List.mem_of_getElem? hb)).view hC hnm (k * s + d) (by rw [hx, Cts.l_n, hc]; exact hle) fun j hjn => by rw [hx, Cts.l_get, ← hj j (by omega), rangeL_get _ (by omega)]
          · exact h.elim
        · split at h
          · rename_i hb2
            simp only [Bool.and_eq_true] at hb2
            have h1 := Nat.eq_of_beq_eq_true hb2.1
            have h2 := Nat.le_of_ble_eq_true hb2.2
            subst h1
            refine ⟨_, ⟨nm.g, nm.b + (k * b.cts.s + d)⟩, h.2, rangeL_len _ _ _, by simp [den], fun c hc hj w hw => ?_⟩
            have hle : k * b.cts.s + d + n ≤ b.cts.n := by
              have : (k + 1) * b.cts.s ≤ b.cts.len * b.cts.s := Nat.mul_le_mul_right _ h.1
              rw [Nat.add_mul] at this; unfold Cts.n; omega
            exact (hw b (List.mem_of_getElem? hb)).view hC hnm _ (by rw [hc]; exact hle) fun j hjn => by
              rw [Nat.add_assoc, b.cts.get_at (by omega), ← hj j (by omega), rangeL_get _ (by omega)]
          · exact h.elim
      · exact h.elim
    · exact h.elim
  · exact h.elim
/-- A pointer to so many numbers. -/
def p2 (x : SV) (hp : List HB) (K : Rul → Prop) : Prop := cellsAt x hp 2 fun vs => rul2 vs K
theorem iff_p2 {x : SV} {hp : List HB} {K : Rul → Prop} (h : p2 x hp K) : ∃ (c : Rul) (nm : Nm), K c ∧ den (.ptr 0 nm 0 0 0) = den x ∧ ViewOk hp ⟨some nm, false, .ro, .l [.int .i64 c.k, .int .i64 c.b]⟩ := by
  obtain ⟨vs, nm, h, hl, he, hv⟩ := iff_cellsAt h
  obtain ⟨c, h, hc⟩ := iff_rul2 h
  exact ⟨c, nm, h, by rw [he]; simp [den], hv _ rfl fun j hj => by rw [denL_getD hc, Cts.l_get]; rfl⟩

/-- A slice over an array of four. -/
def s4 (x : SV) (hp : List HB) (K : Cel → Prop) : Prop :=
  match x with
  | .sub i nm k s d len _ => match Nat.beq len 4 with
    | true => cellsAt (.ptr i nm k s d) hp 4 fun vs => cel4 vs K
    | false => False
  | _ => False
theorem iff_s4 {x : SV} {hp : List HB} {K : Cel → Prop} (h : s4 x hp K) : ∃ (c : Cel) (nm : Nm) (cap : Nat), K c ∧ den (.sub 0 nm 0 0 0 4 cap) = den x ∧ ViewOk hp ⟨some nm, false, .ro, .l [.int .i64 c.e, .int .i64 c.n, .int .i64 c.w, .int .i64 c.s]⟩ := by
  unfold s4 at h
  split at h
  · rename_i i nm k s d len cap
    split at h
    · rename_i hl
      have hl := Nat.eq_of_beq_eq_true hl
      subst hl
      obtain ⟨vs, nm', h, hl, he, hv⟩ := iff_cellsAt h
      obtain ⟨c, h, hc⟩ := iff_cel4 h
      refine ⟨c, nm', cap, h, ?_, hv _ rfl fun j hj => by rw [denL_getD hc, Cts.l_get]; rfl⟩
      simp only [den] at he
      injection he with he
      injection he with he
      injection he with he1 he2 _
      simp [den, he1, he2]
    · exact h.elim
  · exact h.elim

/-- A list of numbers: a whole one, or cells of an array. -/
def li (x : SV) (hp : List HB) (K : List Int → Prop) : Prop :=
  match x with
  | .nilsl => K []
  | .sub i nm k s d len _ => cellsAt (.ptr i nm k s d) hp len fun vs => intL vs K
  | x => slW x hp 1 fun c => match c with | .ix xs => K xs | _ => False
theorem ints_flat : ∀ (xs : List Int), (Cts.ix xs).flat = xs.flatMap fun n => [SV.int .i64 n] := fun xs => range_flatMap (fun n => [SV.int .i64 n]) 0 xs
theorem iff_li {x : SV} {hp : List HB} {K : List Int → Prop} (h : li x hp K) : ∃ (xs : List Int) (a : Option Nm) (cap : Nat), K xs ∧ SlOk hp x (.ix xs) a cap := by
  unfold li at h
  split at h
  · exact ⟨[], none, 0, h, sl_nil _ _ rfl⟩
  · rename_i i nm k s d len cap
    obtain ⟨vs, nm', h, hl, he, hv⟩ := iff_cellsAt h
    obtain ⟨xs, h, hx⟩ := intL_iff h
    rw [← ints_flat] at hx
    have hn : (Cts.ix xs).n = len := by rw [← Cts.flat_len, ← denL_len, ← hx, denL_len, hl]
    have hlen : xs.length = len := by simpa [Cts.n, Cts.len, Cts.s] using hn
    refine ⟨xs, some nm', cap, h, ?_, fun _ => rfl, hv _ hn fun j hj => ?_⟩
    · simp only [den] at he
      injection he with he
      injection he with he
      injection he with he1 he2 _
      simp [den, Cts.len, Cts.s, hlen, he1, he2]
    · rw [denL_getD hx]
      have := (Cts.ix xs).flat_get (o := j) (by omega)
      rw [List.getD_eq_getElem?_getD, this]; rfl
  · obtain ⟨c, a, cap, h, _, hs⟩ := iff_slW h
    split at h
    · exact ⟨_, a, cap, h, hs⟩
    · exact h.elim

def g1 (x : SV) (hp : List HB) (K : Grd → Prop) : Prop :=
  match x with
  | .agg [w, h, s] => i1 w fun w => i1 h fun h => lc s hp fun cs => K ⟨w, h, cs⟩
  | _ => False
theorem iff_g1 {x : SV} {hp : List HB} {K : Grd → Prop} (h : g1 x hp K) : ∃ (g : Grd) (a : Option Nm) (cap : Nat), K g ∧ den (.agg [.int .i64 g.w, .int .i64 g.h, .sl 0 a 0 4 g.cs.length cap]) = den x ∧ (0 < g.cs.length → a.isSome = true) ∧ ViewOk hp ⟨a, false, .ro, .cx g.cs⟩ := by
  unfold g1 at h
  split at h
  · obtain ⟨w, h, e1⟩ := iff_i1 h
    obtain ⟨hh, h, e2⟩ := iff_i1 h
    obtain ⟨cs, a, cap, h, hs⟩ := iff_lc h
    refine ⟨_, a, cap, h, ?_, hs.pos, hs.ok⟩
    have := hs.eq
    simp only [Cts.s, Cts.len] at this
    simp only [den, denL, e1, e2, ← this]
  · exact h.elim

/-! ### What a function hands back that lies in a new block -/
theorem hsel_one : ∀ {hq : List HB} {i : Nat} {b : HB}, hq[i]? = some b → allMine hq → hsel [b] hq
  | [], i, b, h, _ => by simp at h
  | c :: hq, 0, b, h, hm => by
    simp at h; subst h
    exact .take (.refl c) (.inr fun _ h => h) (hsel.left [] (hq := hq) fun d hd => ⟨by
      by_cases hc : ∃ g, d.cl g
      · exact .inl ((allMine_mem hm.2 d hd).2 hc)
      · exact .inr fun g hg => hc ⟨g, hg⟩, (allMine_mem hm.2 d hd).1⟩)
  | c :: hq, i + 1, b, h, hm => by
    simp at h
    refine .skip ⟨?_, hm.1.1⟩ (hsel_one h hm.2)
    by_cases hc : ∃ g, c.cl g
    · exact .inl ((allMine_mem (hp := c :: hq) hm c (by simp)).2 hc)
    · exact .inr fun g hg => hc ⟨g, hg⟩
end Go.Sy

/- Small goals that walks leave. -/
set_option linter.unusedSimpArgs false
set_option linter.unusedVariables false
namespace Go.Sy
theorem res_ff {b : Bool} (h : b = false) : den (ofConst (.bool false)) = den (.bool (.atom b)) := by subst h; simp [den, den_ofConst, BF.b]
theorem res_tt {b : Bool} (h : b = true) : den (ofConst (.bool true)) = den (.bool (.atom b)) := by subst h; simp [den, den_ofConst, BF.b]
theorem res_b {f : BF} {b : Bool} (h : f.b = b) : den (.bool f) = den (.bool (.atom b)) := by subst h; rfl
theorem opt_getD {a : Option Nm} (h : a.isSome = true) (d : Nm) : a = some (a.getD d) := by cases a with
  | none => cases h
  | some x => rfl
theorem isSome_of {a : Option Nm} (h : a.isNone = false) : a.isSome = true := by cases a with
  | none => cases h
  | some x => rfl
theorem nil_of {α : Type} {l : List α} {a : Option Nm} (h : 0 < l.length → a.isSome = true) (hn : a.isNone = true) : l = [] := by
  cases l with
  | nil => rfl
  | cons x xs => have := h (by simp); cases a with
    | none => cases this
    | some y => cases hn
theorem mul_bd {a b : Int} (h1 : 1 ≤ a) (h2 : a ≤ 64) (h3 : 1 ≤ b) (h4 : b ≤ 64) : 1 ≤ a * b ∧ a * b ≤ 4096 := by
  have h5 : a * 1 ≤ a * b := Int.mul_le_mul_of_nonneg_left h3 (by omega)
  have h6 : a * b ≤ a * 64 := Int.mul_le_mul_of_nonneg_left h4 (by omega)
  omega
theorem int_eq {a b : Int} (h : a = b) : den (.int .i64 a) = den (.int .i64 b) := by rw [h]
theorem lit_eq {a b : Int} (h : a = b) : den (.lit a) = den (.int .i64 b) := by rw [h]; rfl
theorem cst_eq {a b : Int} (h : a = b) : den (ofConst (.int .i64 a)) = den (.int .i64 b) := by rw [den_ofConst, h]; rfl
theorem fsub_goal {fr F : List (Nat × SV)} (h : fsub fr F) : fsub fr F := h
theorem beq_goal {a b : Nat} (h : a.beq b = true) : a.beq b = true := h
theorem ble2_goal {a b : Nat} (h : a.ble b = true) : a.ble b = true := h
theorem takes_goal {T : List Nat} {p : Plan} (h : p.takes T = true) : p.takes T = true := h
theorem drop_goal {full : List Oper} {T ls is : List Nat} (h : dropOk full T ls is = true) : dropOk full T ls is = true := h
theorem held_goal {hp : List HB} {H : List (Nat × Option (Nat × HB))} (h : heldC hp H) : heldC hp H := h
theorem splitN_zero {ix : Int} {j : Nat} {K : Nat → Prop} : splitN ix 0 j K := trivial
theorem cx_eq {a b : List Cel} (h : a = b) : Cts.cx a = Cts.cx b := by rw [h]
theorem ix_eq {a b : List Int} (h : a = b) : Cts.ix a = Cts.ix b := by rw [h]
theorem band_goal {a b : Bool} (h : a = true) (h2 : b = true) : (a && b) = true := by subst h; subst h2; rfl
end Go.Sy

/- More arguments: two cells in one. -/
set_option linter.unusedSimpArgs false
set_option linter.unusedVariables false
namespace Go.Sy
/-- Two cells. -/
structure Prr where
  a : Cel
  b : Cel
  deriving DecidableEq
theorem Prr.eta (p : Prr) : (⟨p.a, p.b⟩ : Prr) = p := rfl
def d1 (x : SV) (K : Prr → Prop) : Prop :=
  match x with
  | .agg [a, b, c, d, e, f, g, h] => i1 a fun a => i1 b fun b => i1 c fun c => i1 d fun d => i1 e fun e => i1 f fun f => i1 g fun g => i1 h fun h => K ⟨⟨a, b, c, d⟩, ⟨e, f, g, h⟩⟩
  | _ => False
/-- A function's value without captured variables. -/
def f1 (x : SV) (K : Nat → Prop) : Prop :=
  match x with
  | .fn n [] [] => K n
  | _ => False
theorem iff_f1 {x : SV} {K : Nat → Prop} (h : f1 x K) : ∃ n : Nat, K n ∧ den x = den (.fn n [] []) := by
  unfold f1 at h
  split at h
  · exact ⟨_, h, rfl⟩
  · exact h.elim
/-- Two grids on one. -/
def m1 (x : SV) (hp : List HB) (K : Mix → Prop) : Prop :=
  match x with
  | .agg [w, h, a, b] => i1 w fun w => i1 h fun h => lc a hp fun a => lc b hp fun b => K ⟨w, h, a, b⟩
  | _ => False
/-- Three whole numbers in one. -/
structure Tri where
  x : Int
  y : Int
  z : Int
  deriving DecidableEq
theorem Tri.eta (p : Tri) : (⟨p.x, p.y, p.z⟩ : Tri) = p := rfl
/-- A pointer to a function's value. -/
def pf (x : SV) (hp : List HB) (K : Nat → Prop) : Prop := cellsAt x hp 1 fun vs => match vs with
  | [v] => f1 v K
  | _ => False
theorem iff_pf {x : SV} {hp : List HB} {K : Nat → Prop} (h : pf x hp K) : ∃ (f : Nat) (nm : Nm), K f ∧ den (.ptr 0 nm 0 0 0) = den x ∧ ViewOk hp ⟨some nm, false, .ro, .l [.fn f [] []]⟩ := by
  obtain ⟨vs, nm, h, hl, he, hv⟩ := iff_cellsAt h
  split at h
  · obtain ⟨c, h, hc⟩ := iff_f1 h
    refine ⟨c, nm, h, by rw [he]; simp [den], hv _ rfl fun j hj => ?_⟩
    rename_i v _
    have hd : denL [v] = denL [.fn c [] []] := by simp only [denL, hc]
    rw [denL_getD hd, Cts.l_get]
  · exact h.elim
/-- .. whose room is not told. -/
theorem ret_slF {hp hq : List HB} {K : SV → List HB → Prop} {wrap : SV → SV} {n : Nat} {ty : TypeId} {c : Cts} (hK : ∀ (a : Option Nm) (cap bc : Nat), (0 < c.len → a.isSome = true) → (c.len ≤ cap ∧ cap ≤ 9223372036854775807) → K (wrap (.sl n a 0 c.s c.len cap)) (hp ++ [⟨a, true, .wr ty bc, c⟩]))
    {v : SV} {c' : Cts} (i : Nat) {a : Option Nm} {cap bc : Nat} (hi : hq[i]? = some ⟨a, true, .wr ty bc, c'⟩) (hc : c' = c) (hv : den (wrap (.sl n a 0 c.s c.len cap)) = den v) (hm : allMine hq) (hpos : 0 < c.len → a.isSome = true) (hcap : c.len ≤ cap ∧ cap ≤ 9223372036854775807) :
    ∃ v' news, den v' = den v ∧ hsel news hq ∧ allFresh news = true ∧ K v' (hp ++ news) := by
  subst hc
  exact ⟨_, _, hv, hsel_one hi hm, rfl, hK a cap bc hpos hcap⟩
theorem ret_slG {hp hq : List HB} {K : SV → List HB → Prop} {wrap : SV → SV} {n : Nat} {ty : TypeId} {c : Cts} (hK : ∀ (a : Option Nm) (cap bc : Nat), (0 < c.len → a.isSome = true) → (c.len ≤ cap ∧ cap ≤ 9223372036854775807) → K (wrap (.sl n a 0 c.s c.len cap)) (hp ++ [⟨a, true, .wr ty bc, c⟩]))
    {v : SV} (i : Nat) (h : ∃ (a : Option Nm) (cap bc : Nat) (c' : Cts), hq[i]? = some ⟨a, true, .wr ty bc, c'⟩ ∧ den (wrap (.sl n a 0 c.s c.len cap)) = den v ∧ c' = c ∧ allMine hq ∧ (0 < c.len → a.isSome = true) ∧ (c.len ≤ cap ∧ cap ≤ 9223372036854775807)) :
    ∃ v' news, den v' = den v ∧ hsel news hq ∧ allFresh news = true ∧ K v' (hp ++ news) := by
  obtain ⟨a, cap, bc, c', h1, h2, h3, h4, h5, h6⟩ := h
  exact ret_slF hK i h1 h3 h2 h4 h5 h6
/-- An empty one: it lies nowhere. -/
theorem ret_slN {hp hq : List HB} {K : SV → List HB → Prop} {wrap : SV → SV} {n : Nat} {ty : TypeId} {c : Cts} (hK : ∀ (a : Option Nm) (cap bc : Nat), (0 < c.len → a.isSome = true) → (c.len ≤ cap ∧ cap ≤ 9223372036854775807) → K (wrap (.sl n a 0 c.s c.len cap)) (hp ++ [⟨a, true, .wr ty bc, c⟩]))
    {v : SV} (i : Nat) {c' : Cts} (hl : c.len = 0) (hi : hq[i]? = some ⟨none, true, .wr ty 0, c'⟩) (hc : c' = c) (hv : den (wrap (.sl n none 0 c.s c.len 0)) = den v) (hm : allMine hq) :
    ∃ v' news, den v' = den v ∧ hsel news hq ∧ allFresh news = true ∧ K v' (hp ++ news) :=
  ret_slF hK i hi hc hv hm (fun h => by omega) ⟨by omega, by omega⟩
theorem den_tag {w h e e' : SV} {n j : Nat} {a : Option Nm} {s len len' cap : Nat} (hl : len = len') (he : den e = den e') : den (.tup [.agg [w, h, .sl n a 0 s len cap], e]) = den (.tup [.agg [w, h, .sl j a 0 s len' cap], e']) := by
  subst hl; simp [den, denL, he]
end Go.Sy
