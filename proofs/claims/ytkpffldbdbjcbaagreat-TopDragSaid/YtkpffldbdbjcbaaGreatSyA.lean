/- Symbolic values, contents of blocks, what a world holds: plain definitions and theorems, no program in sight. -/
import Derived.WalkKit
import Derived.StillTail
import Derived.Deep.Quiet
import Derived.Laws.StructEq
import Derived.RangeFuncNested
set_option linter.unusedSimpArgs false
set_option linter.unusedVariables false
namespace Go.Sy
open Go.RowKit

/-- Formulas over whole numbers, as a test has them. -/
inductive BF where
  | tt | ff
  | atom (b : Bool)
  | lt (a b : Int)
  | le (a b : Int)
  | eq (a b : Int)
  | not (f : BF)
  | and (f g : BF)
  | or (f g : BF)

def BF.b : BF → Bool
  | .tt => true
  | .ff => false
  | .atom b => b
  | .lt x y => decide (x < y)
  | .le x y => decide (x ≤ y)
  | .eq x y => decide (x = y)
  | .not f => !f.b
  | .and f g => f.b && g.b
  | .or f g => f.b || g.b

/-- What it says that the formula comes to 'p'. -/
def BF.H : BF → Bool → Prop
  | .tt, true => True
  | .tt, false => False
  | .ff, true => False
  | .ff, false => True
  | .atom b, p => b = p
  | .lt x y, true => x < y
  | .lt x y, false => y ≤ x
  | .le x y, true => x ≤ y
  | .le x y, false => y < x
  | .eq x y, true => x = y
  | .eq x y, false => x ≠ y
  | .not f, true => f.H false
  | .not f, false => f.H true
  | .and f g, true => f.H true ∧ g.H true
  | .and f g, false => f.H false ∨ g.H false
  | .or f g, true => f.H true ∨ g.H true
  | .or f g, false => f.H false ∧ g.H false

theorem BF.H_iff : ∀ (f : BF) (p : Bool), f.H p ↔ f.b = p
  | .tt, true | .tt, false | .ff, true | .ff, false => by simp [BF.H, BF.b]
  | .atom b, p => by simp [BF.H, BF.b]
  | .lt x y, true | .lt x y, false | .le x y, true | .le x y, false | .eq x y, true | .eq x y, false => by simp [BF.H, BF.b]
  | .not f, true => by simp [BF.H, BF.b, BF.H_iff f]
  | .not f, false => by simp [BF.H, BF.b, BF.H_iff f]
  | .and f g, true => by simp [BF.H, BF.b, BF.H_iff f, BF.H_iff g]
  | .and f g, false => by simp only [BF.H, BF.b, BF.H_iff f, BF.H_iff g, Bool.and_eq_false_iff]
  | .or f g, true => by simp [BF.H, BF.b, BF.H_iff f, BF.H_iff g]
  | .or f g, false => by simp [BF.H, BF.b, BF.H_iff f, BF.H_iff g]

/-- A block's name: its number, and where in it we count from. -/
structure Nm where
  g : Nat
  b : Nat

/-- Symbolic values. A pointer: into the block that stands i-th, at its k-th part of s cells, d cells on. 'sub': a slice of single cells within such a part. -/
inductive SV where
  | und
  | bool (f : BF)
  | int (k : IntKind) (n : Int)
  | lit (n : Int)
  | str (s : ByteArray)
  | ptr (i : Nat) (nm : Nm) (k s d : Nat)
  | sl (i : Nat) (a : Option Nm) (k s len cap : Nat)
  | sub (i : Nat) (nm : Nm) (k s d len cap : Nat)
  | nilsl
  | map (i : Nat) (g : Nat)
  | agg (xs : List SV)
  | tup (xs : List SV)
  | fn (f : FuncId) (first cap : List SV)
  | yld (l : Nat)
  | val (v : Value)

mutual
def den : SV → Value
  | .und => undef
  | .bool f => .bool f.b
  | .int k n => .int k n
  | .lit n => .int .i64 n
  | .str s => .string s
  | .ptr _ nm k s d => .pointer (some ⟨nm.g, nm.b + (k * s + d), none⟩)
  | .sl _ a k s len cap => .slice (a.map fun nm => ⟨nm.g, nm.b + k * s, none⟩) len cap
  | .sub _ nm k s d len cap => .slice (some ⟨nm.g, nm.b + (k * s + d), none⟩) len cap
  | .nilsl => .slice none 0 0
  | .map _ g => .map (some g)
  | .agg xs => .agg (denL xs).toArray
  | .tup xs => .tuple (denL xs).toArray
  | .fn f a b => .func (.func f) (denL a).toArray (denL b).toArray
  | .yld l => .func (.yield l) #[] #[]
  | .val v => v
def denL : List SV → List Value
  | [] => []
  | x :: xs => den x :: denL xs
end

theorem denL_map : ∀ xs : List SV, denL xs = xs.map den
  | [] => rfl
  | x :: xs => by simp [denL, denL_map xs]
theorem denL_len (xs : List SV) : (denL xs).length = xs.length := by simp [denL_map]
theorem denL_get {xs : List SV} {d : Nat} (h : d < xs.length) : (denL xs)[d]? = some (den (xs.getD d .und)) := by
  simp [denL_map, h]
theorem denL_getD {xs ys : List SV} (h : denL xs = denL ys) (d : Nat) : den (xs.getD d .und) = den (ys.getD d .und) := by
  have hl : xs.length = ys.length := by rw [← denL_len, ← denL_len, h]
  by_cases hd : d < xs.length
  · have e := denL_get hd
    rw [h, denL_get (by omega)] at e
    exact (Option.some.inj e).symm
  · simp [List.getD_eq_getElem?_getD, List.getElem?_eq_none (show xs.length ≤ d by omega), List.getElem?_eq_none (show ys.length ≤ d by omega)]

/-- A value from 1 cell. -/
def SV.one : SV → Bool
  | .agg _ | .tup _ | .und => false
  | .val (.agg _) | .val (.tuple _) => false
  | _ => true

theorem SV.one_cells {v : SV} (h : v.one = true) : (den v).cells = #[den v] := by
  cases v with
  | val v => cases v <;> first | (simp [SV.one] at h; done) | simp [den, Value.cells]
  | _ => first | (simp [SV.one] at h; done) | simp [den, Value.cells]
theorem SV.one_cell {v : SV} (h : v.one = true) : (den v).oneCell' = true := by
  cases v with
  | val v => cases v <;> first | (simp [SV.one] at h; done) | simp [den, Value.oneCell']
  | _ => first | (simp [SV.one] at h; done) | simp [den, Value.oneCell']

/-! ### Rows of numbers that the program moves -/
structure Cel where
  e : Int
  n : Int
  w : Int
  s : Int
  deriving DecidableEq
structure Rul where
  k : Int
  b : Int
  deriving DecidableEq
structure Rat2 where
  n : Int
  d : Int
  deriving DecidableEq
structure Pnt where
  x : Int
  y : Int
  deriving DecidableEq
structure Gau where
  f : Int
  t : Int
  bl : Int
  bh : Int
  il : Int
  ih : Int
  ol : Int
  oh : Int
  al : Int
  ah : Int
  deriving DecidableEq
theorem Cel.eta (c : Cel) : (⟨c.e, c.n, c.w, c.s⟩ : Cel) = c := rfl
theorem Rul.eta (r : Rul) : (⟨r.k, r.b⟩ : Rul) = r := rfl
theorem Rat2.eta (r : Rat2) : (⟨r.n, r.d⟩ : Rat2) = r := rfl
theorem Pnt.eta (r : Pnt) : (⟨r.x, r.y⟩ : Pnt) = r := rfl
theorem Gau.eta (r : Gau) : (⟨r.f, r.t, r.bl, r.bh, r.il, r.ih, r.ol, r.oh, r.al, r.ah⟩ : Gau) = r := rfl
instance : Inhabited Cel := ⟨⟨0, 0, 0, 0⟩⟩
instance : Inhabited Rul := ⟨⟨0, 0⟩⟩
instance : Inhabited Rat2 := ⟨⟨0, 0⟩⟩
instance : Inhabited Pnt := ⟨⟨0, 0⟩⟩
instance : Inhabited Gau := ⟨⟨0, 0, 0, 0, 0, 0, 0, 0, 0, 0⟩⟩
def Cel.svs (c : Cel) : List SV := [.int .i64 c.e, .int .i64 c.n, .int .i64 c.w, .int .i64 c.s]
def Rul.svs (r : Rul) : List SV := [.int .i64 r.k, .int .i64 r.b]
def Rat2.svs (r : Rat2) : List SV := [.int .i64 r.n, .int .i64 r.d]
def Pnt.svs (r : Pnt) : List SV := [.int .i64 r.x, .int .i64 r.y]
def Gau.svs (r : Gau) : List SV := [.int .i64 r.f, .int .i64 r.t, .int .i64 r.bl, .int .i64 r.bh, .int .i64 r.il, .int .i64 r.ih, .int .i64 r.ol, .int .i64 r.oh, .int .i64 r.al, .int .i64 r.ah]
def Cel.sv (c : Cel) : SV := .agg [.int .i64 c.e, .int .i64 c.n, .int .i64 c.w, .int .i64 c.s]
def Rul.sv (r : Rul) : SV := .agg [.int .i64 r.k, .int .i64 r.b]
def Rat2.sv (r : Rat2) : SV := .agg r.svs
def Pnt.sv (r : Pnt) : SV := .agg r.svs
def Gau.sv (r : Gau) : SV := .agg r.svs

/-! ### Numbers out of symbolic values -/
def SV.num : SV → Option (IntKind × Int)
  | .int k n => some (k, n)
  | .lit n => some (.i64, n)
  | _ => none
theorem SV.num_den {v : SV} {k : IntKind} {n : Int} (h : v.num = some (k, n)) : den v = .int k n := by
  cases v <;> simp [SV.num] at h
  · obtain ⟨rfl, rfl⟩ := h; rfl
  · obtain ⟨rfl, rfl⟩ := h; rfl
def i1 (x : SV) (K : Int → Prop) : Prop :=
  match x.num with
  | some (.i64, n) => K n
  | _ => False
theorem iff_i1 {x : SV} {K : Int → Prop} (h : i1 x K) : ∃ n, K n ∧ den x = .int .i64 n := by
  unfold i1 at h
  split at h
  · rename_i n hx; exact ⟨n, h, SV.num_den hx⟩
  · exact h.elim
def b1 (x : SV) (K : Bool → Prop) : Prop :=
  match x with
  | .bool f => K f.b
  | _ => False
theorem iff_b1 {x : SV} {K : Bool → Prop} (h : b1 x K) : ∃ b, K b ∧ den x = .bool b := by
  unfold b1 at h
  split at h
  · exact ⟨_, h, rfl⟩
  · exact h.elim
def s1 (x : SV) (K : ByteArray → Prop) : Prop :=
  match x with
  | .str s => K s
  | _ => False
theorem iff_s1 {x : SV} {K : ByteArray → Prop} (h : s1 x K) : ∃ s, K s ∧ den x = .string s := by
  unfold s1 at h
  split at h
  · exact ⟨_, h, rfl⟩
  · exact h.elim
def cel4 (vs : List SV) (K : Cel → Prop) : Prop :=
  match vs with
  | [a, b, c, d] => i1 a fun a => i1 b fun b => i1 c fun c => i1 d fun d => K ⟨a, b, c, d⟩
  | _ => False
theorem iff_cel4 {vs : List SV} {K : Cel → Prop} (h : cel4 vs K) : ∃ c : Cel, K c ∧ denL vs = denL c.svs := by
  unfold cel4 at h
  split at h
  · obtain ⟨a, h, ha⟩ := iff_i1 h
    obtain ⟨b, h, hb⟩ := iff_i1 h
    obtain ⟨c, h, hc⟩ := iff_i1 h
    obtain ⟨d, h, hd⟩ := iff_i1 h
    exact ⟨_, h, by simp [den, denL, ha, hb, hc, hd, Cel.svs]⟩
  · exact h.elim
def rul2 (vs : List SV) (K : Rul → Prop) : Prop :=
  match vs with
  | [a, b] => i1 a fun a => i1 b fun b => K ⟨a, b⟩
  | _ => False
theorem iff_rul2 {vs : List SV} {K : Rul → Prop} (h : rul2 vs K) : ∃ c : Rul, K c ∧ denL vs = denL c.svs := by
  unfold rul2 at h
  split at h
  · obtain ⟨a, h, ha⟩ := iff_i1 h
    obtain ⟨b, h, hb⟩ := iff_i1 h
    exact ⟨_, h, by simp [den, denL, ha, hb, Rul.svs]⟩
  · exact h.elim
def rat2 (vs : List SV) (K : Rat2 → Prop) : Prop :=
  match vs with
  | [a, b] => i1 a fun a => i1 b fun b => K ⟨a, b⟩
  | _ => False
theorem iff_rat2 {vs : List SV} {K : Rat2 → Prop} (h : rat2 vs K) : ∃ c : Rat2, K c ∧ denL vs = denL c.svs := by
  unfold rat2 at h
  split at h
  · obtain ⟨a, h, ha⟩ := iff_i1 h
    obtain ⟨b, h, hb⟩ := iff_i1 h
    exact ⟨_, h, by simp [den, denL, ha, hb, Rat2.svs]⟩
  · exact h.elim
def pnt2 (vs : List SV) (K : Pnt → Prop) : Prop :=
  match vs with
  | [a, b] => i1 a fun a => i1 b fun b => K ⟨a, b⟩
  | _ => False
theorem iff_pnt2 {vs : List SV} {K : Pnt → Prop} (h : pnt2 vs K) : ∃ c : Pnt, K c ∧ denL vs = denL c.svs := by
  unfold pnt2 at h
  split at h
  · obtain ⟨a, h, ha⟩ := iff_i1 h
    obtain ⟨b, h, hb⟩ := iff_i1 h
    exact ⟨_, h, by simp [den, denL, ha, hb, Pnt.svs]⟩
  · exact h.elim
def gau10 (vs : List SV) (K : Gau → Prop) : Prop :=
  match vs with
  | [a, b, c, d, e, f, g, h, i, j] => i1 a fun a => i1 b fun b => i1 c fun c => i1 d fun d => i1 e fun e => i1 f fun f => i1 g fun g => i1 h fun h => i1 i fun i => i1 j fun j => K ⟨a, b, c, d, e, f, g, h, i, j⟩
  | _ => False
theorem iff_gau10 {vs : List SV} {K : Gau → Prop} (h : gau10 vs K) : ∃ c : Gau, K c ∧ denL vs = denL c.svs := by
  unfold gau10 at h
  split at h
  · obtain ⟨a, h, h1⟩ := iff_i1 h
    obtain ⟨b, h, h2⟩ := iff_i1 h
    obtain ⟨c, h, h3⟩ := iff_i1 h
    obtain ⟨d, h, h4⟩ := iff_i1 h
    obtain ⟨e, h, h5⟩ := iff_i1 h
    obtain ⟨f, h, h6⟩ := iff_i1 h
    obtain ⟨g, h, h7⟩ := iff_i1 h
    obtain ⟨k, h, h8⟩ := iff_i1 h
    obtain ⟨l, h, h9⟩ := iff_i1 h
    obtain ⟨m, h, h0⟩ := iff_i1 h
    exact ⟨_, h, by simp [den, denL, h1, h2, h3, h4, h5, h6, h7, h8, h9, h0, Gau.svs]⟩
  · exact h.elim

/-- A byte. -/
def u81 (x : SV) (K : Int → Prop) : Prop :=
  match x with
  | .int .u8 n => K n
  | _ => False
theorem iff_u81 {x : SV} {K : Int → Prop} (h : u81 x K) : ∃ n, K n ∧ den x = .int .u8 n := by
  unfold u81 at h
  split at h
  · exact ⟨_, h, rfl⟩
  · exact h.elim
/-! ### What a block holds -/
/-- The head of a row of numbers: where it lies, how long it is, how much room it has. -/
structure Hd where
  nm : Option Nm
  len : Nat
  cap : Nat
instance : Inhabited Hd := ⟨⟨none, 0, 0⟩⟩
def Hd.sv (ib : Nat) (h : Hd) : SV := .sl ib h.nm 0 1 h.len h.cap
inductive Cts where
  | l (xs : List SV)
  | ix (xs : List Int)
  | cx (xs : List Cel)
  | rx (xs : List Rul)
  | gx (xs : List Gau)
  | qx (xs : List Rat2)
  | px (xs : List Pnt)
  | bx (xs : List Bool)
  | sx (xs : List ByteArray)
  | yx (xs : List Int)
  | vx (s : Nat) (xs : List (List SV))
  | kx (ib : Nat) (xs : List Hd)

/-- How many cells a part has. -/
def Cts.s : Cts → Nat
  | .l _ | .ix _ | .bx _ | .sx _ | .yx _ | .kx _ _ => 1
  | .cx _ => 4
  | .rx _ | .qx _ | .px _ => 2
  | .gx _ => 10
  | .vx s _ => s
def Cts.len : Cts → Nat
  | .l xs => xs.length
  | .ix xs => xs.length
  | .cx xs => xs.length
  | .rx xs => xs.length
  | .gx xs => xs.length
  | .qx xs => xs.length
  | .px xs => xs.length
  | .bx xs => xs.length
  | .sx xs => xs.length
  | .yx xs => xs.length
  | .vx _ xs => xs.length
  | .kx _ xs => xs.length
/-- The k-th part. -/
def Cts.row : Cts → Nat → List SV
  | .l xs, k => [xs.getD k .und]
  | .ix xs, k => [.int .i64 (xs.getD k 0)]
  | .cx xs, k => (xs.getD k default).svs
  | .rx xs, k => (xs.getD k default).svs
  | .gx xs, k => (xs.getD k default).svs
  | .qx xs, k => (xs.getD k default).svs
  | .px xs, k => (xs.getD k default).svs
  | .bx xs, k => [.bool (.atom (xs.getD k false))]
  | .sx xs, k => [.str (xs.getD k ⟨#[]⟩)]
  | .yx xs, k => [.int .u8 (xs.getD k 0)]
  | .vx s xs, k => (List.range s).map fun d => (xs.getD k []).getD d .und
  | .kx ib xs, k => [.sl ib (xs.getD k default).nm 0 1 (xs.getD k default).len (xs.getD k default).cap]
def Cts.n (c : Cts) : Nat := c.len * c.s
def Cts.get (c : Cts) (o : Nat) : SV := (c.row (o / c.s)).getD (o % c.s) .und
theorem Cts.row_len (c : Cts) (k : Nat) : (c.row k).length = c.s := by
  cases c <;> simp [Cts.row, Cts.s, Cel.svs, Rul.svs, Gau.svs, Rat2.svs, Pnt.svs]
theorem Cts.get_at (c : Cts) {k d : Nat} (hd : d < c.s) : c.get (k * c.s + d) = (c.row k).getD d .und := by
  have h0 : 0 < c.s := by omega
  unfold Cts.get
  rw [Nat.add_comm, Nat.mul_comm, Nat.add_mul_div_left _ _ h0, Nat.add_mul_mod_self_left, Nat.div_eq_of_lt hd, Nat.mod_eq_of_lt hd, Nat.zero_add]
theorem Cts.at_lt (c : Cts) {k d : Nat} (hk : k < c.len) (hd : d < c.s) : k * c.s + d < c.n := by
  have : (k + 1) * c.s ≤ c.len * c.s := Nat.mul_le_mul_right _ hk
  rw [Nat.add_mul] at this
  unfold Cts.n; omega
theorem Cts.n_at (c : Cts) {o : Nat} (ho : o < c.n) : 0 < c.s ∧ o / c.s < c.len ∧ o % c.s < c.s ∧ o = (o / c.s) * c.s + o % c.s := by
  unfold Cts.n at ho
  have h0 : 0 < c.s := by
    rcases Nat.eq_zero_or_pos c.s with h | h
    · rw [h] at ho; simp at ho
    · exact h
  exact ⟨h0, by rw [Nat.div_lt_iff_lt_mul h0]; exact ho, Nat.mod_lt _ h0, by rw [Nat.mul_comm]; exact (Nat.div_add_mod o c.s).symm⟩
theorem Cts.l_n (xs : List SV) : (Cts.l xs).n = xs.length := by simp [Cts.n, Cts.len, Cts.s]
theorem Cts.l_get (xs : List SV) (o : Nat) : (Cts.l xs).get o = xs.getD o .und := by simp [Cts.get, Cts.s, Cts.row, Nat.mod_one]

/-- A row of cells is written anew from 'o' on. -/
def setL : List SV → Nat → List SV → List SV
  | xs, _, [] => xs
  | xs, o, v :: vs => setL (xs.set o v) (o + 1) vs
theorem setL_length : ∀ (vs xs : List SV) (o : Nat), (setL xs o vs).length = xs.length
  | [], _, _ => rfl
  | v :: vs, xs, o => by simp [setL, setL_length vs]
theorem setL_getD : ∀ (vs xs : List SV) (o j : Nat), j < xs.length → (setL xs o vs).getD j .und = if o ≤ j ∧ j < o + vs.length then vs.getD (j - o) .und else xs.getD j .und
  | [], xs, o, j, hj => by simp [setL]; intro h1 h2; omega
  | v :: vs, xs, o, j, hj => by
    rw [setL, setL_getD vs (xs.set o v) (o + 1) j (by simpa using hj)]
    simp only [List.length_cons]
    by_cases h1 : o = j
    · subst h1
      rw [if_neg (by omega), if_pos (by omega)]
      simp [hj]
    · by_cases h2 : o + 1 ≤ j ∧ j < o + 1 + vs.length
      · rw [if_pos h2, if_pos (by omega)]
        rw [show j - o = (j - (o + 1)) + 1 by omega]
        simp
      · rw [if_neg h2, if_neg (by omega)]
        simp [List.getD_eq_getElem?_getD, h1]

/-- Lists written anew, with what comes of it brought to light. -/
def setSK : List SV → Nat → SV → (List SV → Prop) → Prop
  | [], _, _, K => K []
  | _ :: xs, 0, v, K => K (v :: xs)
  | x :: xs, n + 1, v, K => setSK xs n v fun ys => K (x :: ys)
theorem setSK_eq : ∀ (xs : List SV) (i : Nat) (b : SV) (K : List SV → Prop), setSK xs i b K = K (xs.set i b)
  | [], _, _, _ => rfl
  | _ :: _, 0, _, _ => rfl
  | x :: xs, n + 1, b, K => by rw [setSK, setSK_eq xs n]; rfl
def setLK : List SV → Nat → List SV → (List SV → Prop) → Prop
  | xs, _, [], K => K xs
  | xs, o, v :: vs, K => setSK xs o v fun ys => setLK ys (o + 1) vs K
theorem setLK_eq : ∀ (vs xs : List SV) (o : Nat) (K : List SV → Prop), setLK xs o vs K = K (setL xs o vs)
  | [], _, _, _ => rfl
  | v :: vs, xs, o, K => by rw [setLK, setSK_eq, setLK_eq vs]; rfl

/-- The k-th part becomes these. -/
def Cts.put (c : Cts) (k : Nat) (vs : List SV) (K : Cts → Prop) : Prop :=
  match c with
  | .l xs => match vs with
    | [v] => setSK xs k v fun ys => K (.l ys)
    | _ => False
  | .ix xs => match vs with
    | [v] => i1 v fun n => K (.ix (xs.set k n))
    | _ => False
  | .cx xs => cel4 vs fun x => K (.cx (xs.set k x))
  | .rx xs => rul2 vs fun x => K (.rx (xs.set k x))
  | .gx xs => gau10 vs fun x => K (.gx (xs.set k x))
  | .qx xs => rat2 vs fun x => K (.qx (xs.set k x))
  | .px xs => pnt2 vs fun x => K (.px (xs.set k x))
  | .bx xs => match vs with
    | [v] => b1 v fun n => K (.bx (xs.set k n))
    | _ => False
  | .sx xs => match vs with
    | [v] => s1 v fun n => K (.sx (xs.set k n))
    | _ => False
  | .yx xs => match vs with
    | [v] => u81 v fun n => K (.yx (xs.set k n))
    | _ => False
  | .vx s xs => Nat.beq vs.length s = true ∧ K (.vx s (xs.set k vs))
  | .kx ib xs => match vs with
    | [.sl _ nm o s n cap] => (o = 0 ∧ s = 1) ∧ K (.kx ib (xs.set k ⟨nm, n, cap⟩))
    | [.nilsl] => K (.kx ib (xs.set k ⟨none, 0, 0⟩))
    | _ => False
structure Cts.Put (c : Cts) (k : Nat) (vs : List SV) (c' : Cts) : Prop where
  s : c'.s = c.s
  len : c'.len = c.len
  row : k < c.len → denL (c'.row k) = denL vs
  other : ∀ j, j ≠ k → c'.row j = c.row j
theorem getD_set_same {α : Type} (xs : List α) {k : Nat} (x y : α) (h : k < xs.length) : (xs.set k x).getD k y = x := by simp [h]
theorem getD_set_other {α : Type} (xs : List α) {k j : Nat} (x y : α) (h : j ≠ k) : (xs.set k x).getD j y = xs.getD j y := by
  simp [List.getD_eq_getElem?_getD, List.getElem?_set_ne (Ne.symm h)]
theorem Cts.put_sound {c : Cts} {k : Nat} {vs : List SV} {K : Cts → Prop} (h : c.put k vs K) : ∃ c', K c' ∧ c.Put k vs c' := by
  cases c with
  | l xs =>
    simp only [Cts.put] at h
    split at h
    · rw [setSK_eq] at h
      exact ⟨_, h, rfl, by simp [Cts.len], fun hk => by simp only [Cts.row]; rw [getD_set_same _ _ _ hk], fun j hj => by simp only [Cts.row]; rw [getD_set_other _ _ _ hj]⟩
    · exact h.elim
  | ix xs =>
    simp only [Cts.put] at h
    split at h
    · obtain ⟨n, h, e⟩ := iff_i1 h
      exact ⟨_, h, rfl, by simp [Cts.len], fun hk => by simp only [Cts.row]; rw [getD_set_same _ _ _ hk]; simp [denL, den, e], fun j hj => by simp only [Cts.row]; rw [getD_set_other _ _ _ hj]⟩
    · exact h.elim
  | cx xs =>
    obtain ⟨n, h, e⟩ := iff_cel4 (K := fun x => K (.cx (xs.set k x))) h
    exact ⟨_, h, rfl, by simp [Cts.len], fun hk => by simp only [Cts.row]; rw [getD_set_same _ _ _ hk, e], fun j hj => by simp only [Cts.row]; rw [getD_set_other _ _ _ hj]⟩
  | rx xs =>
    obtain ⟨n, h, e⟩ := iff_rul2 (K := fun x => K (.rx (xs.set k x))) h
    exact ⟨_, h, rfl, by simp [Cts.len], fun hk => by simp only [Cts.row]; rw [getD_set_same _ _ _ hk, e], fun j hj => by simp only [Cts.row]; rw [getD_set_other _ _ _ hj]⟩
  | gx xs =>
    obtain ⟨n, h, e⟩ := iff_gau10 (K := fun x => K (.gx (xs.set k x))) h
    exact ⟨_, h, rfl, by simp [Cts.len], fun hk => by simp only [Cts.row]; rw [getD_set_same _ _ _ hk, e], fun j hj => by simp only [Cts.row]; rw [getD_set_other _ _ _ hj]⟩
  | qx xs =>
    obtain ⟨n, h, e⟩ := iff_rat2 (K := fun x => K (.qx (xs.set k x))) h
    exact ⟨_, h, rfl, by simp [Cts.len], fun hk => by simp only [Cts.row]; rw [getD_set_same _ _ _ hk, e], fun j hj => by simp only [Cts.row]; rw [getD_set_other _ _ _ hj]⟩
  | px xs =>
    obtain ⟨n, h, e⟩ := iff_pnt2 (K := fun x => K (.px (xs.set k x))) h
    exact ⟨_, h, rfl, by simp [Cts.len], fun hk => by simp only [Cts.row]; rw [getD_set_same _ _ _ hk, e], fun j hj => by simp only [Cts.row]; rw [getD_set_other _ _ _ hj]⟩
  | bx xs =>
    simp only [Cts.put] at h
    split at h
    · obtain ⟨n, h, e⟩ := iff_b1 h
      exact ⟨_, h, rfl, by simp [Cts.len], fun hk => by simp only [Cts.row]; rw [getD_set_same _ _ _ hk]; simp [denL, den, e, BF.b], fun j hj => by simp only [Cts.row]; rw [getD_set_other _ _ _ hj]⟩
    · exact h.elim
  | sx xs =>
    simp only [Cts.put] at h
    split at h
    · obtain ⟨n, h, e⟩ := iff_s1 h
      exact ⟨_, h, rfl, by simp [Cts.len], fun hk => by simp only [Cts.row]; rw [getD_set_same _ _ _ hk]; simp [denL, den, e], fun j hj => by simp only [Cts.row]; rw [getD_set_other _ _ _ hj]⟩
    · exact h.elim
  | yx xs =>
    simp only [Cts.put] at h
    split at h
    · obtain ⟨n, h, e⟩ := iff_u81 h
      exact ⟨_, h, rfl, by simp [Cts.len], fun hk => by simp only [Cts.row]; rw [getD_set_same _ _ _ hk]; simp [denL, den, e], fun j hj => by simp only [Cts.row]; rw [getD_set_other _ _ _ hj]⟩
    · exact h.elim
  | vx s xs =>
    simp only [Cts.put] at h
    have hl := Nat.eq_of_beq_eq_true h.1
    refine ⟨_, h.2, rfl, by simp [Cts.len], fun hk => ?_, fun j hj => by simp only [Cts.row]; rw [getD_set_other _ _ _ hj]⟩
    simp only [Cts.row]
    rw [getD_set_same _ _ _ hk]
    refine congrArg denL (List.ext_getElem (by simp [hl]) fun d h1 h2 => ?_)
    simp [h2]
  | kx ib xs =>
    simp only [Cts.put] at h
    split at h
    · obtain ⟨⟨rfl, rfl⟩, h⟩ := h
      exact ⟨_, h, rfl, by simp [Cts.len], fun hk => by simp only [Cts.row]; rw [getD_set_same _ _ _ hk]; simp [denL, den], fun j hj => by simp only [Cts.row]; rw [getD_set_other _ _ _ hj]⟩
    · exact ⟨_, h, rfl, by simp [Cts.len], fun hk => by simp only [Cts.row]; rw [getD_set_same _ _ _ hk]; simp [denL, den], fun j hj => by simp only [Cts.row]; rw [getD_set_other _ _ _ hj]⟩
    · exact h.elim
theorem Cts.Put.get {c c' : Cts} {k : Nat} {vs : List SV} (h : c.Put k vs c') {o : Nat} (ho : o < c.n) : den (c'.get o) = if o / c.s = k then den (vs.getD (o % c.s) .und) else den (c.get o) := by
  obtain ⟨h0, h1, h2, _⟩ := c.n_at ho
  unfold Cts.get
  rw [h.s]
  by_cases e : o / c.s = k
  · rw [if_pos e, e]; exact denL_getD (h.row (by omega)) _
  · rw [if_neg e, h.other _ e]
theorem Cts.Put.n {c c' : Cts} {k : Nat} {vs : List SV} (h : c.Put k vs c') : c'.n = c.n := by unfold Cts.n; rw [h.s, h.len]
end Go.Sy
