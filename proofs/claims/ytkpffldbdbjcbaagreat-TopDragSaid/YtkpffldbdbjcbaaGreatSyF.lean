/- Operations with an effect: new variables, stores, slices made, appended; calls with an effect. -/
import Derived.Test.YtkpffldbdbjcbaaGreatSyE
import Derived.Test.YtkpffldbdbjcbaaGreatSyM
import Derived.Test.YtkpffldbdbjcbaaGreatSyU
import Derived.Laws.AppendOwn
import Derived.Laws.MakeOwn
set_option linter.unusedSimpArgs false
set_option linter.unusedVariables false
namespace Go.Sy
open Go.RowKit

/-! ### Lists of cells, and what they tell -/
def Cts.flat (c : Cts) : List SV := (List.range c.len).flatMap c.row
theorem flatMap_range_len {f : Nat → List SV} {s : Nat} (hf : ∀ k, (f k).length = s) : ∀ n, ((List.range n).flatMap f).length = n * s
  | 0 => by simp
  | n + 1 => by rw [List.range_succ, List.flatMap_append, List.length_append, flatMap_range_len hf n]; simp [hf, Nat.add_mul]
theorem flatMap_range_get {f : Nat → List SV} {s : Nat} (hf : ∀ k, (f k).length = s) : ∀ (n k d : Nat), k < n → d < s → ((List.range n).flatMap f)[k * s + d]? = (f k)[d]?
  | 0, k, d, h, _ => by omega
  | n + 1, k, d, h, hd => by
    rw [List.range_succ, List.flatMap_append]
    by_cases hk : k < n
    · have : k * s + d < n * s := by
        have : (k + 1) * s ≤ n * s := Nat.mul_le_mul_right _ hk
        rw [Nat.add_mul] at this; omega
      rw [List.getElem?_append_left (by rw [flatMap_range_len hf]; exact this)]
      exact flatMap_range_get hf n k d hk hd
    · have : k = n := by omega
      subst this
      rw [List.getElem?_append_right (by rw [flatMap_range_len hf]; omega), flatMap_range_len hf]
      simp
theorem Cts.flat_len (c : Cts) : c.flat.length = c.n := flatMap_range_len c.row_len _
theorem Cts.flat_get (c : Cts) {o : Nat} (ho : o < c.n) : c.flat[o]? = some (c.get o) := by
  obtain ⟨h0, h1, h2, h3⟩ := c.n_at ho
  rw [h3]
  unfold Cts.flat
  rw [flatMap_range_get c.row_len _ _ _ h1 h2, c.get_at h2]
  simp [c.row_len, h2]
theorem Cts.denL_flat (c : Cts) {o : Nat} (ho : o < c.n) : (denL c.flat)[o]? = some (den (c.get o)) := by
  rw [denL_map, List.getElem?_map, c.flat_get ho]; rfl
theorem range_flatMap {α : Type} (f : α → List SV) (d : α) : ∀ xs : List α, (List.range xs.length).flatMap (fun k => f (xs.getD k d)) = xs.flatMap f
  | [] => rfl
  | x :: xs => by
    rw [List.length_cons, List.range_succ_eq_map, List.flatMap_cons, List.flatMap_map, List.flatMap_cons]
    have := range_flatMap f d xs
    rw [← this]; rfl
theorem denL_append (xs ys : List SV) : denL (xs ++ ys) = denL xs ++ denL ys := by simp [denL_map]

/-- A flat row of cells, read as a list of parts of one kind. -/
def celL : List SV → (List Cel → Prop) → Prop
  | [], K => K []
  | a :: b :: c :: d :: r, K => cel4 [a, b, c, d] fun x => celL r fun xs => K (x :: xs)
  | _, _ => False
theorem celL_iff : ∀ {vs : List SV} {K : List Cel → Prop}, celL vs K → ∃ xs, K xs ∧ denL vs = denL (xs.flatMap Cel.svs)
  | [], K, h => ⟨[], h, rfl⟩
  | a :: b :: c :: d :: r, K, h => by
    obtain ⟨x, h, e1⟩ := iff_cel4 h
    obtain ⟨xs, h, e2⟩ := celL_iff h
    refine ⟨_, h, ?_⟩
    rw [show a :: b :: c :: d :: r = [a, b, c, d] ++ r from rfl, denL_append, List.flatMap_cons, denL_append, e1, e2]
  | [_], K, h => h.elim
  | [_, _], K, h => h.elim
  | [_, _, _], K, h => h.elim
def rulL : List SV → (List Rul → Prop) → Prop
  | [], K => K []
  | a :: b :: r, K => rul2 [a, b] fun x => rulL r fun xs => K (x :: xs)
  | _, _ => False
theorem rulL_iff : ∀ {vs : List SV} {K : List Rul → Prop}, rulL vs K → ∃ xs, K xs ∧ denL vs = denL (xs.flatMap Rul.svs)
  | [], K, h => ⟨[], h, rfl⟩
  | a :: b :: r, K, h => by
    obtain ⟨x, h, e1⟩ := iff_rul2 h
    obtain ⟨xs, h, e2⟩ := rulL_iff h
    refine ⟨_, h, ?_⟩
    rw [show a :: b :: r = [a, b] ++ r from rfl, denL_append, List.flatMap_cons, denL_append, e1, e2]
  | [_], K, h => h.elim
def ratL : List SV → (List Rat2 → Prop) → Prop
  | [], K => K []
  | a :: b :: r, K => rat2 [a, b] fun x => ratL r fun xs => K (x :: xs)
  | _, _ => False
theorem ratL_iff : ∀ {vs : List SV} {K : List Rat2 → Prop}, ratL vs K → ∃ xs, K xs ∧ denL vs = denL (xs.flatMap Rat2.svs)
  | [], K, h => ⟨[], h, rfl⟩
  | a :: b :: r, K, h => by
    obtain ⟨x, h, e1⟩ := iff_rat2 h
    obtain ⟨xs, h, e2⟩ := ratL_iff h
    refine ⟨_, h, ?_⟩
    rw [show a :: b :: r = [a, b] ++ r from rfl, denL_append, List.flatMap_cons, denL_append, e1, e2]
  | [_], K, h => h.elim
def pntL : List SV → (List Pnt → Prop) → Prop
  | [], K => K []
  | a :: b :: r, K => pnt2 [a, b] fun x => pntL r fun xs => K (x :: xs)
  | _, _ => False
theorem pntL_iff : ∀ {vs : List SV} {K : List Pnt → Prop}, pntL vs K → ∃ xs, K xs ∧ denL vs = denL (xs.flatMap Pnt.svs)
  | [], K, h => ⟨[], h, rfl⟩
  | a :: b :: r, K, h => by
    obtain ⟨x, h, e1⟩ := iff_pnt2 h
    obtain ⟨xs, h, e2⟩ := pntL_iff h
    refine ⟨_, h, ?_⟩
    rw [show a :: b :: r = [a, b] ++ r from rfl, denL_append, List.flatMap_cons, denL_append, e1, e2]
  | [_], K, h => h.elim
def gauL : List SV → (List Gau → Prop) → Prop
  | [], K => K []
  | a :: b :: c :: d :: e :: f :: g :: h :: i :: j :: r, K => gau10 [a, b, c, d, e, f, g, h, i, j] fun x => gauL r fun xs => K (x :: xs)
  | _, _ => False
theorem gauL_iff : ∀ (n : Nat) {vs : List SV} {K : List Gau → Prop}, vs.length ≤ n → gauL vs K → ∃ xs, K xs ∧ denL vs = denL (xs.flatMap Gau.svs)
  | n, vs, K, hn, h => by
    unfold gauL at h
    split at h
    · exact ⟨[], h, rfl⟩
    · rename_i a b c d e f g h' i j r
      cases n with
      | zero => simp at hn
      | succ n =>
        obtain ⟨x, h, e1⟩ := iff_gau10 h
        obtain ⟨xs, h, e2⟩ := gauL_iff n (by simp at hn; omega) h
        refine ⟨_, h, ?_⟩
        rw [show a :: b :: c :: d :: e :: f :: g :: h' :: i :: j :: r = [a, b, c, d, e, f, g, h', i, j] ++ r from rfl, denL_append, List.flatMap_cons, denL_append, e1, e2]
    · exact h.elim
def intL : List SV → (List Int → Prop) → Prop
  | [], K => K []
  | a :: r, K => i1 a fun x => intL r fun xs => K (x :: xs)
theorem intL_iff : ∀ {vs : List SV} {K : List Int → Prop}, intL vs K → ∃ xs, K xs ∧ denL vs = denL (xs.flatMap fun n => [SV.int .i64 n])
  | [], K, h => ⟨[], h, rfl⟩
  | a :: r, K, h => by
    obtain ⟨x, h, e1⟩ := iff_i1 h
    obtain ⟨xs, h, e2⟩ := intL_iff h
    refine ⟨_, h, ?_⟩
    rw [List.flatMap_cons, denL_append, ← e2]; simp [denL, den, e1]
def boolL : List SV → (List Bool → Prop) → Prop
  | [], K => K []
  | a :: r, K => b1 a fun x => boolL r fun xs => K (x :: xs)
theorem boolL_iff : ∀ {vs : List SV} {K : List Bool → Prop}, boolL vs K → ∃ xs, K xs ∧ denL vs = denL (xs.flatMap fun n => [SV.bool (.atom n)])
  | [], K, h => ⟨[], h, rfl⟩
  | a :: r, K, h => by
    obtain ⟨x, h, e1⟩ := iff_b1 h
    obtain ⟨xs, h, e2⟩ := boolL_iff h
    refine ⟨_, h, ?_⟩
    rw [List.flatMap_cons, denL_append, ← e2]; simp [denL, den, e1, BF.b]
def strL : List SV → (List ByteArray → Prop) → Prop
  | [], K => K []
  | a :: r, K => s1 a fun x => strL r fun xs => K (x :: xs)
theorem strL_iff : ∀ {vs : List SV} {K : List ByteArray → Prop}, strL vs K → ∃ xs, K xs ∧ denL vs = denL (xs.flatMap fun n => [SV.str n])
  | [], K, h => ⟨[], h, rfl⟩
  | a :: r, K, h => by
    obtain ⟨x, h, e1⟩ := iff_s1 h
    obtain ⟨xs, h, e2⟩ := strL_iff h
    refine ⟨_, h, ?_⟩
    rw [List.flatMap_cons, denL_append, ← e2]; simp [denL, den, e1]

def u8L : List SV → (List Int → Prop) → Prop
  | [], K => K []
  | a :: r, K => u81 a fun x => u8L r fun xs => K (x :: xs)
theorem u8L_iff : ∀ {vs : List SV} {K : List Int → Prop}, u8L vs K → ∃ xs, K xs ∧ denL vs = denL (xs.flatMap fun n => [SV.int .u8 n])
  | [], K, h => ⟨[], h, rfl⟩
  | a :: r, K, h => by
    obtain ⟨x, h, e1⟩ := iff_u81 h
    obtain ⟨xs, h, e2⟩ := u8L_iff h
    refine ⟨_, h, ?_⟩
    rw [List.flatMap_cons, denL_append, ← e2]; simp [denL, den, e1]

/-- A flat row as the contents of a block. -/
def ET.of (e : ET) (vs : List SV) (K : Cts → Prop) : Prop :=
  match e with
  | .no => K (.l vs)
  | .mrk | .slc => K (.l vs)
  | .int => intL vs fun xs => K (.ix xs)
  | .cel => celL vs fun xs => K (.cx xs)
  | .rul => rulL vs fun xs => K (.rx xs)
  | .gau => gauL vs fun xs => K (.gx xs)
  | .rat => ratL vs fun xs => K (.qx xs)
  | .pnt => pntL vs fun xs => K (.px xs)
  | .bool => boolL vs fun xs => K (.bx xs)
  | .str => strL vs fun xs => K (.sx xs)
  | .u8 => u8L vs fun xs => K (.yx xs)
theorem ET.of_sound {e : ET} {vs : List SV} {K : Cts → Prop} (h : e.of vs K) : ∃ c, K c ∧ denL vs = denL c.flat := by
  cases e with
  | no => exact ⟨_, h, congrArg denL (by rw [show (Cts.l vs).flat = vs.flatMap (fun x => [x]) from range_flatMap (fun x => [x]) .und vs]; simp)⟩
  | mrk | slc => exact ⟨_, h, congrArg denL (by rw [show (Cts.l vs).flat = vs.flatMap (fun x => [x]) from range_flatMap (fun x => [x]) .und vs]; simp)⟩
  | int => obtain ⟨xs, h, e⟩ := intL_iff (K := fun xs => K (.ix xs)) h; exact ⟨_, h, by rw [e]; exact congrArg denL (range_flatMap (fun n => [SV.int .i64 n]) 0 xs).symm⟩
  | cel => obtain ⟨xs, h, e⟩ := celL_iff (K := fun xs => K (.cx xs)) h; exact ⟨_, h, by rw [e]; exact congrArg denL (range_flatMap Cel.svs default xs).symm⟩
  | rul => obtain ⟨xs, h, e⟩ := rulL_iff (K := fun xs => K (.rx xs)) h; exact ⟨_, h, by rw [e]; exact congrArg denL (range_flatMap Rul.svs default xs).symm⟩
  | gau => obtain ⟨xs, h, e⟩ := gauL_iff _ (K := fun xs => K (.gx xs)) (Nat.le_refl _) h; exact ⟨_, h, by rw [e]; exact congrArg denL (range_flatMap Gau.svs default xs).symm⟩
  | rat => obtain ⟨xs, h, e⟩ := ratL_iff (K := fun xs => K (.qx xs)) h; exact ⟨_, h, by rw [e]; exact congrArg denL (range_flatMap Rat2.svs default xs).symm⟩
  | pnt => obtain ⟨xs, h, e⟩ := pntL_iff (K := fun xs => K (.px xs)) h; exact ⟨_, h, by rw [e]; exact congrArg denL (range_flatMap Pnt.svs default xs).symm⟩
  | bool => obtain ⟨xs, h, e⟩ := boolL_iff (K := fun xs => K (.bx xs)) h; exact ⟨_, h, by rw [e]; exact congrArg denL (range_flatMap (fun n => [SV.bool (.atom n)]) false xs).symm⟩
  | str => obtain ⟨xs, h, e⟩ := strL_iff (K := fun xs => K (.sx xs)) h; exact ⟨_, h, by rw [e]; exact congrArg denL (range_flatMap (fun n => [SV.str n]) ⟨#[]⟩ xs).symm⟩
  | u8 => obtain ⟨xs, h, e⟩ := u8L_iff (K := fun xs => K (.yx xs)) h; exact ⟨_, h, by rw [e]; exact congrArg denL (range_flatMap (fun n => [SV.int .u8 n]) 0 xs).symm⟩

/-- So many zeros. -/
def ET.zeros (e : ET) (n : Nat) : Option Cts :=
  match e with
  | .no => none
  | .mrk => none
  | .slc => some (.kx 2 (List.replicate n default))
  | .int => some (.ix (List.replicate n 0))
  | .cel => some (.cx (List.replicate n default))
  | .rul => some (.rx (List.replicate n default))
  | .gau => some (.gx (List.replicate n default))
  | .rat => some (.qx (List.replicate n default))
  | .pnt => some (.px (List.replicate n default))
  | .bool => some (.bx (List.replicate n false))
  | .str => some (.sx (List.replicate n ⟨#[]⟩))
  | .u8 => some (.yx (List.replicate n 0))
theorem ET.zeros_ok {e : ET} {n : Nat} {c : Cts} (h : e.zeros n = some c) : c.len = n ∧ c.s = e.zrow.length ∧ ∀ k, k < n → denL (c.row k) = denL e.zrow := by
  have hr : ∀ {α : Type} (x d : α) (k : Nat), k < n → (List.replicate n x).getD k d = x := fun x d k hk => by simp [hk]
  cases e <;> simp only [ET.zeros, reduceCtorEq, Option.some.injEq] at h <;> subst h <;> refine ⟨by simp [Cts.len], rfl, fun k hk => ?_⟩ <;> simp only [Cts.row, hr _ _ k hk, ET.zrow] <;> rfl

/-- A part of a list of parts, and two of one kind joined. -/
def seg {α : Type} (xs : List α) (k m : Nat) : List α := (xs.drop k).take m
theorem seg_all {α : Type} (xs : List α) : seg xs 0 xs.length = xs := by simp [seg]
def Cts.app (c d : Cts) (k m : Nat) : Option Cts :=
  match c, d with
  | .ix xs, .ix ys => some (.ix (xs ++ seg ys k m))
  | .cx xs, .cx ys => some (.cx (xs ++ seg ys k m))
  | .rx xs, .rx ys => some (.rx (xs ++ seg ys k m))
  | .gx xs, .gx ys => some (.gx (xs ++ seg ys k m))
  | .qx xs, .qx ys => some (.qx (xs ++ seg ys k m))
  | .px xs, .px ys => some (.px (xs ++ seg ys k m))
  | .bx xs, .bx ys => some (.bx (xs ++ seg ys k m))
  | .sx xs, .sx ys => some (.sx (xs ++ seg ys k m))
  | .yx xs, .yx ys => some (.yx (xs ++ seg ys k m))
  | .l xs, .l ys => some (.l (xs ++ seg ys k m))
  | _, _ => none
theorem seg_length {α : Type} {xs : List α} {k m : Nat} (h : k + m ≤ xs.length) : (seg xs k m).length = m := by simp [seg]; omega
theorem seg_getD {α : Type} {xs : List α} {k m j : Nat} (d : α) (hj : j < m) : (seg xs k m).getD j d = xs.getD (k + j) d := by
  simp [seg, List.getD_eq_getElem?_getD, List.getElem?_take, hj, List.getElem?_drop]
theorem app_getD_l {α : Type} {xs ys : List α} {j : Nat} (d : α) (hj : j < xs.length) : (xs ++ ys).getD j d = xs.getD j d := by
  simp [List.getD_eq_getElem?_getD, List.getElem?_append_left hj]
theorem app_getD_r {α : Type} {xs ys : List α} {j : Nat} (d : α) (hj : xs.length ≤ j) : (xs ++ ys).getD j d = ys.getD (j - xs.length) d := by
  simp [List.getD_eq_getElem?_getD, List.getElem?_append_right hj]
theorem Cts.app_ok {c d : Cts} {k m : Nat} {e : Cts} (h : c.app d k m = some e) (hm : k + m ≤ d.len) :
    e.s = c.s ∧ d.s = c.s ∧ e.len = c.len + m ∧ (∀ j, j < c.len → e.row j = c.row j) ∧ ∀ j, j < m → e.row (c.len + j) = d.row (k + j) := by
  cases c <;> cases d <;> simp only [Cts.app, reduceCtorEq, Option.some.injEq] at h <;> subst h <;>
    refine ⟨rfl, rfl, by simp only [Cts.len, List.length_append, seg_length hm], fun j hj => ?_, fun j hj => ?_⟩ <;>
    first
      | (simp only [Cts.row, app_getD_l _ hj]; done)
      | (simp only [Cts.row]; rw [app_getD_r _ (by simp only [Cts.len]; omega), seg_getD _ (by simp only [Cts.len]; omega)]; simp only [Cts.len, Nat.add_sub_cancel_left])
theorem Cts.flat_app {c d e : Cts} {k m : Nat} (h : c.app d k m = some e) (hm : k + m ≤ d.len) : e.flat = c.flat ++ (List.range m).flatMap fun j => d.row (k + j) := by
  obtain ⟨_, _, h3, h4, h5⟩ := Cts.app_ok h hm
  unfold Cts.flat
  rw [h3, List.range_add, List.flatMap_append, List.flatMap_map]
  congr 1
  · rw [List.flatMap_def, List.flatMap_def, List.map_congr_left fun j hj => h4 j (List.mem_range.1 hj)]
  · rw [List.flatMap_def, List.flatMap_def, List.map_congr_left fun j hj => h5 j (List.mem_range.1 hj)]

/-! ### Operations -/
/-- A contract with an effect on the blocks. -/
abbrev ECtr := List SV → List HB → (SV → List HB → Prop) → Prop
structure EOk (P : Program) (f : FuncId) (c : ECtr) : Prop where
  enters : Enters P f
  ok : ∀ (args : List SV) (hp : List HB) (K : SV → List HB → Prop), c args hp K → ∀ w0 w, Holds w0 w hp →
    Calls P f (denL args).toArray w fun e w' => ∃ v hp', K v hp' ∧ e = .returned (den v) ∧ Holds w0 w' hp'
def EsOk (P : Program) (E : List (Nat × ECtr)) : Prop := ∀ f c, lookN E f = some c → EOk P f c
theorem EsOk.nil (P : Program) : EsOk P [] := fun _ _ h => by simp [lookN] at h
theorem EsOk.cons {P : Program} {E : List (Nat × ECtr)} {f : Nat} {c : ECtr} (h : EOk P f c) (hE : EsOk P E) : EsOk P ((f, c) :: E) := fun u j hj => by
  unfold lookN at hj
  split at hj
  · rename_i he
    have : f = u := Nat.eq_of_beq_eq_true he
    subst this
    cases hj
    exact h
  · exact hE u j hj

def appK : List HB → HB → (List HB → Prop) → Prop
  | [], b, K => K [b]
  | x :: xs, b, K => appK xs b fun ys => K (x :: ys)
theorem appK_eq : ∀ (hp : List HB) (b : HB) (K : List HB → Prop), appK hp b K = K (hp ++ [b])
  | [], _, _ => rfl
  | x :: xs, b, K => by rw [appK, appK_eq xs b]; rfl
def lenK : List HB → Nat → (Nat → Prop) → Prop
  | [], n, K => K n
  | _ :: xs, n, K => lenK xs (n + 1) K
theorem lenK_eq : ∀ (hp : List HB) (n : Nat) (K : Nat → Prop), lenK hp n K = K (n + hp.length)
  | [], _, _ => rfl
  | x :: xs, n, K => by rw [lenK, lenK_eq xs]; simp [Nat.add_assoc, Nat.add_comm 1]
def setHK : List HB → Nat → HB → (List HB → Prop) → Prop
  | [], _, _, K => K []
  | _ :: xs, 0, b, K => K (b :: xs)
  | x :: xs, n + 1, b, K => setHK xs n b fun ys => K (x :: ys)
theorem setHK_eq : ∀ (hp : List HB) (i : Nat) (b : HB) (K : List HB → Prop), setHK hp i b K = K (hp.set i b)
  | [], _, _, _ => rfl
  | _ :: _, 0, _, _ => rfl
  | x :: xs, n + 1, b, K => by rw [setHK, setHK_eq xs n]; rfl
/-- No party's own word is among the blocks. -/
def noGh : List HB → Bool
  | [] => true
  | b :: hp => !b.isGh && noGh hp
theorem noGh_mem : ∀ {hp : List HB}, noGh hp = true → ∀ b ∈ hp, b.isGh = false
  | b :: hp, h, c, hc => by
    simp only [noGh, Bool.and_eq_true, Bool.not_eq_true'] at h
    rcases List.mem_cons.1 hc with rfl | hc
    · exact h.1
    · exact noGh_mem h.2 c hc

def newBlk (hp : List HB) (t : TypeId) (xs : List SV) (K : SV → List HB → Prop) : Prop :=
  ∀ g : Nat, lenK hp 0 fun n => appK hp ⟨some ⟨g, 0⟩, true, .wr t (Cts.l xs).n, .l xs⟩ fun hp' => K (.ptr n ⟨g, 0⟩ 0 0 0) hp'
theorem newBlk_sound {hp : List HB} {t : TypeId} {xs : List SV} {K : SV → List HB → Prop} (h : newBlk hp t xs K) {w0 w : World} (hw : Holds w0 w hp) :
    ∃ v hp', K v hp' ∧ Value.pointer (some ⟨w.heap.size, 0, none⟩) = den v ∧ Holds w0 (w.alloc (.cells (denL xs).toArray t)) hp' := by
  have h := h w.heap.size
  rw [lenK_eq, appK_eq] at h
  refine ⟨_, _, h, by simp [den], hw.new _ t (.l xs) _ (by simp [denL_len, Cts.l_n]) (Nat.le_refl _) fun o ho => ?_⟩
  rw [Cts.l_n] at ho
  rw [Cts.l_get]
  have := denL_get ho
  simpa using this

def evAlloc (T : List (Nat × TyI)) (t : TypeId) (hp : List HB) (K : SV → List HB → Prop) : Prop :=
  match lookN T t with
  | some ty => newBlk hp t ty.zero K
  | none => False
def evBox (t : TypeId) (v : SV) (hp : List HB) (K : SV → List HB → Prop) : Prop :=
  match v.row with
  | some xs => newBlk hp t xs K
  | none => False
def evStore (T : List (Nat × TyI)) (t : TypeId) (x v : SV) (hp : List HB) (K : SV → List HB → Prop) : Prop :=
  match x with
  | .ptr i nm k s d =>
    match hp[i]?, lookN T t, v.row with
    | some ⟨bn, own, .wr e cap, cts⟩, some ty, some vs =>
      match Nat.beq vs.length ty.size && noGh hp with
      | true => bn = some nm ∧
        match cts with
        | .l xs => match Nat.ble (k * s + d + vs.length) xs.length with
          | true => setLK xs (k * s + d) vs fun ys => setHK hp i ⟨bn, own, .wr e cap, .l ys⟩ fun hp' => K .und hp'
          | false => False
        | c => match Nat.beq c.s s && Nat.ble (d + vs.length) c.s with
          | true => k < c.len ∧ setLK (c.row k) d vs fun row => c.put k row fun c' => setHK hp i ⟨bn, own, .wr e cap, c'⟩ fun hp' => K .und hp'
          | false => False
      | false => False
    | _, _, _ => False
  | _ => False

theorem run_storeCells_in (P : Program) (g b : Nat) (t : TypeId) : ∀ (vs : List Value) (i : Nat) (cs : Array Value) (w : World), w.heap[g]? = some (.cells cs t (0, 0)) → b + i + vs.length ≤ cs.size → (∀ v ∈ vs, v.oneCell' = true) →
    ∃ w', (storeCells ⟨g, b, none⟩ vs i).run P w = .ok () w' ∧ w'.heap[g]? = some (.cells (setVs cs (b + i) vs) t (0, 0)) ∧
      w'.os = w.os ∧ w'.tape = w.tape ∧ w'.output = w.output ∧ w'.heap.size = w.heap.size ∧ ∀ k, k ≠ g → w'.heap[k]? = w.heap[k]?
  | [], i, cs, w, h, _, _ => ⟨w, by simp [storeCells], by simpa [setVs] using h, rfl, rfl, rfl, rfl, fun _ _ => rfl⟩
  | v :: vs, i, cs, w, h, hs, h1 => by
    simp only [List.length_cons] at hs
    have ha : (⟨g, b, none⟩ : Addr).add i = ⟨g, b + i, none⟩ := Addr.add_lit g b i
    have hc : w.cell? ⟨g, b + i, none⟩ = some cs[b + i] := by
      rw [cell_of_row w g (b + i) cs t (0, 0) h]; simp
    have hf : w.frozen? ⟨g, b + i, none⟩ = false := by simp [World.frozen?, h]
    have hset : (w.setCell ⟨g, b + i, none⟩ v).heap[g]? = some (.cells (cs.setIfInBounds (b + i) v) t (0, 0)) := by
      simp [World.setCell, Array.getElem?_modify, h]
    obtain ⟨w', hr, hg, h2, h3, h4, h5, h6⟩ := run_storeCells_in P g b t vs (i + 1) (cs.setIfInBounds (b + i) v) (w.setCell ⟨g, b + i, none⟩ v) hset (by simp; omega) (fun u hu => h1 u (by simp [hu]))
    refine ⟨w', ?_, ?_, h2, h3, h4, by simpa using h5, fun k hk => (h6 k hk).trans (Below.heap_setCell w _ _ _ hk)⟩
    · simp only [storeCells, ha, Sem.run_bind]
      rw [run_store P w _ v .plain (h1 v (by simp)), hc]
      simp [hf, hr]
    · simpa [setVs, Nat.add_assoc] using hg

theorem store_at {P : Program} {w0 w : World} {hp : List HB} (hw : Holds w0 w hp) {i : Nat} {nm : Nm} {own : Bool} {e : TypeId} {cap : Nat} {cts c' : Cts} (hb : hp[i]? = some ⟨some nm, own, .wr e cap, cts⟩) (hng : noGh hp = true) {o : Nat} {vs : List SV}
    (hn : o + vs.length ≤ cts.n) (h1 : ∀ u ∈ denL vs, u.oneCell' = true) (hc' : c'.n = cts.n) (hg : ∀ j, j < cts.n → den (c'.get j) = if o ≤ j ∧ j < o + vs.length then den (vs.getD (j - o) .und) else den (cts.get j)) :
    ∃ w', (storeCells ⟨nm.g, nm.b + o, none⟩ (denL vs) 0).run P w = .ok () w' ∧ Holds w0 w' (hp.set i ⟨some nm, own, .wr e cap, c'⟩) := by
  obtain ⟨hb0, cs, hcs, hcsz, hcap, hcell⟩ := hw.blk _ (List.mem_of_getElem? hb)
  simp only at hcap hcell
  have hl : (denL vs).length = vs.length := denL_len vs
  obtain ⟨w', hr, he, e1, e2, e3, e4, e5⟩ := run_storeCells_in P nm.g (0 + o) e (denL vs) 0 cs w hcs (by omega) h1
  rw [Nat.zero_add, Nat.add_zero] at he
  refine ⟨w', by rw [hb0]; exact hr, hw.turn hb rfl (noGh_mem hng) rfl ⟨hb0, _, he, by rw [setVs_size, hcsz], by simp only; omega, fun j hj => ?_⟩ (.inl rfl) (fun g' hc => (show nm.g = g' from hc).symm) (fun g' ht => by
    have : nm.g = g' := by simpa [HB.touch, HB.cl, HB.rd] using ht
    exact this.symm) (fun h => .inl h) e1 e2 e3 (Nat.le_of_eq e4.symm) fun k _ hk => e5 k hk⟩
  simp only at hj
  rw [setVs_get _ _ _ _ (by omega), hl, hg j (by omega)]
  split
  · rename_i hin; exact denL_get (by omega)
  · exact hcell j (by omega)

theorem evStore_sound {P : Program} {T : List (Nat × TyI)} (hT : TOk P T) {t : TypeId} {x v : SV} {hp : List HB} {K : SV → List HB → Prop} (h : evStore T t x v hp K) {w0 w : World} (hw : Holds w0 w hp) :
    ∃ hp' w', K .und hp' ∧ (Instr.storeAt t (den x) (den v)).run P w = .ok () w' ∧ Holds w0 w' hp' := by
  unfold evStore at h
  split at h
  · rename_i i nm k s d
    split at h
    · rename_i bn own e cap cts ty vs hb hty hv
      split at h
      · rename_i hsz
        simp only [Bool.and_eq_true] at hsz
        obtain ⟨rfl, h⟩ := h
        have hty := hT _ _ hty
        have hsz1 := Nat.eq_of_beq_eq_true hsz.1
        obtain ⟨hc, h1⟩ := SV.row_sound hv
        have hs2 : (denL vs).toArray.size = ty.size := by rw [← hsz1, ← denL_len]; simp
        have fin : ∀ {w'}, (storeCells ⟨nm.g, nm.b + (k * s + d), none⟩ (denL vs) 0).run P w = .ok () w' → (Instr.storeAt t (den (.ptr i nm k s d)) (den v)).run P w = .ok () w' := fun {w'} hr => by
          simp only [Instr.storeAt, den, Instr.sureAddr, Sem.run_bind, Sem.run_pure, Result.andThen_ok, storeVar, hc, run_sizeOf hty.sz, hs2]
          simpa using hr
        split at h
        · rename_i xs
          split at h
          · rename_i hn
            have hn := Nat.le_of_ble_eq_true hn
            rw [setLK_eq, setHK_eq] at h
            obtain ⟨w', hr, hw'⟩ := store_at (P := P) (c' := .l (setL xs (k * s + d) vs)) hw hb hsz.2 (by rw [Cts.l_n]; exact hn) h1 (by simp [Cts.l_n, setL_length]) (fun j hj => by
              rw [Cts.l_n] at hj
              rw [Cts.l_get, Cts.l_get, setL_getD _ _ _ _ hj]
              split <;> rfl)
            exact ⟨_, w', h, fin hr, hw'⟩
          · exact h.elim
        · rename_i cts' _
          split at h
          · rename_i hn
            simp only [Bool.and_eq_true] at hn
            have hn1 := Nat.eq_of_beq_eq_true hn.1
            have hn2 := Nat.le_of_ble_eq_true hn.2
            subst hn1
            obtain ⟨hk, h⟩ := h
            rw [setLK_eq] at h
            obtain ⟨c', h, hput⟩ := Cts.put_sound h
            rw [setHK_eq] at h
            have hle : k * cts.s + d + vs.length ≤ cts.n := by
              have : (k + 1) * cts.s ≤ cts.len * cts.s := Nat.mul_le_mul_right _ hk
              rw [Nat.add_mul] at this; unfold Cts.n; omega
            obtain ⟨w', hr, hw'⟩ := store_at (P := P) (c' := c') hw hb hsz.2 hle h1 hput.n (fun j hj => by
              rw [hput.get hj]
              obtain ⟨q0, q1, q2, q3⟩ := cts.n_at hj
              by_cases hjk : j / cts.s = k
              · rw [if_pos hjk, setL_getD _ _ _ _ (by rw [Cts.row_len]; exact q2)]
                rw [hjk] at q3
                by_cases hin : k * cts.s + d ≤ j ∧ j < k * cts.s + d + vs.length
                · rw [if_pos hin, if_pos (by omega), show j % cts.s - d = j - (k * cts.s + d) by omega]
                · rw [if_neg hin, if_neg (by omega)]
                  unfold Cts.get; rw [hjk]
              · rw [if_neg hjk, if_neg]
                rintro ⟨a1, a2⟩
                apply hjk
                have : k * cts.s ≤ j := by omega
                have : j < (k + 1) * cts.s := by rw [Nat.add_mul]; omega
                exact Nat.div_eq_of_lt_le (by omega) (by omega))
            exact ⟨_, w', h, fin hr, hw'⟩
          · exact h.elim
      · exact h.elim
    · exact h.elim
  · exact h.elim

/-- A slice made. -/
def evMake (T : List (Nat × TyI)) (t : TypeId) (l c : SV) (hp : List HB) (K : SV → List HB → Prop) : Prop :=
  match lookN T t with
  | some ⟨.sli e s, _, _, _⟩ => match lookN T e with
    | some te => i1 l fun l => i1 c fun c => (0 ≤ l ∧ l ≤ c ∧ (te.x.bytes : Int) * c ≤ 281474976710656 ∧ c ≤ 9223372036854775807) ∧
      match te.x.et.zeros l.toNat with
      | some z => match Nat.beq s z.s with
        | true => ∀ g : Nat, lenK hp 0 fun n => appK hp ⟨some ⟨g, 0⟩, true, .wr e (c.toNat * s), z⟩ fun hp' => K (.sl n (some ⟨g, 0⟩) 0 s l.toNat c.toNat) hp'
        | false => False
      | none => False
    | none => False
  | _ => False
theorem madeCells_get (z : Array Value) (n j : Nat) (h : j < n) (h0 : 0 < z.size) : (madeCells z n)[j]? = z[j % z.size]? := by
  have : j % z.size < z.size := Nat.mod_lt _ h0
  simp [madeCells, h, this]
theorem evMake_sound {P : Program} {T : List (Nat × TyI)} (hT : TOk P T) {t : TypeId} {l c : SV} {hp : List HB} {K : SV → List HB → Prop} (h : evMake T t l c hp K) {w0 w : World} (hw : Holds w0 w hp) :
    ∃ v hp' w', K v hp' ∧ (Instr.makeSlice t (den l) (den c)).run P w = .ok (den v) w' ∧ Holds w0 w' hp' := by
  unfold evMake at h
  split at h
  · rename_i e s _ _ _ hi
    split at h
    · rename_i te hte
      obtain ⟨li, h, hl⟩ := iff_i1 h
      obtain ⟨ci, h, hc⟩ := iff_i1 h
      obtain ⟨⟨h1, h2, h3, h4⟩, h⟩ := h
      split at h
      · rename_i z hz
        split at h
        · rename_i hs
          have hs := Nat.eq_of_beq_eq_true hs
          have h := h w.heap.size
          rw [lenK_eq, appK_eq] at h
          obtain ⟨hu, hse⟩ := (hT _ _ hi).und
          have hty := hT _ _ hte
          obtain ⟨f, zz, hf, hsf, hzf, hzc⟩ := hty.info
          obtain ⟨f', hf', hsz⟩ := hse
          rw [hf] at hf'; cases hf'
          obtain ⟨z1, z2, z3⟩ := ET.zeros_ok hz
          have het := hty.et
          have hrow : denL te.zero = denL te.x.et.zrow := by
            revert het; cases hx : te.x.et <;> first | (rw [hx] at hz; simp [ET.zeros] at hz; done) | exact fun h => h
          have hzs : zz.cells.size = s := by
            have : zz.cells.size = zz.cells.toList.length := by simp
            rw [this, hzc, denL_len, ← denL_len, hrow, denL_len, ← z2]; exact hs.symm
          have hb := hty.bytes hf
          have hcap : ci.toNat ≤ 9223372036854775807 := by omega
          have hr := run_make w t e f zz hu hf hzf .i64 .i64 li ci h1 h2 (by rw [hb]; exact h3) h4
          have hzn : z.n = li.toNat * s := by unfold Cts.n; rw [z1, hs]
          refine ⟨_, _, _, h, by rw [hl, hc]; rw [show den (SV.sl (0 + hp.length) (some ⟨w.heap.size, 0⟩) 0 s li.toNat ci.toNat) = .slice (some ⟨w.heap.size, 0, none⟩) li.toNat ci.toNat by simp [den]]; exact hr, ?_⟩
          refine hw.new _ e z _ (by simp [madeCells, hsz]) (by rw [hzn]; exact Nat.mul_le_mul_right _ (by omega)) fun o ho => ?_
          obtain ⟨q0, q1, q2, q3⟩ := z.n_at ho
          rw [hzn] at ho
          have hlt : o < ci.toNat * s := Nat.lt_of_lt_of_le ho (Nat.mul_le_mul_right _ (by omega))
          rw [hsz, madeCells_get _ _ _ hlt (by omega), hzs]
          have e1 : zz.cells[o % s]? = zz.cells.toList[o % s]? := by simp
          rw [e1, hzc, hrow, ← z3 (o / z.s) (by omega)]
          have q2' : o % s < s := by rw [hs]; exact q2
          unfold Cts.get
          rw [← hs]
          exact denL_get (by rw [Cts.row_len, ← hs]; exact q2')
        · exact h.elim
      · exact h.elim
    · exact h.elim
  · exact h.elim

/-- A slice of parts that are told. -/
def evBuildSlice (T : List (Nat × TyI)) (t : TypeId) (n : Nat) (ps : List (Nat × SV)) (hp : List HB) (K : SV → List HB → Prop) : Prop :=
  match lookN T t with
  | some ⟨.sli e s, _, _, _⟩ => match lookN T e with
    | some te => match Nat.ble (n * s) 16777216 && (Nat.beq te.zero.length s && Nat.ble 1 s) with
      | true => match fillS (fun i => some (i * s, s)) ((List.replicate n te.zero).flatMap fun r => r) ps with
        | some ys => te.x.et.of ys fun c => Nat.beq c.n (n * s) = true ∧ ∀ g : Nat, lenK hp 0 fun k => appK hp ⟨some ⟨g, 0⟩, true, .wr e (n * s), c⟩ fun hp' => K (.sl k (some ⟨g, 0⟩) 0 s n n) hp'
        | none => False
      | false => False
    | none => False
  | _ => False
theorem madeCells_flat (z : Array Value) (zs : List SV) (hz : z.toList = denL zs) (h0 : 0 < zs.length) (n : Nat) : madeCells z (n * zs.length) = (denL ((List.replicate n zs).flatMap fun r => r)).toArray := by
  have hzs : z.size = zs.length := by rw [← denL_len, ← hz]; simp
  have hf : ((List.replicate n zs).flatMap fun r => r) = (List.range n).flatMap fun _ => zs := by
    induction n with
    | zero => rfl
    | succ n ih => rw [List.replicate_succ', List.flatMap_append, ih, List.range_succ, List.flatMap_append]; simp
  apply Array.ext'
  rw [hf]
  apply List.ext_getElem?
  intro j
  have hl : ((List.range n).flatMap fun _ => zs).length = n * zs.length := flatMap_range_len (fun _ => rfl) n
  by_cases hj : j < n * zs.length
  · have e1 : (madeCells z (n * zs.length)).toList[j]? = (madeCells z (n * zs.length))[j]? := by simp
    have hd : j / zs.length < n := by rw [Nat.div_lt_iff_lt_mul h0]; exact hj
    have hm := Nat.mod_lt j h0
    have e2 : j = j / zs.length * zs.length + j % zs.length := by rw [Nat.mul_comm]; exact (Nat.div_add_mod j _).symm
    rw [e1, madeCells_get _ _ _ hj (by omega), hzs, denL_map, List.getElem?_map]
    conv => rhs; rw [e2, flatMap_range_get (fun _ => rfl) n _ _ hd hm]
    have e3 : z[j % zs.length]? = z.toList[j % zs.length]? := by simp
    rw [e3, hz, denL_map, List.getElem?_map]
  · rw [List.getElem?_eq_none (by simp [madeCells]; omega), List.getElem?_eq_none (by rw [denL_len, hl]; omega)]
theorem evBuildSlice_sound {P : Program} {T : List (Nat × TyI)} (hT : TOk P T) {t : TypeId} {n : Nat} {ps : List (Nat × SV)} {hp : List HB} {K : SV → List HB → Prop} (h : evBuildSlice T t n ps hp K) {w0 w : World} (hw : Holds w0 w hp) :
    ∃ v hp' w', K v hp' ∧ (Instr.buildSlice t n (ps.map fun p => (p.1, den p.2)).toArray).run P w = .ok (den v) w' ∧ Holds w0 w' hp' := by
  unfold evBuildSlice at h
  split at h
  · rename_i e s _ _ _ hi
    split at h
    · rename_i te hte
      split at h
      · rename_i hb
        simp only [Bool.and_eq_true] at hb
        have hb1 := Nat.le_of_ble_eq_true hb.1
        have hb2 := Nat.eq_of_beq_eq_true hb.2.1
        have hb3 := Nat.le_of_ble_eq_true hb.2.2
        split at h
        · rename_i ys hys
          obtain ⟨c, ⟨hcn, h⟩, hc⟩ := ET.of_sound h
          have hcn := Nat.eq_of_beq_eq_true hcn
          have h := h w.heap.size
          rw [lenK_eq, appK_eq] at h
          obtain ⟨hu, hse⟩ := (hT _ _ hi).und
          have hty := hT _ _ hte
          obtain ⟨f, zz, hf, hsf, hzf, hzc⟩ := hty.info
          obtain ⟨f', hf', hsz⟩ := hse
          rw [hf] at hf'; cases hf'
          have hfill := fillS_sound hys
          rw [← madeCells_flat zz.cells te.zero hzc (by omega), hb2] at hfill
          have hnb : ¬ 16777216 < n * s := by omega
          have hrun : (Instr.buildSlice t n (ps.map fun p => (p.1, den p.2)).toArray).run P w = .ok (.slice (some ⟨w.heap.size, 0, none⟩) n n) (w.alloc (.cells (denL ys).toArray e)) := by
            by_cases hn0 : n * s = 0
            · have hm : madeCells zz.cells (n * s) = #[] := by rw [hn0]; simp [madeCells]
              rw [hm] at hfill
              simp [Instr.buildSlice, run_underlying hu, sizeOf, typeInfo, hf, hsz, hnb, hn0, Array.range_zero', hfill, newRow]
            · simp only [madeCells] at hfill
              simp [Instr.buildSlice, run_underlying hu, sizeOf, typeInfo, hf, hsz, hnb, hn0, zeroValue, hzf, hfill, newRow]
          refine ⟨_, _, w.alloc (.cells (denL ys).toArray e), h, by rw [hrun]; simp [den], ?_⟩
          have hyl : (denL ys).length = n * s := by rw [hc, denL_len, Cts.flat_len, hcn]
          refine hw.new _ e c _ (by simpa using hyl) (Nat.le_of_eq hcn) fun o ho => ?_
          have := c.denL_flat ho
          rw [← hc] at this
          simpa using this
        · exact h.elim
      · exact h.elim
    · exact h.elim
  · exact h.elim

/-! ### append -/
def ET.emp (e : ET) : Option Cts := e.zeros 0
def Cts.ones : Cts → Bool
  | .l xs => xs.all SV.one
  | .vx _ _ | .kx _ _ => false
  | _ => true
theorem Cts.ones_get {c : Cts} (h : c.ones = true) {o : Nat} (ho : o < c.n) : (den (c.get o)).oneCell' = true := by
  obtain ⟨h0, h1, h2, h3⟩ := c.n_at ho
  unfold Cts.get
  generalize o / c.s = k at *
  generalize o % c.s = d at *
  cases c with
  | l xs =>
    simp only [Cts.s] at h2
    have hd : d = 0 := by omega
    subst hd
    simp only [Cts.row, Cts.len] at *
    refine SV.one_cell (List.all_eq_true.1 h _ ?_)
    simp [List.getD_eq_getElem?_getD, h1]
  | vx s xs | kx s xs => simp [Cts.ones] at h
  | ix xs | bx xs | sx xs | yx xs =>
    simp only [Cts.s] at h2
    have hd : d = 0 := by omega
    subst hd; simp [Cts.row, den, Value.oneCell']
  | cx xs => simp only [Cts.s] at h2; match d, h2 with | 0, _ | 1, _ | 2, _ | 3, _ => simp [Cts.row, Cel.svs, den, Value.oneCell']
  | rx xs => simp only [Cts.s] at h2; match d, h2 with | 0, _ | 1, _ => simp [Cts.row, Rul.svs, den, Value.oneCell']
  | qx xs => simp only [Cts.s] at h2; match d, h2 with | 0, _ | 1, _ => simp [Cts.row, Rat2.svs, den, Value.oneCell']
  | px xs => simp only [Cts.s] at h2; match d, h2 with | 0, _ | 1, _ => simp [Cts.row, Pnt.svs, den, Value.oneCell']
  | gx xs => simp only [Cts.s] at h2; match d, h2 with | 0, _ | 1, _ | 2, _ | 3, _ | 4, _ | 5, _ | 6, _ | 7, _ | 8, _ | 9, _ => simp [Cts.row, Gau.svs, den, Value.oneCell']

/-- What an append leaves, and where it lies. -/
theorem append_at {P : Program} (w : World) (t ty e : TypeId) (i : TypeInfo) (z : Value) (size bytes : Nat) (ht : P.underlying t = some (.slice e)) (hi : P.info? e = some i) (hz : i.zero = some z)
    (hsize : i.size = size) (hby : i.bytes = bytes) (hzs : z.cells.size = size) (hsz : 0 < size) (v : Value) (n : Nat) (xs : List Value) (hown : w.ownsRow (if v.ownBlock = none then w.heap.size else 0) e size v n xs)
    (a : Addr) (m c : Nat) (news : List Value) (hl : news.length = m * size) (hnews : ∀ j u, news[j]? = some u → w.cell? (a.add j) = some u) (h1 : ∀ u ∈ news, u.oneCell' = true) (h63 : n + m ≤ maxLen) (hbytes : (n + m) * bytes ≤ 140737488355328) :
    ∃ v' w', (Builtin.append_ #[t, t] ty #[v, .slice (some a) m c]).run P w = .ok v' w' ∧ w.grownBy w' v.ownBlock ∧
      ((v' = .slice none 0 0 ∧ n + m = 0) ∨ ∃ g cap cur, v' = .slice (some ⟨g, 0, none⟩) (n + m) cap ∧ (v.ownBlock = some g ∨ w.heap.size ≤ g) ∧ w'.heap[g]? = some (.cells cur e (0, 0)) ∧ n + m ≤ cap ∧ cap ≤ maxLen ∧ cur.size = cap * size ∧ cur.toList.take ((n + m) * size) = xs ++ news) := by
  obtain ⟨v', w', hr, ho, hg, _⟩ := run_append_own (P := P) w _ t ty e i z size bytes ht hi hz hsize hby hzs hsz v n xs hown a m c news hl hnews h1 h63 hbytes (by split <;> omega)
  refine ⟨v', w', hr, hg, ?_⟩
  rcases ho.2 with ⟨e1, e2⟩ | ⟨g, cap, cur, e1, e2, e3, e4, e5, e6, e7⟩
  · exact .inl ⟨e1, e2⟩
  · refine .inr ⟨g, cap, cur, e1, ?_, e3, e4, e5, e6, e7⟩
    subst hsize; subst hby
    rcases hown.2 with ⟨rfl, rfl⟩ | ⟨g0, cap0, cur0, rfl, _, q3, q4, q5, q6, q7⟩
    · rw [if_pos (show (Value.slice none 0 0).ownBlock = none from rfl)] at e2; exact .inr e2
    · by_cases hroom : n + m ≤ cap0
      · have hfit : n * i.size + news.length ≤ cur0.size := by rw [hl, q6, ← Nat.add_mul]; exact Nat.mul_le_mul_right _ hroom
        have hr2 := run_append_room (P := P) w t ty e i ht hi g0 n cap0 cur0 q3 a m c news hl hnews h1 hroom hfit
        rw [hr, e1] at hr2
        injection hr2 with h2 _
        injection h2 with h3 _ _
        injection h3 with h4
        injection h4 with h5 _ _
        exact .inl (by rw [h5]; rfl)
      · have holds : ∀ j u, xs[j]? = some u → w.cell? ((⟨g0, 0, none⟩ : Addr).add j) = some u := hown.cells (g := g0) rfl
        have hr2 := run_append_grow (P := P) w t ty e i z ht hi hz ⟨g0, 0, none⟩ n cap0 xs hown.1 holds a m c news hl hnews (by omega) (by simp only [maxLen] at h63; omega) (growslice_fits (by omega) hbytes)
        rw [hr, e1] at hr2
        injection hr2 with h2 _
        injection h2 with h3 _ _
        injection h3 with h4
        injection h4 with h5 _ _
        exact .inr (by omega)

/-- .. of a slice that is nil: nothing comes. -/
theorem append_nil {P : Program} (w : World) (t ty e : TypeId) (i : TypeInfo) (size : Nat) (ht : P.underlying t = some (.slice e)) (hi : P.info? e = some i)
    (hsize : i.size = size) (v : Value) (base n : Nat) (xs : List Value) (hown : w.ownsRow base e size v n xs) (c : Nat) :
    (Builtin.append_ #[t, t] ty #[v, .slice none 0 c]).run P w = .ok v w := by
  subst hsize
  rcases hown.2 with ⟨rfl, rfl⟩ | ⟨g, cap, cur, rfl, _, q3, q4, q5, q6, q7⟩
  · simp [Builtin.append_, run_underlying ht, sizeOf, typeInfo, hi, Builtin.lenOf, Builtin.firstCells]
  · simp [Builtin.append_, run_underlying ht, sizeOf, typeInfo, hi, Builtin.lenOf, Builtin.firstCells, q4, storeCells]
/-- What an append reads: a block, or one of many rows. -/
def srcB (hp : List HB) (j : Nat) (b : Option Nm) (K : HB → Prop) : Prop :=
  match hp[j]? with
  | some yb => match yb.kd with
    | .bn ds => ∃ nm ys, (b = some nm ∧ (nm, ys) ∈ ds) ∧ K ⟨b, false, .ro, .ix ys⟩
    | _ => K yb
  | none => False
theorem srcB_iff {hp : List HB} {j : Nat} {b : Option Nm} {K : HB → Prop} (h : srcB hp j b K) : ∃ yb, (∀ w, (∀ c ∈ hp, c.ok w) → yb.ok w) ∧ K yb := by
  unfold srcB at h
  split at h
  · rename_i yb hyb
    split at h
    · rename_i ds hk
      obtain ⟨nm, ys, ⟨rfl, hm⟩, h⟩ := h
      have hv : ∀ w, (∀ c ∈ hp, c.ok w) → HB.ok ⟨some nm, false, .ro, .ix ys⟩ w := fun w hw => by
        have hok := hw yb (List.mem_of_getElem? hyb)
        obtain ⟨n0, o0, kd, c0⟩ := yb
        simp only at hk; subst hk
        intro o ho
        have := hok (nm, ys) hm o (by simpa [Cts.n, Cts.len, Cts.s] using ho)
        simpa [Cts.get, Cts.row, Cts.s, den, Nat.mod_one] using this
      exact ⟨_, hv, h⟩
    · exact ⟨yb, fun w hw => hw yb (List.mem_of_getElem? hyb), h⟩
  · exact h.elim
def evAppY (e : TypeId) (s bytes : Nat) (cx : Cts) (y : SV) (hp : List HB) (K : Nat → Cts → Prop) : Prop :=
  match y with
  | .sl j b k s' m _ => srcB hp j b fun yb => match Nat.beq s s' && (yb.isC && yb.cts.ones && Nat.beq yb.cts.s s) with
      | true => match cx.app yb.cts k m with
        | some c => (yb.nm = b ∧ k + m ≤ yb.cts.len ∧ cx.len + m ≤ 9223372036854775807 ∧ (cx.len + m) * bytes ≤ 140737488355328) ∧ K m c
        | none => False
      | false => False
  | _ => False
/-- append. -/
def evAppend (T : List (Nat × TyI)) (t : TypeId) (x y : SV) (hp : List HB) (K : SV → List HB → Prop) : Prop :=
  match lookN T t with
  | some ⟨.sli e s, _, _, _⟩ => match lookN T e with
    | some te => match Nat.beq te.zero.length s && (Nat.ble 1 s && noGh hp) with
      | true => match x with
        | .nilsl => match te.x.et.emp with
          | some cx => match Nat.beq cx.s s with
            | true => evAppY e s te.x.bytes cx y hp fun m c => ∀ (a : Option Nm) (cap : Nat), (0 < m → a.isSome = true) → (m ≤ cap ∧ cap ≤ 9223372036854775807) → lenK hp 0 fun n => appK hp ⟨a, true, .wr e (cap * s), c⟩ fun hp' => K (.sl n a 0 s m cap) hp'
            | false => False
          | none => False
        | .sl i a k s' len cap => match hp[i]? with
          | some ⟨an, true, .wr e' bc, cx⟩ => match Nat.beq s s' && (Nat.beq e e' && Nat.beq cx.s s) with
            | true => (an = a ∧ k = 0 ∧ bc = cap * s ∧ len = cx.len ∧ cap ≤ 9223372036854775807) ∧
              evAppY e s te.x.bytes cx y hp fun m c => ∀ (a' : Option Nm) (cap' : Nat), (0 < len + m → a'.isSome = true) → (len + m ≤ cap' ∧ cap' ≤ 9223372036854775807) → setHK hp i ⟨a', true, .wr e (cap' * s), c⟩ fun hp' => K (.sl i a' 0 s (len + m) cap') hp'
            | false => False
          | _ => False
        | _ => False
      | false => False
    | none => False
  | _ => False

theorem HB.ok.none_n' {b : HB} {w : World} (h : b.ok w) (hC : b.isC = true) (hnm : b.nm = none) : b.cts.n = 0 := by
  obtain ⟨nm, own, kd, cts⟩ := b
  subst hnm
  cases kd with
  | ro => exact h
  | wr ty cap => exact h.1
  | ob o => simp [HB.isC] at hC
  | mk D => simp [HB.isC] at hC
  | gh J k => simp [HB.isC] at hC
  | bn ds => simp [HB.isC] at hC
theorem evAppend_run {P : Program} {T : List (Nat × TyI)} (hT : TOk P T) {t e : TypeId} {s : Nat} {sz : Nat} {z : List SV} {x : TX} (hi : lookN T t = some ⟨.sli e s, sz, z, x⟩) {te : TyI} (hte : lookN T e = some te) (hzl : te.zero.length = s) (hs1 : 1 ≤ s)
    {cx : Cts} (hcs : cx.s = s) {y : SV} {hp : List HB} {K : Nat → Cts → Prop} (h : evAppY e s te.x.bytes cx y hp K) :
    ∃ m c, K m c ∧ c.n = (cx.len + m) * s ∧ c.len = cx.len + m ∧ ∀ (w : World), (∀ b ∈ hp, b.ok w) → ∀ (v : Value), w.ownsRow (if v.ownBlock = none then w.heap.size else 0) e s v cx.len (denL cx.flat) → ∀ ty,
      ∃ v' w', (Builtin.append_ #[t, t] ty #[v, den y]).run P w = .ok v' w' ∧ w.grownBy w' v.ownBlock ∧
      ((v' = .slice none 0 0 ∧ cx.len + m = 0) ∨ ∃ g cap, v' = .slice (some ⟨g, 0, none⟩) (cx.len + m) cap ∧ (v.ownBlock = some g ∨ w.heap.size ≤ g) ∧ cap ≤ 9223372036854775807 ∧ (⟨some ⟨g, 0⟩, true, .wr e (cap * s), c⟩ : HB).ok w') := by
  unfold evAppY at h
  split at h
  · rename_i j b k s' m cap0
    obtain ⟨yb, hyb, h2⟩ := srcB_iff h
    clear h
    have h := h2
    clear h2
    · split at h
      · rename_i hb
        simp only [Bool.and_eq_true] at hb
        have hs' := Nat.eq_of_beq_eq_true hb.1
        subst hs'
        have hC := hb.2.1.1
        have hones := hb.2.1.2
        have hys := Nat.eq_of_beq_eq_true hb.2.2
        split at h
        · rename_i c hc
          obtain ⟨⟨hnm, hkm, hlen, hbytes⟩, h⟩ := h
          obtain ⟨q1, q2, q3, q4, q5⟩ := Cts.app_ok hc hkm
          have hcn : c.n = (cx.len + m) * s := by unfold Cts.n; rw [q3, q1, hcs]
          refine ⟨m, c, h, hcn, q3, fun w hw v hown ty => ?_⟩
          obtain ⟨hu, hse⟩ := (hT _ _ hi).und
          have hty := hT _ _ hte
          obtain ⟨f, zz, hf, hsf, hzf, hzc⟩ := hty.info
          obtain ⟨f', hf', hsz⟩ := hse
          rw [hf] at hf'; cases hf'
          cases b with
          | none =>
            have h0 : yb.cts.n = 0 := HB.ok.none_n' (hyb w hw) hC hnm
            have hm : m = 0 := by
              unfold Cts.n at h0; rw [hys] at h0
              rcases Nat.mul_eq_zero.1 h0 with h0 | h0 <;> omega
            subst hm
            refine ⟨v, w, append_nil (P := P) w t ty e f s hu hf hsz v _ _ _ hown cap0, World.grownBy.refl _ _, ?_⟩
            rcases hown.2 with ⟨e1, e2⟩ | ⟨g, cap, cur, e1, e2, e3, e4, e5, e6, e7⟩
            · exact .inl ⟨e1, by omega⟩
            · subst e1
              refine .inr ⟨g, cap, rfl, .inl rfl, by simp only [maxLen] at e5; omega, rfl, cur, e3, e6, by simp only [hcn]; exact Nat.mul_le_mul_right _ e4, fun o ho => ?_⟩
              simp only at ho ⊢
              have h8 := c.denL_flat ho
              rw [Cts.flat_app hc hkm, denL_append, List.range_zero, List.flatMap_nil, denL, List.append_nil, ← e7, List.getElem?_take, if_pos (by rw [hcn] at ho; simpa using ho)] at h8
              simpa using h8
          | some nm =>
            have hzs : zz.cells.size = s := by
              have : zz.cells.size = zz.cells.toList.length := by simp
              rw [this, hzc, denL_len, hzl]
            have hyok := hyb w hw
            have hnl : (denL ((List.range m).flatMap fun j => yb.cts.row (k + j))).length = m * s := by
              rw [denL_len, flatMap_range_len (fun j => yb.cts.row_len (k + j)), hys]
            have hget : ∀ (j : Nat), j < m * s → (denL ((List.range m).flatMap fun j => yb.cts.row (k + j)))[j]? = some (den (yb.cts.get (k * s + j))) ∧ k * s + j < yb.cts.n := fun j hj => by
              have h0 : 0 < s := hs1
              have hd : j / s < m := by rw [Nat.div_lt_iff_lt_mul h0]; exact hj
              have hm := Nat.mod_lt j h0
              have e2 : j = j / s * s + j % s := by rw [Nat.mul_comm]; exact (Nat.div_add_mod j _).symm
              have e3 : k * s + j = (k + j / s) * yb.cts.s + j % s := by rw [hys, Nat.add_mul]; omega
              refine ⟨?_, ?_⟩
              · rw [e3, yb.cts.get_at (by rw [hys]; exact hm)]
                conv => lhs; rw [e2, denL_map, List.getElem?_map]
                rw [flatMap_range_get (f := fun j => yb.cts.row (k + j)) (fun j => by rw [yb.cts.row_len, hys]) m _ _ hd hm]
                have hl : j % s < (yb.cts.row (k + j / s)).length := by rw [yb.cts.row_len, hys]; exact hm
                simp [hl]
              · rw [e3]; exact yb.cts.at_lt (by omega) (by rw [hys]; exact hm)
            obtain ⟨v', w', hr, hg, hv'⟩ := append_at (P := P) w t ty e f zz s te.x.bytes hu hf hzf hsz (hty.bytes hf) hzs hs1 v cx.len (denL cx.flat) hown ⟨nm.g, nm.b + k * s, none⟩ m cap0
              (denL ((List.range m).flatMap fun j => yb.cts.row (k + j))) hnl (fun j u hj => by
                have hlt : j < m * s := by have := (List.getElem?_eq_some_iff.1 hj).1; omega
                obtain ⟨g1, g2⟩ := hget j hlt
                rw [g1] at hj; cases hj
                rw [addr_add, Nat.add_assoc]
                exact hyok.cell hnm g2 (HB.isC_kd hC)) (fun u hu => by
                obtain ⟨j, hj⟩ := List.mem_iff_getElem?.1 hu
                have hlt : j < m * s := by have := (List.getElem?_eq_some_iff.1 hj).1; omega
                obtain ⟨g1, g2⟩ := hget j hlt
                rw [g1] at hj; cases hj
                exact Cts.ones_get hones g2) (by simp only [maxLen]; omega) hbytes
            refine ⟨v', w', hr, hg, ?_⟩
            rcases hv' with hv' | ⟨g, cap, cur, e1, e2, e3, e4, e5, e6, e7⟩
            · exact .inl hv'
            · refine .inr ⟨g, cap, e1, e2, by simp only [maxLen] at e5; omega, rfl, cur, e3, e6, by simp only [hcn]; exact Nat.mul_le_mul_right _ e4, fun o ho => ?_⟩
              simp only at ho ⊢
              have h8 := c.denL_flat ho
              rw [Cts.flat_app hc hkm, denL_append, ← e7, List.getElem?_take, if_pos (by omega)] at h8
              simpa using h8
        · exact h.elim
      · exact h.elim
  · exact h.elim

theorem grownBy_below {w w' : World} (h : w.grownBy w' none) : Below w.heap.size w w' := ⟨h.os, h.tape, h.output, h.size, fun k hk => h.block k hk (by simp)⟩

/-- A block turns that none of these touches, and that is none of the old ones. -/
theorem Holds.off {w0 w w' : World} {hp : List HB} {row : Option Nat} (h : Holds w0 w hp) (hng : ∀ c ∈ hp, c.isGh = false) (hg : w.grownBy w' row) (hr : ∀ g, row = some g → w0.heap.size ≤ g ∧ ∀ c ∈ hp, ¬ c.touch g) : Holds w0 w' hp := by
  refine ⟨Nat.le_trans h.size hg.size, fun hgh => ?_, fun c hc => ?_, h.own, h.sep⟩
  · obtain ⟨q1, q2, q3, q4⟩ := h.base hgh
    exact ⟨hg.os.trans q1, hg.tape.trans q2, hg.output.trans q3, fun k hk hn => (hg.block k (Nat.lt_of_lt_of_le hk h.size) fun e => by have := (hr k e.symm).1; omega).trans (q4 k hk hn)⟩
  · exact (h.blk c hc).keep (hng c hc) fun g ht => hg.block g ((h.blk c hc).lt ht) fun e => (hr g e.symm).2 c hc ht
theorem set_perm {α : Type} (x : α) : ∀ (l : List α) (i : Nat), i < l.length → (l.eraseIdx i ++ [x]).Perm (l.set i x)
  | [], i, h => by simp at h
  | y :: l, 0, h => by simp only [List.eraseIdx_zero, List.tail_cons, List.set_cons_zero]; exact List.perm_append_singleton x l
  | y :: l, i + 1, h => by simp only [List.eraseIdx_cons_succ, List.set_cons_succ, List.cons_append]; exact (set_perm x l i (by simpa using h)).cons y
/-! ### 'clear' of a part of a slice of cells -/
def clrX (xs : List Cel) (k n : Nat) : List Cel := xs.take k ++ (List.replicate n default ++ xs.drop (k + n))
theorem clrX_len (xs : List Cel) (k n : Nat) (h : k + n ≤ xs.length) : (clrX xs k n).length = xs.length := by simp [clrX]; omega
theorem clrX_getD (xs : List Cel) (k n j : Nat) (h : k + n ≤ xs.length) : (clrX xs k n).getD j default = if k ≤ j ∧ j < k + n then default else xs.getD j default := by
  unfold clrX
  simp only [List.getD_eq_getElem?_getD]
  by_cases h1 : j < k
  · rw [List.getElem?_append_left (by simp; omega), List.getElem?_take, if_pos h1, if_neg (by omega)]
  · rw [List.getElem?_append_right (by simp; omega)]
    have hl : (xs.take k).length = k := by simp; omega
    rw [hl]
    by_cases h2 : j < k + n
    · rw [List.getElem?_append_left (by simp; omega), List.getElem?_replicate, if_pos (by omega), if_pos ⟨by omega, h2⟩]; rfl
    · rw [List.getElem?_append_right (by simp; omega), List.getElem?_drop, List.length_replicate, if_neg (by omega)]
      rw [show k + n + (j - k - n) = j by omega]
def evClearS (T : List (Nat × TyI)) (t : TypeId) (x : SV) (hp : List HB) (K : List HB → Prop) : Prop :=
  match x with
  | .sl i a k s len _ => match hp[i]?, lookN T t with
    | some ⟨bn, own, .wr e c, .cx xs⟩, some ⟨.sli e' _, _, _, _⟩ => match lookN T e' with
      | some te => match te.x.et, Nat.beq s 4 && noGh hp with
        | .cel, true => (bn = a ∧ a.isSome = true ∧ k + len ≤ xs.length) ∧ setHK hp i ⟨bn, own, .wr e c, .cx (clrX xs k len)⟩ K
        | _, _ => False
      | none => False
    | _, _ => False
  | _ => False
theorem zeroCells_lit {z : Array Value} (hz : z.toList = denL ET.cel.zrow) (n : Nat) : (Builtin.zeroCells z n).toList = denL (List.replicate (n * 4) (.lit 0)) := by
  have hs : z.size = 4 := by
    have : z.size = z.toList.length := by simp
    rw [this, hz]; rfl
  have hz' : z = #[.int .i64 0, .int .i64 0, .int .i64 0, .int .i64 0] := by apply Array.ext'; rw [hz]; rfl
  rw [denL_map]
  simp only [Builtin.zeroCells, List.map_replicate, den, hs]
  apply List.ext_getElem
  · simp
  · intro i h1 h2
    have hi : i % 4 < 4 := Nat.mod_lt _ (by decide)
    simp only [Array.toList_map, Array.toList_range, List.getElem_map, List.getElem_range, List.getElem_replicate]
    rw [hz']
    have : i % 4 = 0 ∨ i % 4 = 1 ∨ i % 4 = 2 ∨ i % 4 = 3 := by omega
    rcases this with h | h | h | h <;> rw [h] <;> rfl
theorem evClearS_sound {P : Program} {T : List (Nat × TyI)} (hT : TOk P T) {t ty : TypeId} {x : SV} {hp : List HB} {K : List HB → Prop} (h : evClearS T t x hp K) {w0 w : World} (hw : Holds w0 w hp) :
    ∃ hp' w', K hp' ∧ (Builtin.clear_ #[t] ty #[den x]).run P w = .ok (den (.tup [])) w' ∧ Holds w0 w' hp' := by
  unfold evClearS at h
  split at h
  · rename_i i a k s len cap
    split at h
    · rename_i bn own e c xs e' sz _ _ _ hb ht
      split at h
      · rename_i te hte
        split at h
        · rename_i het hsg
          simp only [Bool.and_eq_true] at hsg
          have hs4 := Nat.eq_of_beq_eq_true hsg.1
          subst hs4
          obtain ⟨⟨rfl, ha, hk⟩, h⟩ := h
          rw [setHK_eq] at h
          obtain ⟨hu, _⟩ := (hT _ _ ht).und
          have hty := hT _ _ hte
          obtain ⟨f, zz, hf, hsf, hzf, hzc⟩ := hty.info
          have h0 := hty.et
          rw [het] at h0
          rw [show denL te.zero = denL ET.cel.zrow from h0] at hzc
          obtain ⟨nm, rfl⟩ := Option.isSome_iff_exists.mp ha
          have hxl := clrX_len xs k len hk
          have hn : (Cts.cx xs).n = xs.length * 4 := rfl
          have hzr : ∀ d, d < 4 → den ((default : Cel).svs.getD d .und) = .int .i64 0 := by
            intro d hd
            have : d = 0 ∨ d = 1 ∨ d = 2 ∨ d = 3 := by omega
            rcases this with rfl | rfl | rfl | rfl <;> rfl
          obtain ⟨w', hr, hw'⟩ := store_at (P := P) (c' := .cx (clrX xs k len)) hw hb hsg.2 (o := k * 4) (vs := List.replicate (len * 4) (.lit 0)) (by rw [hn, List.length_replicate, ← Nat.add_mul]; exact Nat.mul_le_mul_right _ hk)
            (fun u hu => by rw [denL_map] at hu; simp at hu; rw [hu.2]; rfl)
            (by show (clrX xs k len).length * 4 = xs.length * 4; rw [hxl])
            (fun j hj => by
              have hd : j % 4 < 4 := Nat.mod_lt _ (by decide)
              have e1 : ∀ ys : List Cel, (Cts.cx ys).get j = (ys.getD (j / 4) default).svs.getD (j % 4) .und := fun _ => rfl
              rw [e1, e1, clrX_getD xs k len _ hk, List.length_replicate]
              by_cases hin : k ≤ j / 4 ∧ j / 4 < k + len
              · rw [if_pos hin, if_pos (by omega), hzr _ hd]
                have : j - k * 4 < len * 4 := by omega
                simp [this, den]
              · rw [if_neg hin, if_neg (by omega)])
          refine ⟨_, w', h, ?_, hw'⟩
          cases len with
          | zero =>
            have e0 : (List.replicate (0 * 4) (SV.lit 0)) = [] := rfl
            rw [e0] at hr
            simp only [denL, storeCells, Sem.run_pure, Result.ok.injEq, true_and] at hr
            subst hr
            simp [Builtin.clear_, run_underlying hu, den, denL]
          | succ len =>
            have hr' := hr
            rw [← zeroCells_lit hzc] at hr'
            simp [Builtin.clear_, run_underlying hu, den, denL, zeroValue, typeInfo, hf, hzf, hr']
        · exact h.elim
      · exact h.elim
    · exact h.elim
  · exact h.elim
def evClr (T : List (Nat × TyI)) (t : TypeId) (x : SV) (hp : List HB) (K : List HB → Prop) : Prop :=
  match x with
  | .sl i a k s len cap => evClearS T t (.sl i a k s len cap) hp K
  | x => evClear T t x hp K
theorem evClr_sound {P : Program} {T : List (Nat × TyI)} (hT : TOk P T) {t ty : TypeId} {x : SV} {hp : List HB} {K : List HB → Prop} (h : evClr T t x hp K) {w0 w : World} (hw : Holds w0 w hp) :
    ∃ hp' w', K hp' ∧ (Builtin.clear_ #[t] ty #[den x]).run P w = .ok (den (.tup [])) w' ∧ Holds w0 w' hp' := by
  unfold evClr at h
  split at h
  · exact evClearS_sound hT h hw
  · exact evClear_sound hT h hw

/-- One block, our own, gives way to another one. -/
theorem Holds.replace {w0 w w' : World} {hp : List HB} (h : Holds w0 w hp) {i : Nat} {b b' : HB} {row : Option Nat} (hi : hp[i]? = some b) (ho : b.own = true) (hng : ∀ c ∈ hp, c.isGh = false) (hcl : ∀ g, row = some g → b.cl g)
    (hg : w.grownBy w' row) (hok : b'.ok w') (hgh : b'.isGh = false) (ht : ∀ g, b'.touch g → row = some g ∨ w.heap.size ≤ g) : Holds w0 w' (hp.set i b') := by
  have hlt : i < hp.length := (List.getElem?_eq_some_iff.1 hi).1
  have hsel' : hsel (hp.eraseIdx i) hp := by
    have : ∀ {hp : List HB} {i : Nat}, b.isGh = false → hp[i]? = some b → hsel (hp.eraseIdx i) hp := fun {hp} => by
      induction hp with
      | nil => intro i _ h; simp at h
      | cons c hp ih =>
        intro i hb h
        cases i with
        | zero => simp at h; subst h; exact .skip ⟨.inl ho, hb⟩ (hsel.refl _)
        | succ i => simp at h; exact .take (.refl c) (.inr fun _ h => h) (ih hb h)
    exact this (hng b (List.mem_of_getElem? hi)) hi
  have hmem : ∀ c ∈ hp.eraseIdx i, ∃ j, j ≠ i ∧ hp[j]? = some c := fun c hc => by
    obtain ⟨j, hj⟩ := List.mem_iff_getElem?.1 hc
    rw [List.getElem?_eraseIdx] at hj
    split at hj
    · exact ⟨j, by omega, hj⟩
    · exact ⟨j + 1, by omega, hj⟩
  have h1 := h.sel hsel'
  have hng1 : ∀ c ∈ hp.eraseIdx i, c.isGh = false := fun c hc => hng c (by obtain ⟨j, _, hj⟩ := hmem c hc; exact List.mem_of_getElem? hj)
  have hfree : ∀ g, row = some g → ∀ c ∈ hp.eraseIdx i, ¬ c.touch g := fun g hr c hc htc => by
    obtain ⟨j, hji, hj⟩ := hmem c hc
    exact h.sep i j b c g hi hj (fun e => hji e.symm) (hcl g hr) htc
  have h2 := h1.off hng1 hg fun g hr => ⟨h.own b (List.mem_of_getElem? hi) ho g (hcl g hr), hfree g hr⟩
  have none_ : ∀ g, b'.touch g → ∀ c ∈ hp.eraseIdx i, ¬ c.touch g := fun g htg c hc htc => by
    rcases ht g htg with hr | hr
    · exact hfree g hr c hc htc
    · obtain ⟨j, _, hj⟩ := hmem c hc
      have := (h.blk c (List.mem_of_getElem? hj)).lt htc
      omega
  refine (h2.push hok hgh (fun _ g hc => ?_) (fun g hc c hm => none_ g (.inl hc) c hm) fun g htg c hm hc => none_ g htg c hm (.inl hc)).perm (set_perm b' hp i hlt)
  rcases ht g (.inl hc) with hr | hr
  · exact h.own b (List.mem_of_getElem? hi) ho g (hcl g hr)
  · exact Nat.le_trans h.size hr

theorem evAppend_sound {P : Program} {T : List (Nat × TyI)} (hT : TOk P T) {t : TypeId} {x y : SV} {hp : List HB} {K : SV → List HB → Prop} (h : evAppend T t x y hp K) {w0 w : World} (hw : Holds w0 w hp) (ty : TypeId) :
    ∃ v hp' w', K v hp' ∧ (Builtin.append_ #[t, t] ty #[den x, den y]).run P w = .ok (den v) w' ∧ Holds w0 w' hp' := by
  unfold evAppend at h
  split at h
  · rename_i e s _ _ _ hi
    split at h
    · rename_i te hte
      split at h
      · rename_i hb
        simp only [Bool.and_eq_true] at hb
        have hzl := Nat.eq_of_beq_eq_true hb.1
        have hs1 := Nat.le_of_ble_eq_true hb.2.1
        have hng := noGh_mem hb.2.2
        split at h
        · split at h
          · rename_i cx hcx
            split at h
            · rename_i hcs
              have hcs := Nat.eq_of_beq_eq_true hcs
              obtain ⟨z1, _, _⟩ := ET.zeros_ok hcx
              have hfl : denL cx.flat = [] := List.eq_nil_of_length_eq_zero (by rw [denL_len, Cts.flat_len]; unfold Cts.n; rw [z1]; simp)
              obtain ⟨m, c, h, hcn, hcl, hrun⟩ := evAppend_run hT hi hte hzl hs1 hcs h
              obtain ⟨v', w', hr, hg, hv⟩ := hrun w hw.blk (.slice none 0 0) (by rw [z1, hfl]; exact World.ownsRow_nil w _ e s) ty
              rw [z1] at hcn hcl hv
              simp only [Nat.zero_add] at hcn hcl hv
              rcases hv with ⟨e1, e2⟩ | ⟨g, cap, e1, e2, e3, e4⟩
              · have h := h none 0 (by omega) (by omega)
                rw [lenK_eq, appK_eq] at h
                refine ⟨_, _, w', h, by rw [show den SV.nilsl = Value.slice none 0 0 by simp [den], hr, e1, e2]; simp [den], (hw.below (grownBy_below hg)).push ⟨by rw [hcn, e2]; simp, by simp⟩ rfl (fun _ g hc => by simp [HB.cl] at hc) (fun g hc => by simp [HB.cl] at hc) (fun g ht => by simp [HB.touch, HB.cl, HB.rd] at ht)⟩
              · have hgs : w.heap.size ≤ g := by
                  rcases e2 with e2 | e2
                  · simp [Value.ownBlock] at e2
                  · exact e2
                have h := h (some ⟨g, 0⟩) cap (fun _ => rfl) ⟨by obtain ⟨_, cs, _, _, q3, _⟩ := e4; simp only at q3; rw [hcn] at q3; exact Nat.le_of_mul_le_mul_right q3 (by omega), e3⟩
                rw [lenK_eq, appK_eq] at h
                have tch : ∀ g', (⟨some ⟨g, 0⟩, true, .wr e (cap * s), c⟩ : HB).touch g' → g' = g := fun g' ht => by
                  have : g = g' := by simpa [HB.touch, HB.cl, HB.rd] using ht
                  exact this.symm
                have hw1 := hw.below (grownBy_below hg)
                refine ⟨_, _, w', h, by rw [show den SV.nilsl = Value.slice none 0 0 by simp [den], hr, e1]; simp [den], hw1.push e4 rfl (fun _ g' hc => by rw [tch g' (.inl hc)]; exact Nat.le_trans hw.size hgs)
                  (fun g' hc c' hm htc => by have := (hw.blk c' hm).lt htc; rw [tch g' (.inl hc)] at this; omega) (fun g' ht c' hm hc => by have := (hw.blk c' hm).lt (.inl hc); rw [tch g' ht] at this; omega)⟩
            · exact h.elim
          · exact h.elim
        · rename_i i a k s' len cap
          split at h
          · rename_i an e' bc cx hbx
            split at h
            · rename_i hb2
              simp only [Bool.and_eq_true] at hb2
              have hs' := Nat.eq_of_beq_eq_true hb2.1
              have he' := Nat.eq_of_beq_eq_true hb2.2.1
              have hcs := Nat.eq_of_beq_eq_true hb2.2.2
              subst hs'; subst he'
              obtain ⟨⟨rfl, rfl, rfl, rfl, hcap⟩, h⟩ := h
              obtain ⟨m, c, h, hcn, hcl, hrun⟩ := evAppend_run hT hi hte hzl hs1 hcs h
              have hbok := hw.blk _ (List.mem_of_getElem? hbx)
              have hxn : cx.n = cx.len * s := by unfold Cts.n; rw [hcs]
              have hown : w.ownsRow (if (den (SV.sl i an 0 s cx.len cap)).ownBlock = none then w.heap.size else 0) e s (den (SV.sl i an 0 s cx.len cap)) cx.len (denL cx.flat) := by
                refine ⟨by rw [denL_len, Cts.flat_len, hxn], ?_⟩
                cases an with
                | none =>
                  obtain ⟨q1, q2⟩ := hbok
                  simp only at q1
                  have hl0 : cx.len = 0 := by
                    rw [hxn] at q1
                    rcases Nat.mul_eq_zero.1 q1 with h | h
                    · exact h
                    · omega
                  have hc0 : cap = 0 := by
                    rcases Nat.mul_eq_zero.1 q2 with h | h
                    · exact h
                    · omega
                  left; rw [hl0, hc0]; exact ⟨by simp [den], rfl⟩
                | some nm =>
                  obtain ⟨q0, cs, q1, q2, q3, q4⟩ := hbok
                  simp only at q3 q4
                  right
                  refine ⟨nm.g, cap, cs, by simp [den, q0], by simp [Value.ownBlock, den], q1, ?_, by simp only [maxLen]; omega, q2, ?_⟩
                  · rw [hxn] at q3; exact Nat.le_of_mul_le_mul_right q3 (by omega)
                  · apply List.ext_getElem?
                    intro o
                    by_cases ho : o < cx.n
                    · rw [List.getElem?_take, if_pos (by omega), cx.denL_flat ho]
                      have := q4 o ho
                      simpa using this
                    · rw [List.getElem?_eq_none (by simp; omega), List.getElem?_eq_none (by rw [denL_len, Cts.flat_len]; omega)]
              obtain ⟨v', w', hr, hg, hv⟩ := hrun w hw.blk _ hown ty
              have hob : ∀ g, (den (SV.sl i an 0 s cx.len cap)).ownBlock = some g → (⟨an, true, .wr e (cap * s), cx⟩ : HB).cl g := fun g hgo => by
                cases an with
                | none => simp [den, Value.ownBlock] at hgo
                | some nm => simpa [den, Value.ownBlock, HB.cl] using hgo
              rcases hv with ⟨e1, e2⟩ | ⟨g, cap', e1, e2, e3, e4⟩
              · have h := h none 0 (by omega) (by omega)
                rw [setHK_eq] at h
                refine ⟨_, _, w', h, by rw [hr, e1, e2]; simp [den], hw.replace hbx rfl hng hob hg ⟨by rw [hcn, e2]; simp, by simp⟩ rfl (fun g ht => by simp [HB.touch, HB.cl, HB.rd] at ht)⟩
              · have h := h (some ⟨g, 0⟩) cap' (fun _ => rfl) ⟨by obtain ⟨_, cs, _, _, q3, _⟩ := e4; simp only at q3; rw [hcn] at q3; exact Nat.le_of_mul_le_mul_right q3 (by omega), e3⟩
                rw [setHK_eq] at h
                refine ⟨_, _, w', h, by rw [hr, e1]; simp [den], hw.replace hbx rfl hng hob hg e4 rfl (fun g' ht => ?_)⟩
                have : g = g' := by simpa [HB.touch, HB.cl, HB.rd] using ht
                subst this
                exact e2
            · exact h.elim
          · exact h.elim
        · exact h.elim
      · exact h.elim
    · exact h.elim
  · exact h.elim

/-! ### One operation -/
def evECall (E : List (Nat × ECtr)) (fv : SV) (args : List SV) (hp : List HB) (K : SV → List HB → Prop) (K' : Prop) : Prop :=
  match fv with
  | .fn f first cap => match lookN E f with
    | some c => c (first ++ args ++ cap) hp K
    | none => K'
  | _ => K'
def evE (T : List (Nat × TyI)) (G : List (Nat × Ctr)) (E : List (Nat × ECtr)) (op : Op) (fr : List (Nat × SV)) (hp : List HB) (K : SV → List HB → Prop) : Prop :=
  match op with
  | .alloc t => evAlloc T t hp K
  | .box t x => withV (ev fr x) fun v => evBox t v hp K
  | .store t x v => withV (ev fr x) fun x => withV (ev fr v) fun v => evStore T t x v hp K
  | .makeSlice t l c => withV (ev fr l) fun l => withV (ev fr c) fun c => evMake T t l c hp K
  | .makeMap t none => evMakeMap T t hp K
  | .mapUpdate t m x v => withV (ev fr m) fun m => withV (ev fr x) fun x => withV (ev fr v) fun v => evMapPut T t m x v hp fun hp' => K .und hp'
  | .lookup t m x ok => withV (ev fr m) fun m => withV (ev fr x) fun x => evLook T t m x ok hp fun v => K v hp
  | .convert s d x => withV (ev fr x) fun v => match v with
    | .ptr i nm k st o => evConvP T s d (.ptr i nm k st o) hp fun v => K v hp
    | .sl i a k st n cap => match lookN T d with
      | some ⟨.strg, _, _, _⟩ => evBStr T s d (.sl i a k st n cap) hp fun v => K v hp
      | _ => evQ T G (.convert s d x) fr hp fun v => K v hp
    | _ => evQ T G (.convert s d x) fr hp fun v => K v hp
  | .call ⟨.builtin .unsafeSliceData, args, tys⟩ => match args.toList with
    | [x] => withV (ev fr x) fun x => evSlData x fun v => K v hp
    | _ => False
  | .call ⟨.builtin .unsafeString, args, tys⟩ => match args.toList, tys.toList with
    | [x, n], [t, _] => withV (ev fr x) fun x => withV (ev fr n) fun n => evUStr T t x n hp K
    | _, _ => False
  | .call ⟨.builtin .clear, args, tys⟩ => match args.toList, tys.toList with
    | [x], [t] => withV (ev fr x) fun x => evClr T t x hp fun hp' => K (.tup []) hp'
    | _, _ => False
  | .buildSlice t n ps => withPs fr ps.toList fun ps => evBuildSlice T t n ps hp K
  | .call ⟨.builtin .append, args, tys⟩ => match args.toList, tys.toList with
    | [x, y], [t, t'] => match Nat.beq t t' with
      | true => withV (ev fr x) fun x => withV (ev fr y) fun y => evAppend T t x y hp K
      | false => False
    | _, _ => False
  | .call ⟨.value f, args, tys⟩ => withV (ev fr f) fun f' => withVs fr args.toList fun xs => evECall E f' xs hp K (evQ T G (.call ⟨.value f, args, tys⟩) fr hp fun v => K v hp)
  | op => evQ T G op fr hp fun v => K v hp

/-- What comes of one operation in one world. -/
theorem evE_sound {P : Program} {T : List (Nat × TyI)} {G : List (Nat × Ctr)} {E : List (Nat × ECtr)} (hT : TOk P T) (hG : GsOk P G) (hE : EsOk P E) {N : Nat} {ds : List Nat} {o : Oper} {fr : List (Nat × SV)} {hp : List HB}
    {K : SV → List HB → Prop} (h : evE T G E o.op fr hp K) {a : Act} {w0 w : World} (hf : FrOk N ds fr a) (hw : Holds w0 w hp) {next : Act → World → Prop} {Q : Exit → Act → World → Prop}
    (hn : ∀ v hp' w', K v hp' → Holds w0 w' hp' → next (a.put o.dst (den v)) w') : o.wp P a w next Q := by
  have quiet : ∀ {v : SV}, K v hp → Yields P N ds fr hp o v → o.wp P a w next Q := fun {v} hK hy => by
    have := hy a w hf hw.blk
    unfold Oper.quietAt at this
    unfold Oper.wp
    generalize (execOp a.eval o).run P w = r at *
    cases r with
    | ok n w' =>
      cases n <;> simp only [Oper.quietUpon] at this <;> simp only [Oper.upon]
      case value u => obtain ⟨rfl, rfl⟩ := this; exact hn v hp _ hK hw
      case skip => obtain ⟨rfl, e⟩ := this; rw [← e]; exact hn v hp _ hK hw
      case enter f args =>
        obtain ⟨rfl, hc⟩ := this
        exact hc.mono fun e w'' ⟨he, hb⟩ => by subst he; exact hn v hp _ hK (hw.below hb)
    | halt x w' => simp only [Oper.quietUpon] at this
  obtain ⟨dst, op, ty, pos, after, guard⟩ := o
  simp only [evE] at h
  split at h
  · rename_i t
    unfold evAlloc at h
    split at h
    · rename_i i hi
      have hty := hT _ _ hi
      obtain ⟨f, z, hf1, _, hz, hzc⟩ := hty.info
      obtain ⟨v, hp', hK, hv, hw'⟩ := newBlk_sound h hw
      have hrun : (execOp a.eval ⟨dst, .alloc t, ty, pos, after, guard⟩).run P w = .ok (.value (den v)) (w.alloc (.cells (denL i.zero).toArray t)) := by
        have hzc' : z.cells = (denL i.zero).toArray := by rw [← hzc]
        simp [execOp, Instr.alloc, zeroValue, typeInfo, hf1, hz, newVar, newRow, hzc', ← hv]
      unfold Oper.wp
      rw [hrun]
      exact hn v hp' _ hK hw'
    · exact h.elim
  · rename_i t x
    obtain ⟨xv, hx, h⟩ := withV_iff h
    unfold evBox at h
    split at h
    · rename_i xs hxs
      obtain ⟨v, hp', hK, hv, hw'⟩ := newBlk_sound h hw
      have hrun : (execOp a.eval ⟨dst, .box t x, ty, pos, after, guard⟩).run P w = .ok (.value (den v)) (w.alloc (.cells (denL xs).toArray t)) := by
        simp [execOp, Instr.box, newVar, newRow, ev_sound hf hx, (SV.row_sound hxs).1, ← hv]
      unfold Oper.wp
      rw [hrun]
      exact hn v hp' _ hK hw'
    · exact h.elim
  · rename_i t x y
    obtain ⟨xv, hx, h⟩ := withV_iff h
    obtain ⟨yv, hy, h⟩ := withV_iff h
    obtain ⟨hp', w', hK, hr, hw'⟩ := evStore_sound hT h hw
    have hrun : (execOp a.eval ⟨dst, .store t x y, ty, pos, after, guard⟩).run P w = .ok .skip w' := by
      simp [execOp, ev_sound hf hx, ev_sound hf hy, hr]
    unfold Oper.wp
    rw [hrun]
    exact hn .und hp' _ hK hw'
  · rename_i t x y
    obtain ⟨xv, hx, h⟩ := withV_iff h
    obtain ⟨yv, hy, h⟩ := withV_iff h
    obtain ⟨v, hp', w', hK, hr, hw'⟩ := evMake_sound hT h hw
    have hrun : (execOp a.eval ⟨dst, .makeSlice t x y, ty, pos, after, guard⟩).run P w = .ok (.value (den v)) w' := by
      simp [execOp, ev_sound hf hx, ev_sound hf hy, hr]
    unfold Oper.wp
    rw [hrun]
    exact hn v hp' _ hK hw'
  · rename_i t
    obtain ⟨v, hp', hK, hv, hw'⟩ := evMakeMap_sound hT h hw
    have hrun : (execOp a.eval ⟨dst, .makeMap t none, ty, pos, after, guard⟩).run P w = .ok (.value (den v)) (w.alloc (.map #[] 0)) := by
      simp [execOp, Instr.makeMap, ← hv]
    unfold Oper.wp
    rw [hrun]
    exact hn v hp' _ hK hw'
  · rename_i t m x y
    obtain ⟨mv, hm, h⟩ := withV_iff h
    obtain ⟨xv, hx, h⟩ := withV_iff h
    obtain ⟨yv, hy, h⟩ := withV_iff h
    obtain ⟨hp', w', hK, hr, hw'⟩ := evMapPut_sound hT h hw
    have hrun : (execOp a.eval ⟨dst, .mapUpdate t m x y, ty, pos, after, guard⟩).run P w = .ok .skip w' := by
      simp [execOp, ev_sound hf hm, ev_sound hf hx, ev_sound hf hy, hr]
    unfold Oper.wp
    rw [hrun]
    exact hn .und hp' _ hK hw'
  · rename_i t m x ok
    obtain ⟨mv, hm, h⟩ := withV_iff h
    obtain ⟨xv, hx, h⟩ := withV_iff h
    obtain ⟨v, hK, hr⟩ := evLook_sound hT h hw
    have hrun : (execOp a.eval ⟨dst, .lookup t m x ok, ty, pos, after, guard⟩).run P w = .ok (.value (den v)) w := by
      simp [execOp, ev_sound hf hm, ev_sound hf hx, hr]
    unfold Oper.wp
    rw [hrun]
    exact hn v hp _ hK hw
  · rename_i s d x
    obtain ⟨xv, hx, h⟩ := withV_iff h
    split at h
    · obtain ⟨v, hK, hr⟩ := evConvP_sound hT h hw
      have hrun : (execOp a.eval ⟨dst, .convert s d x, ty, pos, after, guard⟩).run P w = .ok (.value (den v)) w := by
        simp [execOp, ev_sound hf hx, hr]
      unfold Oper.wp
      rw [hrun]
      exact hn v hp _ hK hw
    · split at h
      · obtain ⟨v, hK, hr⟩ := evBStr_sound hT h hw
        have hrun : (execOp a.eval ⟨dst, .convert s d x, ty, pos, after, guard⟩).run P w = .ok (.value (den v)) w := by
          simp [execOp, ev_sound hf hx, hr]
        unfold Oper.wp
        rw [hrun]
        exact hn v hp _ hK hw
      · obtain ⟨v, hK, hy⟩ := evQ_sound (N := N) (ds := ds) (o := ⟨dst, .convert s d x, ty, pos, after, guard⟩) hT hG h
        exact quiet hK hy
    · obtain ⟨v, hK, hy⟩ := evQ_sound (N := N) (ds := ds) (o := ⟨dst, .convert s d x, ty, pos, after, guard⟩) hT hG h
      exact quiet hK hy
  · rename_i args tys
    split at h
    · rename_i x ha
      obtain ⟨xv, hx, h⟩ := withV_iff h
      obtain ⟨v, hK, hr⟩ := evSlData_sound (P := P) h tys ty w
      have ha : args = #[x] := by apply Array.ext'; simpa using ha
      subst ha
      have hrun : (execOp a.eval ⟨dst, .call ⟨.builtin .unsafeSliceData, #[x], tys⟩, ty, pos, after, guard⟩).run P w = .ok (.value (den v)) w := by
        simp [execOp, resolve, invoke, builtin, ev_sound hf hx, hr]
      unfold Oper.wp
      rw [hrun]
      exact hn v hp _ hK hw
    · exact h.elim
  · rename_i args tys
    split at h
    · rename_i x y t t' ha ht
      obtain ⟨xv, hx, h⟩ := withV_iff h
      obtain ⟨yv, hy, h⟩ := withV_iff h
      obtain ⟨v, hp', w', hK, hr, hw'⟩ := evUStr_sound (it := t') (ty := ty) hT h hw
      have ha : args = #[x, y] := by apply Array.ext'; simpa using ha
      have ht : tys = #[t, t'] := by apply Array.ext'; simpa using ht
      subst ha; subst ht
      have hrun : (execOp a.eval ⟨dst, .call ⟨.builtin .unsafeString, #[x, y], #[t, t']⟩, ty, pos, after, guard⟩).run P w = .ok (.value (den v)) w' := by
        simp [execOp, resolve, invoke, builtin, ev_sound hf hx, ev_sound hf hy, hr]
      unfold Oper.wp
      rw [hrun]
      exact hn v hp' _ hK hw'
    · exact h.elim
  · rename_i args tys
    split at h
    · rename_i x t ha ht
      obtain ⟨xv, hx, h⟩ := withV_iff h
      obtain ⟨hp', w', hK, hr, hw'⟩ := evClr_sound (ty := ty) hT h hw
      have ha : args = #[x] := by apply Array.ext'; simpa using ha
      have ht : tys = #[t] := by apply Array.ext'; simpa using ht
      subst ha; subst ht
      have hrun : (execOp a.eval ⟨dst, .call ⟨.builtin .clear, #[x], #[t]⟩, ty, pos, after, guard⟩).run P w = .ok (.value (den (.tup []))) w' := by
        simp [execOp, resolve, invoke, builtin, ev_sound hf hx, hr]
      unfold Oper.wp
      rw [hrun]
      exact hn _ hp' _ hK hw'
    · exact h.elim
  · rename_i t n ps
    obtain ⟨vs, h, hvs⟩ := withPs_iff h
    obtain ⟨v, hp', w', hK, hr, hw'⟩ := evBuildSlice_sound hT h hw
    have e : (ps.map fun x => (x.1, a.eval x.2)) = (vs.map fun p => (p.1, den p.2)).toArray := by
      apply Array.ext'
      rw [← hvs hf]; simp
    have hrun : (execOp a.eval ⟨dst, .buildSlice t n ps, ty, pos, after, guard⟩).run P w = .ok (.value (den v)) w' := by
      simp [execOp, e, hr]
    unfold Oper.wp
    rw [hrun]
    exact hn v hp' _ hK hw'
  · rename_i args tys
    split at h
    · rename_i x y t t' ha ht
      split at h
      · rename_i htt
        have := Nat.eq_of_beq_eq_true htt
        subst this
        obtain ⟨xv, hx, h⟩ := withV_iff h
        obtain ⟨yv, hy, h⟩ := withV_iff h
        obtain ⟨v, hp', w', hK, hr, hw'⟩ := evAppend_sound hT h hw ty
        have ha : args = #[x, y] := by apply Array.ext'; simpa using ha
        have ht : tys = #[t, t] := by apply Array.ext'; simpa using ht
        subst ha; subst ht
        have hrun : (execOp a.eval ⟨dst, .call ⟨.builtin .append, #[x, y], #[t, t]⟩, ty, pos, after, guard⟩).run P w = .ok (.value (den v)) w' := by
          simp [execOp, resolve, invoke, builtin, ev_sound hf hx, ev_sound hf hy, hr]
        unfold Oper.wp
        rw [hrun]
        exact hn v hp' _ hK hw'
      · exact h.elim
    · exact h.elim
  · rename_i f args tys
    obtain ⟨fv, hfv, h⟩ := withV_iff h
    obtain ⟨xs, h, hxs⟩ := withVs_iff h
    have other : evQ T G (.call ⟨.value f, args, tys⟩) fr hp (fun v => K v hp) → Oper.wp P ⟨dst, .call ⟨.value f, args, tys⟩, ty, pos, after, guard⟩ a w next Q := fun h => by
      obtain ⟨v, hK, hy⟩ := evQ_sound (N := N) (ds := ds) (o := ⟨dst, .call ⟨.value f, args, tys⟩, ty, pos, after, guard⟩) hT hG h
      exact quiet hK hy
    unfold evECall at h
    split at h
    · rename_i fid first cap _
      split at h
      · rename_i c hc
        obtain ⟨hen, hok⟩ := hE _ _ hc
        have e1 : args.map a.eval = (denL xs).toArray := by apply Array.ext'; rw [← hxs hf]; simp
        have e2 := ev_sound hf hfv
        have hrun : (execOp a.eval ⟨dst, .call ⟨.value f, args, tys⟩, ty, pos, after, guard⟩).run P w = .ok (.enter fid (denL (first ++ xs ++ cap)).toArray) w := by
          simp only [execOp, resolve, e2, den, Deferred.ofValue, Sem.run_bind, Sem.run_pure, Result.andThen_ok, invoke, e1]
          rw [run_callFunc hen]
          simp [denL_map]
        unfold Oper.wp
        rw [hrun]
        exact (hok _ _ _ h w0 w hw).mono fun e w' ⟨v, hp', hK, he, hw'⟩ => by subst he; exact hn v hp' w' hK hw'
      · exact other h
    · exact other h
  · obtain ⟨v, hK, hy⟩ := evQ_sound (N := N) (ds := ds) (o := ⟨dst, op, ty, pos, after, guard⟩) hT hG h
    exact quiet hK hy
end Go.Sy
