/- Small goals that walks leave. -/
import Derived.Test.YtbjgdlmiofgdnaaSyI
set_option linter.unusedSimpArgs false
set_option linter.unusedVariables false
namespace Go.Sy
theorem res_ff {b : Bool} (h : b = false) : den (ofConst (.bool false)) = den (.bool (.atom b)) := by subst h; simp [den, den_ofConst, BF.b]
theorem res_tt {b : Bool} (h : b = true) : den (ofConst (.bool true)) = den (.bool (.atom b)) := by subst h; simp [den, den_ofConst, BF.b]
theorem res_f' {b : Bool} (h : b = false) : den (.bool .ff) = den (.bool (.atom b)) := by subst h; rfl
theorem res_t' {b : Bool} (h : b = true) : den (.bool .tt) = den (.bool (.atom b)) := by subst h; rfl
theorem res_b {f : BF} {b : Bool} (h : f.b = b) : den (.bool f) = den (.bool (.atom b)) := by subst h; rfl
theorem opt_getD {a : Option Nm} (h : a.isSome = true) (d : Nm) : a = some (a.getD d) := by cases a with
  | none => cases h
  | some x => rfl
theorem isSome_of {a : Option Nm} (h : a.isNone = false) : a.isSome = true := by cases a with
  | none => cases h
  | some x => rfl
theorem nil_of {α : Type} {l : List α} {a : Option Nm} (h : 0 < l.length → a.isSome = true) (hn : a.isNone = true) : l = [] := by
  cases l with
  | nil => rfl
  | cons x xs => have := h (by simp); cases a with
    | none => cases this
    | some y => cases hn
theorem mul_bd {a b : Int} (h1 : 1 ≤ a) (h2 : a ≤ 64) (h3 : 1 ≤ b) (h4 : b ≤ 64) : 1 ≤ a * b ∧ a * b ≤ 4096 := by
  have h5 : a * 1 ≤ a * b := Int.mul_le_mul_of_nonneg_left h3 (by omega)
  have h6 : a * b ≤ a * 64 := Int.mul_le_mul_of_nonneg_left h4 (by omega)
  omega
theorem int_eq {a b : Int} (h : a = b) : den (.int .i64 a) = den (.int .i64 b) := by rw [h]
theorem lit_eq {a b : Int} (h : a = b) : den (.lit a) = den (.int .i64 b) := by rw [h]; rfl
theorem cst_eq {a b : Int} (h : a = b) : den (ofConst (.int .i64 a)) = den (.int .i64 b) := by rw [den_ofConst, h]; rfl
theorem fsub_goal {fr F : List (Nat × SV)} (h : fsub fr F) : fsub fr F := h
theorem beq_goal {a b : Nat} (h : a.beq b = true) : a.beq b = true := h
theorem ble2_goal {a b : Nat} (h : a.ble b = true) : a.ble b = true := h
theorem takes_goal {T : List Nat} {p : Plan} (h : p.takes T = true) : p.takes T = true := h
theorem drop_goal {full : List Oper} {T ls is : List Nat} (h : dropOk full T ls is = true) : dropOk full T ls is = true := h
theorem held_goal {hp : List HB} {H : List (Nat × Option (Nat × HB))} (h : heldC hp H) : heldC hp H := h
theorem held_mk {hp : List HB} {i j : Nat} {b : HB} {r : List (Nat × Option (Nat × HB))} (h : hp[j]? = some b) (hr : heldC hp r) : heldC hp ((i, some (j, b)) :: r) := ⟨h, hr⟩
theorem held_no {hp : List HB} {i : Nat} {r : List (Nat × Option (Nat × HB))} (hr : heldC hp r) : heldC hp ((i, none) :: r) := hr
theorem splitN_zero {ix : Int} {j : Nat} {K : Nat → Prop} : splitN ix 0 j K := trivial
theorem cx_eq {a b : List Cel} (h : a = b) : Cts.cx a = Cts.cx b := by rw [h]
theorem ix_eq {a b : List Int} (h : a = b) : Cts.ix a = Cts.ix b := by rw [h]
theorem band_goal {a b : Bool} (h : a = true) (h2 : b = true) : (a && b) = true := by subst h; subst h2; rfl
end Go.Sy
