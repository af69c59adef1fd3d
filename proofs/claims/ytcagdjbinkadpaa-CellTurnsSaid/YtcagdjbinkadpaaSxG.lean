/- The table's rows, made. -/
import Derived.Test.YtcagdjbinkadpaaSxF
set_option linter.unusedSimpArgs false
set_option linter.unusedVariables false
namespace Go.Sx
open Go.RowKit

theorem SzOk.mk' {P : Program} {e s : Nat} (h : (P.info? e).map (·.size) = some s) : SzOk P e s := by
  cases hi : P.info? e with
  | none => rw [hi] at h; cases h
  | some i => rw [hi] at h; cases h; exact ⟨i, hi, rfl⟩
theorem TyOk.mk' {P : Program} {t : TypeId} {z : Value} {s : Nat} {k : TK} {zs : List SV} (h : (P.info? t).map (fun i => (i.zero, i.size)) = some (some z, s)) (hz : z.cells.toList = denL zs) (hk : KOk P t k) : TyOk P t ⟨k, s, zs, false⟩ := by
  cases hi : P.info? t with
  | none => rw [hi] at h; cases h
  | some i =>
    rw [hi] at h
    simp only [Option.map_some, Option.some.injEq, Prod.mk.injEq] at h
    exact ⟨⟨i, z, hi, h.2, h.1, hz⟩, hk, fun h => by cases h⟩
theorem TyOk.eqI {P : Program} {t : TypeId} {s : Nat} {k : TK} {zs : List SV} (h : TyOk P t ⟨k, s, zs, false⟩) (hg : P.eqGuardType P.depth t = false)
    (he : ∀ xs ys : List Int, xs.length = s → ys.length = s → ∀ w, (Op.equalIn 10000 t (.agg (ints xs)) (.agg (ints ys))).run P w = .ok (xs == ys) w) : TyOk P t ⟨k, s, zs, true⟩ :=
  ⟨h.info, h.und, fun _ => ⟨hg, he⟩⟩

/-- Flat structs of whole numbers. -/
def FlatInt (P : Program) : Nat → List Field → Prop
  | _, [] => True
  | i, f :: fs => f.name ≠ "_" ∧ f.offset = i ∧ P.underlying f.type = some (.int .i64) ∧ FlatInt P (i + 1) fs

theorem part_int {P : Program} {t : TypeId} (h : P.underlying t = some (.int .i64)) (xs : List Int) (i : Nat) (x : Int) (hx : xs[i]? = some x) (w : World) : (part t (ints xs) i).run P w = .ok (.int .i64 x) w := by
  simp [part, isAgg, run_underlying h, ints, hx]

theorem run_flat {P : Program} (d : Nat) (xs ys : List Int) : ∀ (fs : List Field) (i : Nat), FlatInt P i fs → xs.length = i + fs.length → ys.length = i + fs.length → ∀ w,
    (Op.eqFields (d + 1) (ints xs) (ints ys) fs).run P w = .ok (xs.drop i == ys.drop i) w
  | [], i, _, hx, hy, w => by
    have h1 : xs.drop i = [] := List.drop_eq_nil_of_le (by simp at hx; omega)
    have h2 : ys.drop i = [] := List.drop_eq_nil_of_le (by simp at hy; omega)
    simp [Op.eqFields, h1, h2]
  | f :: fs, i, ⟨hn, ho, hu, hf⟩, hx, hy, w => by
    simp only [List.length_cons] at hx hy
    have hx' : xs[i]? = some xs[i] := List.getElem?_eq_getElem (by omega)
    have hy' : ys[i]? = some ys[i] := List.getElem?_eq_getElem (by omega)
    have e1 := List.drop_eq_getElem_cons (l := xs) (i := i) (by omega)
    have e2 := List.drop_eq_getElem_cons (l := ys) (i := i) (by omega)
    have hr := run_flat d xs ys fs (i + 1) hf (by omega) (by omega) w
    rw [e1, e2]
    simp only [Op.eqFields, ne_eq, hn, not_false_eq_true, if_true, Sem.run_bind, ho, part_int hu xs i _ hx', part_int hu ys i _ hy', Result.andThen_ok, run_equalIn_int _ _ _ _ _ _ _ hu, Sem.run_ite, hr, List.cons_beq_cons]
    by_cases hxy : xs[i] = ys[i]
    · simp [hxy]
    · simp [hxy]

theorem eqI_struct {P : Program} {t : TypeId} {fs : Array Field} {s : Nat} (hu : P.underlying t = some (.struct fs)) (hp : P.stoodInHeld t = false) (hf : FlatInt P 0 fs.toList) (hs : fs.size = s) :
    ∀ xs ys : List Int, xs.length = s → ys.length = s → ∀ w, (Op.equalIn 10000 t (.agg (ints xs)) (.agg (ints ys))).run P w = .ok (xs == ys) w := fun xs ys hx hy w => by
  have hff : P.fieldsOf t = fs := by simp [Program.fieldsOf, hu]
  rw [run_equalIn_struct w 9999 t _ _ (by rw [hff]; exact hu) hp, hff]
  have := run_flat 9998 xs ys fs.toList 0 hf (by simp; omega) (by simp; omega) w
  simpa using this

theorem run_array4 {P : Program} {t e : TypeId} (hu : P.underlying t = some (.array 4 e)) (he : P.underlying e = some (.int .i64)) (hs : SzOk P e 1) (k : Nat) (a b c d a' b' c' d' : Int) (w : World) :
    (Op.equalIn (k + 2) t (.agg (ints [a, b, c, d])) (.agg (ints [a', b', c', d']))).run P w = .ok ([a, b, c, d] == [a', b', c', d']) w := by
  have hpart : ∀ (xs : List Int) (i : Nat) (x : Int), xs[i]? = some x → ∀ w, (part e (ints xs) i).run P w = .ok (.int .i64 x) w := fun xs i x h w => part_int he xs i x h w
  have heq : ∀ a b w, (Op.equalIn (k + 1) e (.int .i64 a) (.int .i64 b)).run P w = .ok (a == b) w := fun a b w => run_equalIn_int w k e _ _ a b he
  rw [Op.equalIn]
  simp only [Sem.run_bind, run_underlying hu, Result.andThen_ok, run_sizeOf hs, Std.Legacy.Range.forIn_eq_forIn_range', Std.Legacy.Range.size]
  have r4 : List.range' 0 ((4 - 0 + 1 - 1) / 1) 1 = [0, 1, 2, 3] := rfl
  rw [r4]
  by_cases h1 : a = a'
  · by_cases h2 : b = b'
    · by_cases h3 : c = c'
      · by_cases h4 : d = d' <;> simp [hpart _ 0 a, hpart _ 0 a', hpart _ 1 b, hpart _ 1 b', hpart _ 2 c, hpart _ 2 c', hpart _ 3 d, hpart _ 3 d', heq, h1, h2, h3, h4]
      · simp [hpart _ 0 a, hpart _ 0 a', hpart _ 1 b, hpart _ 1 b', hpart _ 2 c, hpart _ 2 c', heq, h1, h2, h3]
    · simp [hpart _ 0 a, hpart _ 0 a', hpart _ 1 b, hpart _ 1 b', heq, h1, h2]
  · simp [hpart _ 0 a, hpart _ 0 a', heq, h1]

theorem eqI_array4 {P : Program} {t e : TypeId} (hu : P.underlying t = some (.array 4 e)) (he : P.underlying e = some (.int .i64)) (hs : SzOk P e 1) :
    ∀ xs ys : List Int, xs.length = 4 → ys.length = 4 → ∀ w, (Op.equalIn 10000 t (.agg (ints xs)) (.agg (ints ys))).run P w = .ok (xs == ys) w := fun xs ys hx hy w => by
  match xs, hx, ys, hy with
  | [a, b, c, d], _, [a', b', c', d'], _ => exact run_array4 hu he hs 9998 a b c d a' b' c' d' w
end Go.Sx
