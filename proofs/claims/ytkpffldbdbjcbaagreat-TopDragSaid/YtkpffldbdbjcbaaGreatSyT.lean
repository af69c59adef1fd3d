/- The table's rows, made; '==' on nested types of whole numbers. -/
import Derived.Test.YtkpffldbdbjcbaaGreatSyC
import Derived.Laws.StructEq
set_option linter.unusedSimpArgs false
set_option linter.unusedVariables false
namespace Go.Sy
open Go.RowKit

theorem SzOk.mk' {P : Program} {e s : Nat} (h : (P.info? e).map (·.size) = some s) : SzOk P e s := by
  cases hi : P.info? e with
  | none => rw [hi] at h; cases h
  | some i => rw [hi] at h; cases h; exact ⟨i, hi, rfl⟩
theorem TyOk.mk' {P : Program} {t : TypeId} {z : Value} {s by_ : Nat} {k : TK} {zs : List SV} {et : ET} (h : (P.info? t).map (fun i => (i.zero, i.size, i.bytes)) = some (some z, s, by_)) (hz : z.cells.toList = denL zs) (hk : KOk P t k)
    (he : match et with | .no => True | e => denL zs = denL e.zrow) (hm : et ≠ .mrk := by intro h; cases h) : TyOk P t ⟨k, s, zs, ⟨false, by_, et⟩⟩ := by
  cases hi : P.info? t with
  | none => rw [hi] at h; cases h
  | some i =>
    rw [hi] at h
    simp only [Option.map_some, Option.some.injEq, Prod.mk.injEq] at h
    exact ⟨⟨i, z, hi, h.2.1, h.1, hz⟩, hk, by simp [hi, h.2.2], he, (fun h => by cases h), fun h => absurd h hm⟩
theorem TyOk.eqI {P : Program} {t : TypeId} {s by_ : Nat} {k : TK} {zs : List SV} {et : ET} (h : TyOk P t ⟨k, s, zs, ⟨false, by_, et⟩⟩) (hg : P.eqGuardType P.depth t = false)
    (he : ∀ xs ys : List Int, xs.length = s → ys.length = s → ∀ w, (Op.equalIn 10000 t (.agg (ints xs)) (.agg (ints ys))).run P w = .ok (xs == ys) w) : TyOk P t ⟨k, s, zs, ⟨true, by_, et⟩⟩ :=
  ⟨h.info, h.und, h.by_, h.et, (fun _ => ⟨hg, he⟩), h.eqm⟩
/-- A number with a truth value: '==' on such. -/
theorem TyOk.mkM {P : Program} {t : TypeId} {s by_ : Nat} {k : TK} {zs : List SV} (h : TyOk P t ⟨k, s, zs, ⟨false, by_, .no⟩⟩) (hz : denL zs = denL ET.mrk.zrow) (hg : P.eqGuardType P.depth t = false)
    (he : ∀ (x y : Int) (p q : Bool) w, (Op.equalIn 10000 t (.agg #[.int .i64 x, .bool p]) (.agg #[.int .i64 y, .bool q])).run P w = .ok (x == y && p == q) w) : TyOk P t ⟨k, s, zs, ⟨false, by_, .mrk⟩⟩ :=
  ⟨h.info, h.und, h.by_, hz, (fun h => by cases h), fun _ => ⟨hg, he⟩⟩
theorem eqM {P : Program} {t : TypeId} {fs : Array Field} {f1 f2 : Field} (hu : P.underlying t = some (.struct fs)) (hfs : fs.toList = [f1, f2]) (hp : P.stoodInHeld t = false) (n1 : f1.name ≠ "_") (n2 : f2.name ≠ "_") (o1 : f1.offset = 0) (o2 : f2.offset = 1)
    (u1 : P.underlying f1.type = some (.int .i64)) (u2 : P.underlying f2.type = some .bool) (x y : Int) (p q : Bool) (w : World) : (Op.equalIn 10000 t (.agg #[.int .i64 x, .bool p]) (.agg #[.int .i64 y, .bool q])).run P w = .ok (x == y && p == q) w := by
  have hff : P.fieldsOf t = fs := by simp [Program.fieldsOf, hu]
  have p1 : ∀ (v1 v2 : Value) w, (part f1.type #[v1, v2] 0).run P w = .ok v1 w := fun v1 v2 w => by simp [part, isAgg, run_underlying u1]
  have p2 : ∀ (v1 v2 : Value) w, (part f2.type #[v1, v2] 1).run P w = .ok v2 w := fun v1 v2 w => by simp [part, isAgg, run_underlying u2]
  rw [show (10000 : Nat) = 9998 + 1 + 1 from rfl, run_equalIn_struct w (9998 + 1) t _ _ (by rw [hff]; exact hu) hp, hff, hfs]
  simp only [Op.eqFields, ne_eq, n1, n2, not_false_eq_true, if_true, Sem.run_bind, o1, o2, p1, p2, Result.andThen_ok, run_equalIn_int _ 9998 f1.type .i64 .i64 _ _ u1, run_equalIn_bool' _ 9998 f2.type _ _ u2, Sem.run_ite, Sem.run_pure]
  cases (x == y) <;> cases (p == q) <;> simp
theorem part_int {P : Program} {t : TypeId} (h : P.underlying t = some (.int .i64)) (xs : List Int) (i : Nat) (x : Int) (hx : xs[i]? = some x) (w : World) : (part t (ints xs) i).run P w = .ok (.int .i64 x) w := by
  simp [part, isAgg, run_underlying h, ints, hx]

def FFs (P : Program) (F : TypeId → Nat → Prop) : Nat → List Field → Nat → Prop
  | off, [], n => off = n
  | off, f :: fs, n => f.name ≠ "_" ∧ f.offset = off ∧ ∃ c, SzOk P f.type c ∧ F f.type c ∧ FFs P F (off + c) fs n
def FlatI (P : Program) : Nat → TypeId → Nat → Prop
  | 0, t, n => P.underlying t = some (.int .i64) ∧ n = 1
  | d + 1, t, n => FlatI P d t n ∨ (∃ m e c, P.underlying t = some (.array m e) ∧ SzOk P e c ∧ FlatI P d e c ∧ n = m * c) ∨
      (∃ fs, P.underlying t = some (.struct fs) ∧ P.stoodInHeld t = false ∧ FFs P (FlatI P d) 0 fs.toList n)
def FV (P : Program) (t : TypeId) (xs : List Int) : Value :=
  match P.underlying t with
  | some (.int _) => .int .i64 (xs.getD 0 0)
  | _ => .agg (ints xs)

def PartI (P : Program) (t : TypeId) (n : Nat) : Prop := ∀ (xs : List Int) off, off + n ≤ xs.length → ∀ w, (part t (ints xs) off).run P w = .ok (FV P t ((xs.drop off).take n)) w

theorem partI_int {P : Program} {t : TypeId} (hu : P.underlying t = some (.int .i64)) : PartI P t 1 := fun xs off h w => by
  have e : xs[off]? = some xs[off] := List.getElem?_eq_getElem (by omega)
  rw [part_int hu xs off _ e]
  have : (xs.drop off).take 1 = [xs[off]] := by rw [List.drop_eq_getElem_cons (by omega)]; rfl
  simp [FV, hu, this]
theorem partI_agg {P : Program} {t : TypeId} {n : Nat} (hs : SzOk P t n) (ha : ∀ w, (isAgg t).run P w = .ok true w) (hu : ∀ xs, FV P t xs = .agg (ints xs)) : PartI P t n := fun xs off h w => by
  simp only [part, Sem.run_bind, ha, Result.andThen_ok, if_true, run_sizeOf hs, Sem.run_pure, hu]
  congr 2
  apply Array.ext'
  simp only [ints, List.extract_toArray, List.extract_eq_take_drop, Nat.add_sub_cancel_left, List.map_take, List.map_drop]

theorem run_eqItems {P : Program} {d : Nat} {e : TypeId} {c : Nat} (hE : ∀ xs ys, xs.length = c → ys.length = c → ∀ w, (Op.equalIn d e (FV P e xs) (FV P e ys)).run P w = .ok (xs == ys) w) (hP : PartI P e c) :
    ∀ (k j : Nat) (xs ys : List Int), xs.length = (j + k) * c → ys.length = (j + k) * c → ∀ w, (Op.eqItems d e c (ints xs) (ints ys) (List.range' j k)).run P w = .ok (xs.drop (j * c) == ys.drop (j * c)) w
  | 0, j, xs, ys, hx, hy, w => by
    have h1 : xs.drop (j * c) = [] := List.drop_eq_nil_of_le (by simp [hx])
    have h2 : ys.drop (j * c) = [] := List.drop_eq_nil_of_le (by simp [hy])
    simp [Op.eqItems, h1, h2]
  | k + 1, j, xs, ys, hx, hy, w => by
    have hm : (j + (k + 1)) * c = j * c + c + k * c := by rw [Nat.add_mul, Nat.add_mul]; omega
    have l1 : ((xs.drop (j * c)).take c).length = c := by simp; omega
    have l2 : ((ys.drop (j * c)).take c).length = c := by simp; omega
    have ih := run_eqItems hE hP k (j + 1) xs ys (by rw [hx]; congr 1; omega) (by rw [hy]; congr 1; omega) w
    have e1 : xs.drop (j * c) = (xs.drop (j * c)).take c ++ xs.drop ((j + 1) * c) := by rw [show (j + 1) * c = j * c + c by rw [Nat.add_mul]; omega, ← List.drop_drop, List.take_append_drop]
    have e2 : ys.drop (j * c) = (ys.drop (j * c)).take c ++ ys.drop ((j + 1) * c) := by rw [show (j + 1) * c = j * c + c by rw [Nat.add_mul]; omega, ← List.drop_drop, List.take_append_drop]
    rw [List.range'_succ]
    simp only [Op.eqItems, Sem.run_bind, hP xs (j * c) (by omega), hP ys (j * c) (by omega), Result.andThen_ok, hE _ _ l1 l2, Sem.run_ite, ih, Sem.run_pure]
    rw [Bool.eq_iff_iff.2 (show (xs.drop (j * c) == ys.drop (j * c)) = true ↔ ((xs.drop (j * c)).take c == (ys.drop (j * c)).take c && xs.drop ((j + 1) * c) == ys.drop ((j + 1) * c)) = true by
      simp only [Bool.and_eq_true, beq_iff_eq]
      constructor
      · intro h; rw [e1, e2] at h; exact List.append_inj h (by rw [l1, l2])
      · rintro ⟨h1, h2⟩; rw [e1, e2, h1, h2])]
    cases ((xs.drop (j * c)).take c == (ys.drop (j * c)).take c) <;> simp
theorem FFs_le {P : Program} {F : TypeId → Nat → Prop} : ∀ {fs : List Field} {off n : Nat}, FFs P F off fs n → off ≤ n
  | [], off, n, h => Nat.le_of_eq h
  | f :: fs, off, n, ⟨_, _, c, _, _, hr⟩ => by have := FFs_le hr; omega

theorem run_eqFs {P : Program} {d : Nat} {F : TypeId → Nat → Prop} (hE : ∀ t c, F t c → ∀ xs ys, xs.length = c → ys.length = c → ∀ w, (Op.equalIn d t (FV P t xs) (FV P t ys)).run P w = .ok (xs == ys) w) (hP : ∀ t c, SzOk P t c → F t c → PartI P t c) :
    ∀ (fs : List Field) (off n : Nat), FFs P F off fs n → ∀ (xs ys : List Int), xs.length = n → ys.length = n → ∀ w, (Op.eqFields d (ints xs) (ints ys) fs).run P w = .ok (xs.drop off == ys.drop off) w
  | [], off, n, h, xs, ys, hx, hy, w => by
    have h : off = n := h
    have h1 : xs.drop off = [] := List.drop_eq_nil_of_le (by omega)
    have h2 : ys.drop off = [] := List.drop_eq_nil_of_le (by omega)
    simp [Op.eqFields, h1, h2]
  | f :: fs, off, n, ⟨hn, ho, c, hs, hf, hr⟩, xs, ys, hx, hy, w => by
    have hle : off + c ≤ n := FFs_le hr
    have l1 : ((xs.drop off).take c).length = c := by simp; omega
    have l2 : ((ys.drop off).take c).length = c := by simp; omega
    have ih := run_eqFs hE hP fs (off + c) n hr xs ys hx hy w
    have e1 : xs.drop off = (xs.drop off).take c ++ xs.drop (off + c) := by rw [← List.drop_drop, List.take_append_drop]
    have e2 : ys.drop off = (ys.drop off).take c ++ ys.drop (off + c) := by rw [← List.drop_drop, List.take_append_drop]
    simp only [Op.eqFields, ne_eq, hn, not_false_eq_true, if_true, Sem.run_bind, ho, hP _ _ hs hf xs off (by omega), hP _ _ hs hf ys off (by omega), Result.andThen_ok, hE _ _ hf _ _ l1 l2, Sem.run_ite, ih, Sem.run_pure]
    rw [Bool.eq_iff_iff.2 (show (xs.drop off == ys.drop off) = true ↔ ((xs.drop off).take c == (ys.drop off).take c && xs.drop (off + c) == ys.drop (off + c)) = true by
      simp only [Bool.and_eq_true, beq_iff_eq]
      constructor
      · intro h; rw [e1, e2] at h; exact List.append_inj h (by rw [l1, l2])
      · rintro ⟨h1, h2⟩; rw [e1, e2, h1, h2])]
    cases ((xs.drop off).take c == (ys.drop off).take c) <;> simp
theorem flatI {P : Program} : ∀ (d : Nat) (t : TypeId) (n : Nat), FlatI P d t n →
    (∀ k xs ys, xs.length = n → ys.length = n → ∀ w, (Op.equalIn (k + d + 1) t (FV P t xs) (FV P t ys)).run P w = .ok (xs == ys) w) ∧ (SzOk P t n → PartI P t n)
  | 0, t, n, ⟨hu, hn⟩ => by
    subst hn
    refine ⟨fun k xs ys hx hy w => ?_, fun _ => partI_int hu⟩
    match xs, hx, ys, hy with
    | [a], _, [b], _ =>
      simp only [FV, hu, List.getD_cons_zero]
      rw [run_equalIn_int w k t _ _ a b hu]
      simp
  | d + 1, t, n, .inl h => by
    obtain ⟨h1, h2⟩ := flatI d t n h
    exact ⟨fun k xs ys hx hy w => by have := h1 (k + 1) xs ys hx hy w; rw [show k + (d + 1) + 1 = k + 1 + d + 1 by omega]; exact this, h2⟩
  | d + 1, t, n, .inr (.inl ⟨m, e, c, hu, hs, hf, hn⟩) => by
    obtain ⟨h1, h2⟩ := flatI d e c hf
    have hv : ∀ xs, FV P t xs = .agg (ints xs) := fun xs => by simp [FV, hu]
    refine ⟨fun k xs ys hx hy w => ?_, fun hz => partI_agg hz (fun w => by simp [isAgg, run_underlying hu]) hv⟩
    obtain ⟨i, hi, hic⟩ := hs
    have hc : P.cellsOf e = c := by simp [Program.cellsOf, hi, hic]
    rw [hv, hv, show k + (d + 1) + 1 = (k + d + 1) + 1 by omega, run_equalIn_array (w := w) (d := k + d + 1) (hu := hu) (hi := hi), hc, List.range_eq_range']
    have := run_eqItems (fun xs ys hx hy w => h1 k xs ys hx hy w) (h2 ⟨i, hi, hic⟩) m 0 xs ys (by rw [hx, hn, Nat.zero_add]) (by rw [hy, hn, Nat.zero_add]) w
    simpa using this
  | d + 1, t, n, .inr (.inr ⟨fs, hu, hp, hf⟩) => by
    have hv : ∀ xs, FV P t xs = .agg (ints xs) := fun xs => by simp [FV, hu]
    refine ⟨fun k xs ys hx hy w => ?_, fun hz => partI_agg hz (fun w => by simp [isAgg, run_underlying hu]) hv⟩
    have hff : P.fieldsOf t = fs := by simp [Program.fieldsOf, hu]
    rw [hv, hv, show k + (d + 1) + 1 = (k + d + 1) + 1 by omega, run_equalIn_struct w (k + d + 1) t _ _ (by rw [hff]; exact hu) hp, hff]
    have := run_eqFs (fun t c h xs ys hx hy w => (flatI d t c h).1 k xs ys hx hy w) (fun t c hs h => (flatI d t c h).2 hs) fs.toList 0 n hf xs ys hx hy w
    simpa using this

/-- '==' on such a type, as the table asks for it. -/
theorem eqI_flat {P : Program} {t : TypeId} {n : Nat} (d : Nat) (hd : d < 10000) (h : FlatI P d t n) (ha : ∀ xs, FV P t xs = .agg (ints xs)) :
    ∀ xs ys : List Int, xs.length = n → ys.length = n → ∀ w, (Op.equalIn 10000 t (.agg (ints xs)) (.agg (ints ys))).run P w = .ok (xs == ys) w := fun xs ys hx hy w => by
  have := (flatI d t n h).1 (9999 - d) xs ys hx hy w
  rw [ha, ha, show 9999 - d + d + 1 = 10000 by omega] at this
  exact this
end Go.Sy
