/- Maps from whole numbers: what a block of one holds; making, looking up, storing, clearing. -/
import Derived.Test.YtkpffldbdbjcbaaGreatSyD
import Derived.MapKept
set_option linter.unusedSimpArgs false
set_option linter.unusedVariables false
namespace Go.Sy
open Go.RowKit

/-! ### Lists of pairs -/
section
variable {α : Type}
def getA (d : α) : List (Int × α) → Int → α
  | [], _ => d
  | (k', v) :: r, k => if k = k' then v else getA d r k
def hasA : List (Int × α) → Int → Bool
  | [], _ => false
  | (k', _) :: r, k => decide (k = k') || hasA r k
def putA : List (Int × α) → Int → α → List (Int × α)
  | [], k, v => [(k, v)]
  | (k', v') :: r, k, v => if k = k' then (k', v) :: r else (k', v') :: putA r k v
/-- The entries, as they lie. -/
def stamp (f : α → Value) : List (Int × α) → Nat → List MapEntry
  | [], _ => []
  | (k, v) :: r, n => ⟨.int .i64 k, f v, n⟩ :: stamp f r (n + 1)
theorem findNow_no (f : α → Value) {k : Int} : ∀ (xs : List (Int × α)) (n i : Nat), hasA xs k = false → Instr.findNow (.int .i64) (.int .i64 k) (stamp f xs n) i = some none
  | [], _, _, _ => rfl
  | (k', v) :: r, n, i, h => by
    simp only [hasA, Bool.or_eq_false_iff, decide_eq_false_iff_not] at h
    simp only [stamp, Instr.findNow, Instr.sameNow, if_true]
    have : (k == k') = false := by simpa using h.1
    simp only [this]
    exact findNow_no f r _ _ h.2
theorem findNow_yes (f : α → Value) (d : α) {k : Int} : ∀ (xs : List (Int × α)) (n i : Nat), hasA xs k = true → ∃ j, Instr.findNow (.int .i64) (.int .i64 k) (stamp f xs n) i = some (some (i + j, f (getA d xs k))) ∧
    (∃ e, (stamp f xs n)[j]? = some e ∧ e.key = .int .i64 k) ∧ ∀ v, (stamp f xs n).modify j (fun e => ⟨.int .i64 k, f v, e.born⟩) = stamp f (putA xs k v) n
  | [], _, _, h => by simp [hasA] at h
  | (k', v) :: r, n, i, h => by
    by_cases hk : k = k'
    · subst hk
      refine ⟨0, ?_, ⟨_, rfl, rfl⟩, fun w => ?_⟩
      · simp [stamp, Instr.findNow, Instr.sameNow, getA]
      · simp [stamp, putA]
    · simp only [hasA, Bool.or_eq_true, decide_eq_true_eq, hk, false_or] at h
      obtain ⟨j, h1, ⟨e, h2, h3⟩, h4⟩ := findNow_yes f d r (n + 1) (i + 1) h
      have hb : (k == k') = false := by simpa using hk
      refine ⟨j + 1, ?_, ⟨e, by simpa [stamp] using h2, h3⟩, fun w => ?_⟩
      · simp only [stamp, Instr.findNow, Instr.sameNow, if_true, hb, getA, if_neg hk, h1]
        congr 3; omega
      · simp only [stamp, putA, if_neg hk, List.modify_succ_cons, h4 w]
theorem stamp_push (f : α → Value) {k : Int} (v : α) : ∀ (xs : List (Int × α)) (n : Nat), hasA xs k = false → stamp f xs n ++ [⟨.int .i64 k, f v, n + xs.length⟩] = stamp f (putA xs k v) n
  | [], n, _ => rfl
  | (k', v') :: r, n, h => by
    simp only [hasA, Bool.or_eq_false_iff, decide_eq_false_iff_not] at h
    simp only [stamp, putA, if_neg h.1, List.cons_append, List.length_cons]
    rw [← stamp_push f v r (n + 1) h.2]
    congr 4; omega
theorem putA_len_no {k : Int} (v : α) : ∀ (xs : List (Int × α)), hasA xs k = false → (putA xs k v).length = xs.length + 1
  | [], _ => rfl
  | (k', v') :: r, h => by
    simp only [hasA, Bool.or_eq_false_iff, decide_eq_false_iff_not] at h
    simp [putA, if_neg h.1, putA_len_no v r h.2]
theorem putA_len_yes {k : Int} (v : α) : ∀ (xs : List (Int × α)), hasA xs k = true → (putA xs k v).length = xs.length
  | [], h => by simp [hasA] at h
  | (k', v') :: r, h => by
    by_cases hk : k = k'
    · simp [putA, hk]
    · simp only [hasA, Bool.or_eq_true, decide_eq_true_eq, hk, false_or] at h
      simp [putA, if_neg hk, putA_len_yes v r h]
theorem getA_put (d : α) {k j : Int} (v : α) : ∀ (xs : List (Int × α)), getA d (putA xs k v) j = if j = k then v else getA d xs j
  | [] => by simp [putA, getA]
  | (k', v') :: r => by
    by_cases hk : k = k'
    · subst hk
      simp only [putA, if_true, getA]
      by_cases hj : j = k <;> simp [hj]
    · simp only [putA, if_neg hk, getA, getA_put d v r]
      by_cases hj : j = k'
      · subst hj; simp [Ne.symm hk]
      · simp [hj]
theorem hasA_put {k j : Int} (v : α) : ∀ (xs : List (Int × α)), hasA (putA xs k v) j = (decide (j = k) || hasA xs j)
  | [] => by simp [putA, hasA]
  | (k', v') :: r => by
    by_cases hk : k = k'
    · subst hk
      simp only [putA, if_true, hasA]
      cases decide (j = k) <;> simp
    · simp only [putA, if_neg hk, hasA, hasA_put v r]
      cases decide (j = k) <;> cases decide (j = k') <;> simp
end

/-! ### A map's object -/
/-- What a map holds: whole numbers to truth values; to a number with a truth value. -/
inductive MC where
  | ib (xs : List (Int × Bool))
  | im (xs : List (Int × (Int × Bool)))
  | ii (xs : List (Int × Int))
def MC.kd : MC → MK
  | .ib _ => .ib
  | .im _ => .im
  | .ii _ => .ii
def vB (b : Bool) : Value := .bool b
def vM (p : Int × Bool) : Value := .agg #[.int .i64 p.1, .bool p.2]
def vI (n : Int) : Value := .int .i64 n
def MC.len : MC → Nat
  | .ib xs => xs.length
  | .im xs => xs.length
  | .ii xs => xs.length
def MC.ents (c0 : Nat) : MC → List MapEntry
  | .ib xs => stamp vB xs c0
  | .im xs => stamp vM xs c0
  | .ii xs => stamp vI xs c0
def MC.obj (m : MC) (c0 : Nat) : Obj := .map (m.ents c0).toArray (c0 + m.len)
def MK.emp : MK → MC
  | .ib => .ib []
  | .im => .im []
  | .ii => .ii []
/-- An object that is such a map. -/
def withMC (o : Obj) (K : MC → Nat → Prop) : Prop := ∃ m c0, o = MC.obj m c0 ∧ K m c0
theorem withMC_mk {o : Obj} {K : MC → Nat → Prop} {m : MC} {c0 : Nat} (h : o = MC.obj m c0) (hk : K m c0) : withMC o K := ⟨m, c0, h, hk⟩
theorem withMC_goal {o : Obj} {K : MC → Nat → Prop} (h : withMC o K) : withMC o K := h
/-! ### Looking up -/
def MC.look (m : MC) (k : Int) (ok : Bool) (K : SV → Prop) : Prop :=
  match m with
  | .ib xs => match ok with
    | true => K (.tup [.bool (.atom (getA false xs k)), .bool (.atom (hasA xs k))])
    | false => K (.bool (.atom (getA false xs k)))
  | .im xs => match ok with
    | true => K (.tup [.agg [.int .i64 (getA (0, false) xs k).1, .bool (.atom (getA (0, false) xs k).2)], .bool (.atom (hasA xs k))])
    | false => K (.agg [.int .i64 (getA (0, false) xs k).1, .bool (.atom (getA (0, false) xs k).2)])
  | .ii xs => match ok with
    | true => K (.tup [.int .i64 (getA 0 xs k), .bool (.atom (hasA xs k))])
    | false => K (.int .i64 (getA 0 xs k))
theorem look_run {α : Type} {P : Program} {t k e : TypeId} {i : TypeInfo} {z : Value} (f : α → Value) (d : α) (hd : f d = z) (ht : P.underlying t = some (.map k e)) (hk : P.underlying k = some (.int .i64)) (hi : P.info? e = some i) (hz : i.zero = some z)
    {xs : List (Int × α)} {c0 g c1 : Nat} {w : World} (hg : w.heap[g]? = some (.map (stamp f xs c0).toArray c1)) (n : Int) (ok : Bool) :
    (Instr.lookup t (.map (some g)) (.int .i64 n) ok).run P w = .ok (if ok then .tuple #[f (getA d xs n), .bool (hasA xs n)] else f (getA d xs n)) w := by
  have hc : ∀ b, (Instr.checkKey b 10000 k (.int .i64 n)).run P w = .ok () w := fun b => Go.MapKept.run_checkKey (d := .int .i64) hk (by simp [Go.MapKept.IsKey]) b 9999
  have hg' := Go.MapKept.run_getObj_map (P := P) hg
  cases hh : hasA xs n with
  | true =>
    obtain ⟨j, h1, _, _⟩ := findNow_yes f d xs c0 0 hh
    simp only [Instr.lookup, Sem.run_bind, run_underlying ht, Result.andThen_ok, hg', Sem.run_pure, hc, Go.MapKept.run_findKey hk h1]
  | false =>
    have h1 := findNow_no f xs c0 0 hh
    have hgd : ∀ (ys : List (Int × α)), hasA ys n = false → getA d ys n = d := fun ys => by
      induction ys with
      | nil => intro _; rfl
      | cons p r ih =>
        obtain ⟨a, b⟩ := p
        intro h
        simp only [hasA, Bool.or_eq_false_iff, decide_eq_false_iff_not] at h
        simp only [getA, if_neg h.1, ih h.2]
    have hzv : (zeroValue e).run P w = .ok z w := by simp [zeroValue, typeInfo, hi, hz]
    simp only [Instr.lookup, Sem.run_bind, run_underlying ht, Result.andThen_ok, hg', Sem.run_pure, hc, Go.MapKept.run_findKey hk h1, hzv, hgd xs hh, hd]
theorem MC.look_sound {P : Program} {t : TypeId} {m : MC} {c0 : Nat} (ht : m.kd.Ok P t) {g : Nat} {w : World} (hg : w.heap[g]? = some (m.obj c0)) (n : Int) (ok : Bool) {K : SV → Prop} (h : m.look n ok K) :
    ∃ v, K v ∧ (Instr.lookup t (.map (some g)) (.int .i64 n) ok).run P w = .ok (den v) w := by
  obtain ⟨k, e, i, h1, h2, h3, h4⟩ := ht
  cases m with
  | ib xs =>
    have := look_run vB false rfl h1 h2 h3 h4 (xs := xs) (c0 := c0) (c1 := c0 + xs.length) hg n ok
    cases ok
    · exact ⟨_, h, by rw [this]; rfl⟩
    · exact ⟨_, h, by rw [this]; rfl⟩
  | im xs =>
    have := look_run vM (0, false) rfl h1 h2 h3 h4 (xs := xs) (c0 := c0) (c1 := c0 + xs.length) hg n ok
    cases ok
    · exact ⟨_, h, by rw [this]; rfl⟩
    · exact ⟨_, h, by rw [this]; rfl⟩
  | ii xs =>
    have := look_run vI 0 rfl h1 h2 h3 h4 (xs := xs) (c0 := c0) (c1 := c0 + xs.length) hg n ok
    cases ok
    · exact ⟨_, h, by rw [this]; rfl⟩
    · exact ⟨_, h, by rw [this]; rfl⟩

/-! ### Storing -/
def MC.put (m : MC) (k : Int) (v : SV) (K : MC → Prop) : Prop :=
  match m with
  | .ib xs => b1 v fun b => K (.ib (putA xs k b))
  | .im xs => match v with
    | .agg [a, b] => i1 a fun a => b1 b fun b => K (.im (putA xs k (a, b)))
    | _ => False
  | .ii xs => i1 v fun a => K (.ii (putA xs k a))
theorem put_run {α : Type} {P : Program} {t k e : TypeId} (f : α → Value) (ht : P.underlying t = some (.map k e)) (hk : P.underlying k = some (.int .i64))
    {xs : List (Int × α)} {c0 g : Nat} {w : World} (hg : w.heap[g]? = some (.map (stamp f xs c0).toArray (c0 + xs.length))) (n : Int) (v : α) :
    (Instr.mapUpdate t (.map (some g)) (.int .i64 n) (f v)).run P w = .ok () { w with heap := w.heap.setIfInBounds g (.map (stamp f (putA xs n v) c0).toArray (c0 + (putA xs n v).length)) } := by
  have hc : ∀ b, (Instr.checkKey b 10000 k (.int .i64 n)).run P w = .ok () w := fun b => Go.MapKept.run_checkKey (d := .int .i64) hk (by simp [Go.MapKept.IsKey]) b 9999
  have hg' := Go.MapKept.run_getObj_map (P := P) hg
  cases hh : hasA xs n with
  | true =>
    obtain ⟨j, h1, ⟨en, h2, h3⟩, h4⟩ := findNow_yes f v xs c0 0 hh
    rw [Nat.zero_add] at h1
    have hs : Instr.sameBits 10000 (.int .i64 n) (.int .i64 n) = true := by simp [Instr.sameBits]
    simp only [Instr.mapUpdate, Sem.run_bind, run_underlying ht, Result.andThen_ok, hg', hc, Go.MapKept.run_findKey hk h1, List.getElem?_toArray, h2, Option.map_some, Option.getD_some, h3, Instr.keyThatStays, hs, if_true, Sem.run_pure, List.modify_toArray, Go.MapKept.run_setObj_map _ hg]
    rw [h4 v, putA_len_yes v xs hh]
  | false =>
    have h1 := findNow_no f xs c0 0 hh
    simp only [Instr.mapUpdate, Sem.run_bind, run_underlying ht, Result.andThen_ok, hg', hc, Go.MapKept.run_findKey hk h1, List.push_toArray, Go.MapKept.run_setObj_map _ hg]
    rw [stamp_push f v xs c0 hh, putA_len_no v xs hh, Nat.add_assoc]
theorem MC.put_sound {P : Program} {t : TypeId} {m : MC} {c0 : Nat} (ht : m.kd.Ok P t) {g : Nat} {w : World} (hg : w.heap[g]? = some (m.obj c0)) (n : Int) {v : SV} {K : MC → Prop} (h : m.put n v K) :
    ∃ m', K m' ∧ m'.kd = m.kd ∧ (Instr.mapUpdate t (.map (some g)) (.int .i64 n) (den v)).run P w = .ok () { w with heap := w.heap.setIfInBounds g (m'.obj c0) } := by
  obtain ⟨k, e, i, h1, h2, _, _⟩ := ht
  cases m with
  | ib xs =>
    obtain ⟨b, h, hv⟩ := iff_b1 (K := fun b => K (.ib (putA xs n b))) h
    exact ⟨_, h, rfl, by rw [hv]; exact put_run vB h1 h2 hg n b⟩
  | im xs =>
    simp only [MC.put] at h
    split at h
    · obtain ⟨a, h, ha⟩ := iff_i1 h
      obtain ⟨b, h, hb⟩ := iff_b1 h
      refine ⟨_, h, rfl, ?_⟩
      have := put_run vM h1 h2 hg n (a, b)
      simp only [den, denL, ha, hb]
      exact this
    · exact h.elim
  | ii xs =>
    obtain ⟨a, h, hv⟩ := iff_i1 (K := fun a => K (.ii (putA xs n a))) h
    exact ⟨_, h, rfl, by rw [hv]; exact put_run vI h1 h2 hg n a⟩

/-! ### The operations -/
def evMakeMap (T : List (Nat × TyI)) (t : TypeId) (hp : List HB) (K : SV → List HB → Prop) : Prop :=
  match lookN T t with
  | some ⟨.map m, _, _, _⟩ => ∀ g : Nat, lenK' hp 0 fun n => appK' hp ⟨some ⟨g, 0⟩, true, .ob (m.emp.obj 0), .l []⟩ fun hp' => K (.map n g) hp'
  | _ => False
where
  lenK' : List HB → Nat → (Nat → Prop) → Prop
    | [], n, K => K n
    | _ :: r, n, K => lenK' r (n + 1) K
  appK' : List HB → HB → (List HB → Prop) → Prop
    | [], b, K => K [b]
    | c :: r, b, K => appK' r b fun r' => K (c :: r')
theorem lenK'_eq : ∀ (hp : List HB) (n : Nat) (K : Nat → Prop), evMakeMap.lenK' hp n K = K (n + hp.length)
  | [], n, K => rfl
  | _ :: r, n, K => by rw [evMakeMap.lenK', lenK'_eq r]; simp [Nat.add_comm, Nat.add_left_comm]
theorem appK'_eq : ∀ (hp : List HB) (b : HB) (K : List HB → Prop), evMakeMap.appK' hp b K = K (hp ++ [b])
  | [], _, _ => rfl
  | c :: r, b, K => by rw [evMakeMap.appK', appK'_eq r]; rfl
theorem evMakeMap_sound {P : Program} {T : List (Nat × TyI)} (hT : TOk P T) {t : TypeId} {hp : List HB} {K : SV → List HB → Prop} (h : evMakeMap T t hp K) {w0 w : World} (hw : Holds w0 w hp) :
    ∃ v hp', K v hp' ∧ Value.map (some w.heap.size) = den v ∧ Holds w0 (w.alloc (.map #[] 0)) hp' := by
  unfold evMakeMap at h
  split at h
  · rename_i m _ _ _ hm
    have h := h w.heap.size
    rw [lenK'_eq, appK'_eq] at h
    refine ⟨_, _, h, by simp [den], hw.newObj _ _ ⟨?_, rfl⟩ rfl fun g hg => ?_⟩
    · rw [heap_alloc_new]; cases m <;> rfl
    · have : w.heap.size = g := by simpa [HB.touch, HB.cl, HB.rd] using hg
      exact this.symm
  · exact h.elim

def evLook (T : List (Nat × TyI)) (t : TypeId) (x ix : SV) (ok : Bool) (hp : List HB) (K : SV → Prop) : Prop :=
  match x with
  | .map i g => match hp[i]?, lookN T t with
    | some ⟨some nm, own, .ob o, cts⟩, some ⟨.map mk, _, _, _⟩ => Nat.beq nm.g g = true ∧ withMC o fun m c0 => m.kd = mk ∧ i1 ix fun k => m.look k ok K
    | _, _ => False
  | _ => False
theorem evLook_sound {P : Program} {T : List (Nat × TyI)} (hT : TOk P T) {t : TypeId} {x ix : SV} {ok : Bool} {hp : List HB} {K : SV → Prop} (h : evLook T t x ix ok hp K) {w0 w : World} (hw : Holds w0 w hp) :
    ∃ v, K v ∧ (Instr.lookup t (den x) (den ix) ok).run P w = .ok (den v) w := by
  unfold evLook at h
  split at h
  · rename_i i g
    split at h
    · rename_i nm own o cts mk _ _ _ hi ht
      obtain ⟨hg, m, c0, rfl, hk, h⟩ := h
      have hg := Nat.eq_of_beq_eq_true hg
      obtain ⟨n, h, hn⟩ := iff_i1 h
      have hok := hw.blk _ (List.mem_of_getElem? hi)
      have hty := (hT _ _ ht).und
      subst hk
      obtain ⟨v, hv, hr⟩ := MC.look_sound (P := P) (t := t) hty (g := nm.g) hok.1 n ok h
      refine ⟨v, hv, ?_⟩
      rw [hn]
      simp only [den]
      rw [← hg]; exact hr
    · exact h.elim
  · exact h.elim

def evMapPut (T : List (Nat × TyI)) (t : TypeId) (x ix v : SV) (hp : List HB) (K : List HB → Prop) : Prop :=
  match x with
  | .map i g => match hp[i]?, lookN T t with
    | some ⟨some nm, own, .ob o, cts⟩, some ⟨.map mk, _, _, _⟩ => (Nat.beq nm.g g && noGh' hp) = true ∧ withMC o fun m c0 => m.kd = mk ∧ i1 ix fun k => m.put k v fun m' => setHK' hp i ⟨some nm, own, .ob (m'.obj c0), cts⟩ K
    | _, _ => False
  | _ => False
where
  noGh' : List HB → Bool
    | [] => true
    | b :: hp => !b.isGh && noGh' hp
  setHK' : List HB → Nat → HB → (List HB → Prop) → Prop
    | [], _, _, K => K []
    | _ :: r, 0, b, K => K (b :: r)
    | c :: r, i + 1, b, K => setHK' r i b fun r' => K (c :: r')
theorem setHK'_eq : ∀ (hp : List HB) (i : Nat) (b : HB) (K : List HB → Prop), evMapPut.setHK' hp i b K = K (hp.set i b)
  | [], _, _, _ => rfl
  | _ :: _, 0, _, _ => rfl
  | c :: r, i + 1, b, K => by rw [evMapPut.setHK', setHK'_eq r]; rfl
theorem noGh'_mem : ∀ {hp : List HB}, evMapPut.noGh' hp = true → ∀ b ∈ hp, b.isGh = false
  | b :: hp, h, c, hc => by
    simp only [evMapPut.noGh', Bool.and_eq_true, Bool.not_eq_true'] at h
    rcases List.mem_cons.1 hc with rfl | hc
    · exact h.1
    · exact noGh'_mem h.2 c hc
theorem Holds.turnOb {w0 w : World} {hp : List HB} (hw : Holds w0 w hp) {i : Nat} {nm : Nm} {own : Bool} {o o' : Obj} {cts : Cts} (hi : hp[i]? = some ⟨some nm, own, .ob o, cts⟩) (hng : ∀ c ∈ hp, c.isGh = false) (ho' : o'.isCells = false) :
    Holds w0 { w with heap := w.heap.setIfInBounds nm.g o' } (hp.set i ⟨some nm, own, .ob o', cts⟩) := by
  have hok := hw.blk _ (List.mem_of_getElem? hi)
  have hs := Go.MapKept.heap_set (o' := o') hok.1
  refine hw.turn hi (g := nm.g) rfl hng rfl ⟨hs.1, ho'⟩ (.inl rfl) (fun g' hg => ?_) (fun g' hg => ?_) (fun ho => .inl ho) rfl rfl rfl (by simp) fun k _ hk => hs.2 k hk
  · exact Eq.symm hg
  · have : nm.g = g' := by simpa [HB.touch, HB.cl, HB.rd] using hg
    exact this.symm
theorem evMapPut_sound {P : Program} {T : List (Nat × TyI)} (hT : TOk P T) {t : TypeId} {x ix v : SV} {hp : List HB} {K : List HB → Prop} (h : evMapPut T t x ix v hp K) {w0 w : World} (hw : Holds w0 w hp) :
    ∃ hp' w', K hp' ∧ (Instr.mapUpdate t (den x) (den ix) (den v)).run P w = .ok () w' ∧ Holds w0 w' hp' := by
  unfold evMapPut at h
  split at h
  · rename_i i g
    split at h
    · rename_i nm own o cts mk _ _ _ hi ht
      obtain ⟨hg, m, c0, rfl, hk, h⟩ := h
      simp only [Bool.and_eq_true] at hg
      have hng := noGh'_mem hg.2
      have hg := Nat.eq_of_beq_eq_true hg.1
      obtain ⟨n, h, hn⟩ := iff_i1 h
      have hok := hw.blk _ (List.mem_of_getElem? hi)
      have hty := (hT _ _ ht).und
      subst hk
      obtain ⟨m', hK, hkd, hr⟩ := MC.put_sound (P := P) (t := t) hty (g := nm.g) hok.1 n h
      rw [setHK'_eq] at hK
      refine ⟨_, _, hK, ?_, hw.turnOb hi hng rfl⟩
      rw [hn]
      simp only [den]
      rw [← hg]; exact hr
    · exact h.elim
  · exact h.elim

/-- 'clear' of a map. -/
def evClear (T : List (Nat × TyI)) (t : TypeId) (x : SV) (hp : List HB) (K : List HB → Prop) : Prop :=
  match x with
  | .map i g => match hp[i]?, lookN T t with
    | some ⟨some nm, own, .ob o, cts⟩, some ⟨.map mk, _, _, _⟩ => (Nat.beq nm.g g && evMapPut.noGh' hp) = true ∧ withMC o fun m c0 => m.kd = mk ∧ evMapPut.setHK' hp i ⟨some nm, own, .ob (mk.emp.obj (c0 + m.len)), cts⟩ K
    | _, _ => False
  | _ => False
theorem evClear_sound {P : Program} {T : List (Nat × TyI)} (hT : TOk P T) {t ty : TypeId} {x : SV} {hp : List HB} {K : List HB → Prop} (h : evClear T t x hp K) {w0 w : World} (hw : Holds w0 w hp) :
    ∃ hp' w', K hp' ∧ (Builtin.clear_ #[t] ty #[den x]).run P w = .ok (den (.tup [])) w' ∧ Holds w0 w' hp' := by
  unfold evClear at h
  split at h
  · rename_i i g
    split at h
    · rename_i nm own o cts mk _ _ _ hi ht
      obtain ⟨hg, m, c0, rfl, hk, h⟩ := h
      simp only [Bool.and_eq_true] at hg
      have hng := noGh'_mem hg.2
      have hg := Nat.eq_of_beq_eq_true hg.1
      have hok := hw.blk _ (List.mem_of_getElem? hi)
      obtain ⟨k, e, ti, h1, _⟩ := (hT _ _ ht).und
      rw [setHK'_eq] at h
      refine ⟨_, _, h, ?_, hw.turnOb hi hng rfl⟩
      have h0 : w.heap[g]? = some (.map (m.ents c0).toArray (c0 + m.len)) := by rw [← hg]; exact hok.1
      have he : mk.emp.obj (c0 + m.len) = .map #[] (c0 + m.len) := by cases mk <;> rfl
      rw [he, hg]
      simp [Builtin.clear_, run_underlying h1, den, denL, Go.MapKept.run_getObj_map h0, Go.MapKept.run_setObj_map _ h0]
    · exact h.elim
  · exact h.elim
end Go.Sy
