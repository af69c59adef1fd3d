/- Pointers turned to unsafe ones and back; the bytes of a row as a string. -/
import Derived.Test.YtkpffldbdbjcbaaGreatSyM
import Derived.Lib.Builder
import Derived.Lib.UnsafeStr
import Derived.Laws.Externs
import Derived.Laws.BytesString
set_option linter.unusedSimpArgs false
set_option linter.unusedVariables false
namespace Go.Sy
open Go.RowKit

def evConvP (T : List (Nat × TyI)) (s d : TypeId) (x : SV) (hp : List HB) (K : SV → Prop) : Prop :=
  match x with
  | .ptr i nm k st o =>
    match hp[i]? with
    | some ⟨some nm', own, .wr e cap, cts⟩ =>
      match lookN T s, lookN T d with
      | some ⟨.ptr _, _, _, _⟩, some ⟨.uptr, _, _, _⟩ => (nm' = nm ∧ k * st + o < cap) ∧ K (.ptr i nm k st o)
      | some ⟨.uptr, _, _, _⟩, some ⟨.ptr u, _, _, _⟩ =>
        match lookN T u with
        | some tu => (nm' = nm ∧ k * st + o = 0 ∧ e = u ∧ tu.size = cap) ∧ K (.ptr i nm k st o)
        | none => False
      | _, _ => False
    | _ => False
  | _ => False
theorem shape_wr {w : World} {nm : Nm} {own : Bool} {e cap : Nat} {cts : Cts} (h : (⟨some nm, own, .wr e cap, cts⟩ : HB).ok w) : nm.b = 0 ∧ w.shape? nm.g = some (e, cap) := by
  obtain ⟨h0, cs, h1, h2, _⟩ := h
  exact ⟨h0, by simp [World.shape?, h1, h2]⟩
theorem evConvP_sound {P : Program} {T : List (Nat × TyI)} (hT : TOk P T) {s d : TypeId} {x : SV} {hp : List HB} {K : SV → Prop} (h : evConvP T s d x hp K) {w0 w : World} (hw : Holds w0 w hp) :
    ∃ v, K v ∧ (convert s d (den x)).run P w = .ok (den v) w := by
  unfold evConvP at h
  split at h
  · rename_i i nm k st o
    split at h
    · rename_i nm' own e cap cts hi
      obtain ⟨hb0, hsh⟩ := shape_wr (hw.blk _ (List.mem_of_getElem? hi))
      split at h
      · rename_i te _ _ _ _ _ _ hs hd
        obtain ⟨⟨rfl, ho⟩, h⟩ := h
        obtain ⟨hus, j, hj, hjs, _⟩ := (hT _ _ hs).und
        have hud := (hT _ _ hd).und
        refine ⟨_, h, ?_⟩
        simp only [den, hb0, Nat.zero_add]
        exact Lib.run_to_unsafe (P := P) w ⟨nm'.g, k * st + o, none⟩ hus hud hj hjs hsh ho
      · rename_i u _ _ _ hs hd
        split at h
        · rename_i tu hu
          obtain ⟨⟨rfl, ho, rfl, hsz⟩, h⟩ := h
          have hus := (hT _ _ hs).und
          obtain ⟨hud, j, hj, hjs, hl⟩ := (hT _ _ hd).und
          obtain ⟨f, z, hf1, hf2, _, _⟩ := (hT _ _ hu).info
          have hjf : j = f := by rw [hj] at hf1; exact Option.some.inj hf1
          subst hjf
          refine ⟨_, h, ?_⟩
          simp only [den, hb0, Nat.zero_add, ho]
          refine Lib.run_from_unsafe (P := P) w ⟨nm'.g, 0, none⟩ hus hud hj hsh ?_
          rw [← hsz, ← hf2]; exact hl
        · exact h.elim
      · exact h.elim
    · exact h.elim
  · exact h.elim

/-! ### A row of bytes as a string -/
def evSlData (x : SV) (K : SV → Prop) : Prop :=
  match x with
  | .nilsl => K (.val (.pointer none))
  | .sl i a k s len cap => (a.isSome = true ∧ 0 < cap) ∧ K (.ptr i (a.getD ⟨0, 0⟩) k s 0)
  | _ => False
theorem evSlData_sound {P : Program} {x : SV} {K : SV → Prop} (h : evSlData x K) (ts : Array TypeId) (ty : TypeId) (w : World) : ∃ v, K v ∧ (Builtin.unsafeSliceData_ ts ty #[den x]).run P w = .ok (den v) w := by
  unfold evSlData at h
  split at h
  · exact ⟨_, h, rfl⟩
  · rename_i i a k s len cap
    obtain ⟨⟨ha, hc⟩, h⟩ := h
    cases a with
    | none => cases ha
    | some nm =>
      refine ⟨_, h, ?_⟩
      simp only [den, Option.map_some, Option.getD_some, Nat.add_zero]
      exact Lib.run_unsafeSliceData_row w ts ty ⟨nm.g, nm.b + k * s, none⟩ len cap (by omega)
  · exact h.elim
def toBytes (xs : List Int) : List UInt8 := xs.map fun n => n.toNat.toUInt8
def evUStr (T : List (Nat × TyI)) (t : TypeId) (x n : SV) (hp : List HB) (K : SV → List HB → Prop) : Prop :=
  match x with
  | .ptr i nm k s d =>
    match hp[i]?, lookN T t with
    | some ⟨nm', true, .wr e cap, .yx bs⟩, some ⟨.ptr e', _, _, _⟩ =>
      match lookN T e' with
      | some te => i1 n fun n => (nm' = some nm ∧ k * s + d = 0 ∧ e = e' ∧ te.size = 1 ∧ n = bs.length ∧ 0 < bs.length ∧ bs.length ≤ 9223372036854775807 ∧ evMapPut.noGh' hp = true ∧ ∀ b ∈ bs, 0 ≤ b ∧ b < 256) ∧ evMapPut.setHK' hp i ⟨some nm, true, .ro, .yx bs⟩ fun hp' => K (.str ⟨(toBytes bs).toArray⟩) hp'
      | none => False
    | _, _ => False
  | _ => False
theorem yx_get (bs : List Int) (o : Nat) : (Cts.yx bs).get o = .int .u8 (bs.getD o 0) := by simp [Cts.get, Cts.s, Cts.row, Nat.mod_one]
theorem evUStr_sound {P : Program} {T : List (Nat × TyI)} (hT : TOk P T) {t it ty : TypeId} {x n : SV} {hp : List HB} {K : SV → List HB → Prop} (h : evUStr T t x n hp K) {w0 w : World} (hw : Holds w0 w hp) :
    ∃ v hp' w', K v hp' ∧ (Builtin.unsafeString_ #[t, it] ty #[den x, den n]).run P w = .ok (den v) w' ∧ Holds w0 w' hp' := by
  unfold evUStr at h
  split at h
  · rename_i i nm k s d
    split at h
    · rename_i nm' e cap bs e' _ _ _ hi ht
      split at h
      · rename_i te hte
        obtain ⟨n', h9, hn⟩ := iff_i1 h
        clear h
        obtain ⟨⟨rfl, ho, rfl, hs1, rfl, hpos, hmax, hng, hb⟩, hk9⟩ := h9
        have hng := noGh'_mem hng
        have hok := hw.blk _ (List.mem_of_getElem? hi)
        obtain ⟨hb0, hsh⟩ := shape_wr hok
        obtain ⟨hu, _⟩ := (hT _ _ ht).und
        obtain ⟨f, z, hf1, hf2, _, _⟩ := (hT _ _ hte).info
        have hc : P.cellsOf e = 1 := by simp [Program.cellsOf, hf1, hf2, hs1]
        obtain ⟨_, cs, h1, h2, h3, h4⟩ := hok
        have hnn : (Cts.yx bs).n = bs.length := by simp [Cts.n, Cts.len, Cts.s]
        rw [hnn] at h3 h4
        have hlen : (toBytes bs).length = bs.length := by simp [toBytes]
        have hcell : ∀ j y, (toBytes bs)[j]? = some y → w.cell? ((⟨nm.g, 0, none⟩ : Addr).add j) = some (.int .u8 y.toNat) := fun j y hy => by
          have hj : j < bs.length := by rw [← hlen]; exact (List.getElem?_eq_some_iff.1 hy).1
          have hbj := hb bs[j] (List.getElem_mem hj)
          have e1 : y = bs[j].toNat.toUInt8 := by simpa [toBytes, hj] using hy.symm
          have e2 : (y.toNat : Int) = bs[j] := by subst e1; simp; omega
          have := h4 j hj
          rw [yx_get] at this
          have ad : ((⟨nm.g, 0, none⟩ : Addr).add j) = ⟨nm.g, j, none⟩ := by unfold Addr.add; by_cases hz : j = 0 <;> simp [hz]
          rw [ad, cell_of_row w _ j cs e (0, 0) h1, this, e2]
          simp [den, hj]
        rw [setHK'_eq] at hk9
        have hrun := Lib.run_unsafeString_row (P := P) w t it ty e hu hc nm.g cap hsh (toBytes bs) (fun e => by rw [e] at hlen; simp at hlen; omega) (by omega) (by omega) hcell
        rw [hlen] at hrun
        refine ⟨_, _, w.freeze ⟨nm.g, 0, none⟩ bs.length, hk9, ?_, ?_⟩
        · rw [hn]
          simp only [den, hb0, ho, Nat.zero_add]
          exact hrun
        · have hlt : nm.g < w.heap.size := (Array.getElem?_eq_some_iff.1 h1).1
          have hz : bs.length ≠ 0 := by omega
          refine hw.turn hi (g := nm.g) rfl hng rfl ?_ (.inr (hw.own _ (List.mem_of_getElem? hi) rfl _ rfl)) (fun g' hg => Eq.symm hg) (fun g' hg => ?_) (fun _ => .inl rfl) ?_ ?_ ?_ ?_ ?_
          · intro o ho'
            rw [hnn] at ho'
            rw [hb0, Nat.zero_add]
            have e3 : (w.freeze ⟨nm.g, 0, none⟩ bs.length).heap[nm.g]? = some (.cells cs e (0, 0 + bs.length)) := by
              simp [World.freeze, hz, Array.getElem?_modify, h1]
            rw [cell_of_row _ _ o cs e _ e3]
            exact h4 o ho'
          · rcases hg with hg | hg
            · exact hg.elim
            · simp only [HB.rd, hnn, hpos] at hg; exact hg.2.symm
          · simp [World.freeze, hz]
          · simp [World.freeze, hz]
          · simp [World.freeze, hz]
          · simp [World.freeze, hz]
          · intro k' _ hk
            simp [World.freeze, hz, Array.getElem?_modify, Ne.symm hk]
      · exact h.elim
    · exact h.elim
  · exact h.elim
/-! ### Bytes turned to a string -/
def evBStr (T : List (Nat × TyI)) (s d : TypeId) (x : SV) (hp : List HB) (K : SV → Prop) : Prop :=
  match x with
  | .sl i a k _ n _ =>
    match hp[i]?, lookN T s, lookN T d with
    | some b, some ⟨.sli e _, _, _, _⟩, some ⟨.strg, _, _, _⟩ =>
      match b.isC, b.cts, lookN T e with
      | true, .yx bs, some ⟨.int .u8, _, _, _⟩ => (b.nm = a ∧ a.isSome = true ∧ k = 0 ∧ n = bs.length) ∧ K (.str ⟨(toBytes bs).toArray⟩)
      | _, _, _ => False
    | _, _, _ => False
  | _ => False
theorem push_all : ∀ (ns : List Int) (s : ByteArray), ns.foldl (fun r n => r.push (UInt8.ofNat n.toNat)) s = ⟨s.data ++ (toBytes ns).toArray⟩
  | [], s => by cases s; simp [toBytes]
  | n :: ns, s => by
    rw [List.foldl_cons, push_all ns]
    cases s
    simp [toBytes, ByteArray.push]
theorem evBStr_sound {P : Program} {T : List (Nat × TyI)} (hT : TOk P T) {s d : TypeId} {x : SV} {hp : List HB} {K : SV → Prop} (h : evBStr T s d x hp K) {w0 w : World} (hw : Holds w0 w hp) :
    ∃ v, K v ∧ (convert s d (den x)).run P w = .ok (den v) w := by
  unfold evBStr at h
  split at h
  · rename_i i a k st n cap
    split at h
    · rename_i b e _ _ _ _ _ _ _ hb hs hd
      split at h
      · rename_i bs _ _ _ hC hcts he
        obtain ⟨⟨hnm, ha, rfl, rfl⟩, h⟩ := h
        cases a with
        | none => cases ha
        | some nm =>
          refine ⟨_, h, ?_⟩
          have hus := ((hT _ _ hs).und).1
          have hue := (hT _ _ he).und
          have hud := (hT _ _ hd).und
          have hbk := hw.blk _ (List.mem_of_getElem? hb)
          simp only [den, Option.map_some, Nat.zero_mul, Nat.add_zero]
          rw [run_convert_bytes_string w s d e _ _ _ hus hue hud]
          have hload : (loadCells ⟨nm.g, nm.b, none⟩ bs.length).run P w = .ok (bs.map (Value.int .u8)).toArray w := by
            rw [run_loadCells_in P w nm.g nm.b bs.length (fun j => den (b.cts.get j)) (fun j hj => hbk.cell hnm (by rw [hcts]; simpa [Cts.n, Cts.len, Cts.s] using hj) (HB.isC_kd hC))]
            congr 2
            refine List.ext_getElem (by simp) fun j h1 h2 => ?_
            have hj : j < bs.length := by simpa using h1
            simp only [List.getElem_map, List.getElem_range, hcts, yx_get, den]
            simp [List.getD_eq_getElem?_getD, hj]
          rw [run_bytesToString w _ _ _ bs hload, push_all]
          simp [den]
      · exact h.elim
    · exact h.elim
  · exact h.elim
end Go.Sy
