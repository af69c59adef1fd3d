/- The library's sort of whole numbers, as a contract that turns a block. -/
import Derived.Test.YtijealodlgdgaaaSpRec
import Derived.Shelf.Sort.Plain
set_option linter.unusedSimpArgs false
set_option linter.unusedVariables false
namespace Go.Sy
open Go.RowKit
/-- The numbers, in order. -/
def srt (xs : List Int) : List Int := xs.mergeSort fun x y => decide (x ≤ y)
theorem srt_len (xs : List Int) : (srt xs).length = xs.length := by unfold srt; exact List.length_mergeSort xs
theorem srt_mem {xs : List Int} {x : Int} : x ∈ srt xs ↔ x ∈ xs := by unfold srt; exact List.mem_mergeSort
theorem srt_in {xs : List Int} {P : Int → Prop} (h : ∀ x ∈ xs, P x) : ∀ i, i < (srt xs).length → P ((srt xs).getD i 0) := fun i hi => by
  refine h _ (srt_mem.1 ?_)
  rw [List.getD_eq_getElem?_getD, List.getElem?_eq_getElem hi]
  exact List.getElem_mem hi
def c_sort : ECtr := fun args hp K => match args with
  | [.sl i a 0 1 n cap] => (match hp[i]? with
    | some ⟨a1, o, .wr t m, .ix xs⟩ => (noGh hp = true ∧ a = a1 ∧ a.isSome = true ∧ n = xs.length) ∧ xs.length < 4611686018427387904 ∧ setHK hp i ⟨a, o, .wr t m, .ix (srt xs)⟩ fun hq => K (.tup []) hq
    | _ => False)
  | _ => False
theorem sort_eok {P : Program} {ρ : Go.Shelf.Ren} (Ly : Go.Proofs.Lays.n189 P ρ) (he : Enters P (ρ.f 189)) : EOk P (ρ.f 189) c_sort :=
  ⟨he, fun args hp K hc w0 w hw => by
    unfold c_sort at hc
    split at hc
    · rename_i i a n cap
      split at hc
      · rename_i a1 o t m xs hi
        obtain ⟨⟨hng, rfl, hs, rfl⟩, hl, hK⟩ := hc
        obtain ⟨nm, rfl⟩ := Option.isSome_iff_exists.1 hs
        rw [setHK_eq] at hK
        obtain ⟨hb0, cs, hcs, hcsz, hcap, hcell⟩ := hw.blk _ (List.mem_of_getElem? hi)
        simp only [Cts.n, Cts.s, Cts.len] at hb0 hcs hcsz hcap hcell
        have hsz : xs.length ≤ cs.size := by rw [hcsz]; simpa using hcap
        have hlt : nm.g < w.heap.size := by
          rw [Array.getElem?_eq_some_iff] at hcs; exact hcs.1
        have hH : Go.Sort.Holds (Value.int .i64) w nm.g 0 xs.toArray := fun j hj => by
          have hj : j < xs.length := by simpa using hj
          have h1 := hcell j (by simpa using hj)
          have hg : (Cts.ix xs).get j = .int .i64 (xs.getD j 0) := by simp [Cts.get, Cts.row, Cts.s, Nat.mod_one]
          rw [hg] at h1
          have hx : xs.toArray[j]! = xs.getD j 0 := by
            rw [getElem!_pos _ j (by simpa using hj), List.getD_eq_getElem?_getD, List.getElem?_eq_getElem hj]; simp
          refine ⟨?_, ?_⟩
          · simp only [World.cell?, hcs, Nat.zero_add]
            rw [hx]
            simpa [den] using h1
          · simp only [World.frozen?, hcs, Nat.zero_add]
            simp
        have hc := Go.Proofs.Any.slices_Sort_int Ly nm.g 0 cap xs w hH hlt hl
        have e : (denL [SV.sl i (some nm) 0 1 xs.length cap]).toArray = #[.slice (some ⟨nm.g, 0, none⟩) xs.length cap] := by simp [denL, den, hb0]
        rw [e]
        refine hc.mono fun e w' ⟨he, k, os, hw'⟩ => ⟨.tup [], _, hK, by rw [he]; rfl, ?_⟩
        have hd : (srt xs).toArray.size = xs.length := by simp [srt_len]
        have h1 : (Go.Sort.putRow (Value.int .i64) (Go.Sort.ahead w k) nm.g 0 (srt xs).toArray).heap[nm.g]? = some (.cells (Go.Sort.putCells (Value.int .i64) 0 (srt xs).toArray cs) t (0, 0)) := by
          simp [Go.Sort.putRow, Go.Sort.mapBlock, Go.Sort.ahead, Array.getElem?_modify, hcs, Go.Sort.onCells]
        have h2 : Holds w0 (Go.Sort.putRow (Value.int .i64) (Go.Sort.ahead w k) nm.g 0 (srt xs).toArray) (hp.set i ⟨some nm, o, .wr t m, .ix (srt xs)⟩) := by
          refine hw.turn hi (g := nm.g) rfl (noGh_mem hng) rfl ⟨hb0, _, h1, by simp [Go.Sort.putCells, hcsz], by simp only [Cts.n, Cts.len, Cts.s, srt_len]; exact hcap, fun j hj => ?_⟩ (.inl rfl) (fun g' hc => (show nm.g = g' from hc).symm) (fun g' ht => by
            have : nm.g = g' := by simpa [HB.touch, HB.cl, HB.rd] using ht
            exact this.symm) (fun h => .inl h) rfl rfl rfl (by simp) fun q _ hq => ?_
          · have hj : j < xs.length := by simpa [Cts.n, Cts.len, Cts.s, srt_len] using hj
            have hjs : j < (srt xs).length := by rw [srt_len]; exact hj
            have hg : (Cts.ix (srt xs)).get j = .int .i64 ((srt xs).getD j 0) := by simp [Cts.get, Cts.row, Cts.s, Nat.mod_one]
            have hx : (srt xs).toArray[j]! = (srt xs).getD j 0 := by
              rw [getElem!_pos _ j (by simpa using hjs), List.getD_eq_getElem?_getD, List.getElem?_eq_getElem hjs]; simp
            rw [hg]
            simp only [Go.Sort.putCells, Array.getElem?_mapIdx]
            rw [Array.getElem?_eq_getElem (show j < cs.size by omega)]
            simp only [Option.map_some, Nat.zero_le, true_and, Nat.zero_add, hd, hj, if_true, Nat.sub_zero, hx, den]
          · simp only [Go.Sort.putRow, Go.Sort.mapBlock, Go.Sort.ahead, Array.getElem?_modify]
            rw [if_neg (fun e => hq e.symm)]
        rw [hw']
        refine h2.below ⟨rfl, rfl, rfl, by simp, fun q hq => ?_⟩
        simp only [Go.Sort.grow]
        rw [Array.getElem?_append]
        exact if_pos hq
      · exact hc.elim
    · exact hc.elim⟩
end Go.Sy
