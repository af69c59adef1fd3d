/- Many steps; periods; cells told part by part. -/
import Derived.Test.YtpagagbokinjiaaSpMove
import Derived.Test.YtpagagbokinjiaaSpRule
set_option linter.unusedSimpArgs false
set_option linter.unusedVariables false
set_option linter.unusedSectionVars false
namespace Go.Sy

/-! ### Cells whose parts are told one after the other -/
def cutC (d : Nat) (c : Cel) : Cel := ⟨if 0 < d then c.e else 0, if 1 < d then c.n else 0, if 2 < d then c.w else 0, if 3 < d then c.s else 0⟩
def qpart (n : Nat) (F : Nat → Cel) (k d : Nat) : List Cel := tab n fun j => if j < k then F j else if j = k then cutC d (F j) else ⟨0, 0, 0, 0⟩
theorem qpart_length (n : Nat) (F : Nat → Cel) (k d : Nat) : (qpart n F k d).length = n := tab_length _ _
theorem qpart_zero (n : Nat) (F : Nat → Cel) : qpart n F 0 0 = List.replicate n ⟨0, 0, 0, 0⟩ := by
  unfold qpart tab
  rw [show List.replicate n (⟨0, 0, 0, 0⟩ : Cel) = List.replicate (List.range n).length ⟨0, 0, 0, 0⟩ by rw [List.length_range], ← List.map_const']
  refine List.map_congr_left fun i _ => ?_
  simp [cutC]
theorem qpart_next (n : Nat) (F : Nat → Cel) (k : Nat) : qpart n F k 4 = qpart n F (k + 1) 0 := by
  refine tab_congr fun i hi => ?_
  by_cases h1 : i < k
  · rw [if_pos h1, if_pos (by omega)]
  · by_cases h2 : i = k
    · rw [if_neg h1, if_pos h2, if_pos (by omega)]; rfl
    · rw [if_neg h1, if_neg h2, if_neg (by omega)]
      by_cases h3 : i = k + 1
      · rw [if_pos h3]; rfl
      · rw [if_neg h3]
theorem qpart_full (n : Nat) (F : Nat → Cel) {k : Nat} (hk : n ≤ k) : qpart n F k 0 = tab n F := tab_congr fun i hi => by rw [if_pos (by omega)]
theorem qpart_set {n : Nat} {F : Nat → Cel} {k d : Nat} (hk : k < n) {v : Cel} (hv : v = cutC (d + 1) (F k)) : qpart n F k (d + 1) = (qpart n F k d).set k v := by
  refine Eq.symm (tab_set fun i hi => ?_)
  by_cases e : i = k
  · subst e; simp [hv]
  · rw [if_neg e]
    by_cases h1 : i < k
    · rw [if_pos h1, if_neg e, if_pos h1]
    · rw [if_neg h1, if_neg e, if_neg h1, if_neg e]
theorem qpart_at {n : Nat} {F : Nat → Cel} {k : Nat} (d : Nat) (hk : k < n) : (qpart n F k d).getD k default = cutC d (F k) := by
  unfold qpart; rw [tab_at _ hk, if_neg (Nat.lt_irrefl k), if_pos rfl]
section
variable {n : Nat} {F : Nat → Cel} {k : Nat} (hk : k < n) {v : Int}
include hk
theorem q_e (hv : v = (F k).e) : qpart n F k 1 = (qpart n F k 0).set k ⟨v, ((qpart n F k 0).getD k default).n, ((qpart n F k 0).getD k default).w, ((qpart n F k 0).getD k default).s⟩ := by
  subst hv; rw [qpart_at _ hk]; exact qpart_set hk (by simp [cutC])
theorem q_n (hv : v = (F k).n) : qpart n F k 2 = (qpart n F k 1).set k ⟨((qpart n F k 1).getD k default).e, v, ((qpart n F k 1).getD k default).w, ((qpart n F k 1).getD k default).s⟩ := by
  subst hv; rw [qpart_at _ hk]; exact qpart_set hk (by simp [cutC])
theorem q_w (hv : v = (F k).w) : qpart n F k 3 = (qpart n F k 2).set k ⟨((qpart n F k 2).getD k default).e, ((qpart n F k 2).getD k default).n, v, ((qpart n F k 2).getD k default).s⟩ := by
  subst hv; rw [qpart_at _ hk]; exact qpart_set hk (by simp [cutC])
theorem q_s (hv : v = (F k).s) : qpart n F k 4 = (qpart n F k 3).set k ⟨((qpart n F k 3).getD k default).e, ((qpart n F k 3).getD k default).n, ((qpart n F k 3).getD k default).w, v⟩ := by
  subst hv; rw [qpart_at _ hk]; exact qpart_set hk (by simp [cutC])
end
theorem revC_tab (cs : List Cel) : tab cs.length (fun j => (cs.getD j default).rev) = revC cs := by
  apply List.ext_getElem?
  intro i
  by_cases h : i < cs.length
  · simp [tab, revC, h]
  · simp [tab, revC, h]
theorem revC_length (cs : List Cel) : (revC cs).length = cs.length := by simp [revC]
theorem revC_prog {cs : List Cel} (h : okL cs = true) {k : Nat} (hk : cs.length ≤ k) : prog (fun j => ((cs.getD j default).turned 2).1) k cs = revC cs := by
  rw [prog_full _ _ hk, ← revC_tab]
  refine List.map_congr_left fun i hi => ?_
  have ho := okL_at h (List.mem_range.1 hi)
  simp only [Cel.turned, ho, if_true]
  rfl
def revG (g : Grd) : Grd := if g.ok then ⟨g.w, g.h, revC g.cs⟩ else ⟨0, 0, []⟩
theorem rev_ways (g : Grd) : (g.ok = false ∧ g.err = 1 ∧ revG g = ⟨0, 0, []⟩) ∨ (g.ok = true ∧ g.err = 0 ∧ revG g = ⟨g.w, g.h, revC g.cs⟩ ∧ (1 ≤ g.cs.length ∧ g.cs.length ≤ 1024) ∧ ∀ k, k < g.cs.length → (g.cs.getD k default).ok = true) := by
  cases h : g.ok
  · exact .inl ⟨rfl, by simp [Grd.err, h], by simp [revG, h]⟩
  · have := gok_bds h
    exact .inr ⟨rfl, by simp [Grd.err, h], by simp [revG, h], by omega, fun k hk => okL_at (gok_okL h) hk⟩
theorem gok_rev {g : Grd} (h : g.ok = true) : (⟨g.w, g.h, revC g.cs⟩ : Grd).ok = true := by
  obtain ⟨h1, h2, h3, h4⟩ := Grd.ok_iff.1 h
  have key : ∀ cs : List Cel, massL (revC cs) = massL cs := fun cs => by
    induction cs with
    | nil => rfl
    | cons c cs ih => simp only [revC, List.map_cons, massL, Cel.m, Cel.rev] at *; omega
  refine gok_mk h1 (by rw [revC_length]; exact h2) (fun c hc => ?_) (by rw [key]; exact h4)
  obtain ⟨x, hx, rfl⟩ := List.mem_map.1 hc
  have := okL_nn (gok_okL h) x hx
  simp only [Cel.rev]; omega
theorem revC_revC (cs : List Cel) : revC (revC cs) = cs := by
  unfold revC
  rw [List.map_map]
  exact (List.map_congr_left fun c _ => rfl).trans (List.map_id _)
/-- P2.4. -/
theorem stream_rev {g : Grd} (h : g.ok = true) : revC (flow g.w g.h 1 (revC g.cs)) = flow g.w g.h (-1) g.cs := by
  obtain ⟨h1, h2, h3, h4⟩ := Grd.ok_iff.1 h
  exact flow_rev (by omega) (by omega) h2 1

/-! ### Steps, one after the other -/
def runC (w h : Int) (ρ : Nat → Rul) (cs : List Cel) : Nat → List Cel
  | 0 => cs
  | k + 1 => flow w h 1 (aft (ρ k) (runC w h ρ cs k))
def bakC (w h : Int) (ρ : Nat → Rul) (cs : List Cel) : Nat → List Cel
  | 0 => cs
  | k + 1 => aft (ρ k).inv (flow w h (-1) (bakC w h ρ cs k))
theorem runC_length (w h : Int) (ρ : Nat → Rul) (cs : List Cel) : ∀ k, (runC w h ρ cs k).length = cs.length
  | 0 => rfl
  | k + 1 => by rw [runC, flow_length, aft_length, runC_length w h ρ cs k]
theorem bakC_length (w h : Int) (ρ : Nat → Rul) (cs : List Cel) : ∀ k, (bakC w h ρ cs k).length = cs.length
  | 0 => rfl
  | k + 1 => by rw [bakC, aft_length, flow_length, bakC_length w h ρ cs k]
theorem runC_ok {g : Grd} {ρ : Nat → Rul} (h : g.ok = true) (hr : ∀ k, (ρ k).ok = true) : ∀ k, (⟨g.w, g.h, runC g.w g.h ρ g.cs k⟩ : Grd).ok = true
  | 0 => h
  | k + 1 => gok_flow (g := ⟨g.w, g.h, aft (ρ k) (runC g.w g.h ρ g.cs k)⟩) 1 (gok_aft (hr k) (runC_ok h hr k))
theorem bakC_ok {g : Grd} {ρ : Nat → Rul} (h : g.ok = true) (hr : ∀ k, (ρ k).ok = true) : ∀ k, (⟨g.w, g.h, bakC g.w g.h ρ g.cs k⟩ : Grd).ok = true
  | 0 => h
  | k + 1 => gok_aft (g := ⟨g.w, g.h, flow g.w g.h (-1) (bakC g.w g.h ρ g.cs k)⟩) (Rul.inv_ok (hr k)) (gok_flow (-1) (bakC_ok h hr k))
theorem aft_prog (r : Rul) (cs : List Cel) {k : Nat} (hk : cs.length ≤ k) : prog (fun j => (cs.getD j default).after r) k cs = aft r cs := by
  rw [prog_full _ _ hk]
  apply List.ext_getElem?
  intro i
  by_cases h : i < cs.length
  · simp [aft, h]
  · simp [aft, h]
theorem aftc_prog {r : Rul} (hr : r.ok = true) {cs : List Cel} (h : okL cs = true) {k : Nat} (hk : cs.length ≤ k) : prog (fun j => ((cs.getD j default).collide r).1) k cs = aft r cs := by
  rw [← aft_prog r cs hk, prog_full _ _ hk, prog_full _ _ hk]
  refine List.map_congr_left fun i hi => ?_
  have ho := okL_at h (List.mem_range.1 hi)
  simp only [Cel.collide, ho, hr, Bool.and_true, if_true]
theorem aftu_prog {r : Rul} (hr : r.ok = true) {cs : List Cel} (h : okL cs = true) {k : Nat} (hk : cs.length ≤ k) : prog (fun j => ((cs.getD j default).undo r).1) k cs = aft r.inv cs := by
  rw [← aft_prog r.inv cs hk, prog_full _ _ hk, prog_full _ _ hk]
  refine List.map_congr_left fun i hi => ?_
  have ho := okL_at h (List.mem_range.1 hi)
  simp only [Cel.undo, ho, hr, Bool.and_true, if_true]
theorem runC_add (w h : Int) (ρ : Nat → Rul) (cs : List Cel) (m : Nat) : ∀ n, runC w h ρ cs (m + n) = runC w h (fun i => ρ (m + i)) (runC w h ρ cs m) n
  | 0 => rfl
  | n + 1 => by rw [← Nat.add_assoc, runC, runC_add w h ρ cs m n, runC]
theorem runC_congr {w h : Int} {ρ σ : Nat → Rul} {cs : List Cel} : ∀ {n : Nat}, (∀ i, i < n → ρ i = σ i) → runC w h ρ cs n = runC w h σ cs n
  | 0, _ => rfl
  | n + 1, hi => by rw [runC, runC, runC_congr fun i h => hi i (by omega), hi n (by omega)]
theorem bakC_front (w h : Int) (ρ : Nat → Rul) (cs : List Cel) : ∀ k, bakC w h ρ cs (k + 1) = bakC w h (fun i => ρ (i + 1)) (aft (ρ 0).inv (flow w h (-1) cs)) k
  | 0 => rfl
  | k + 1 => by rw [bakC, bakC_front w h ρ cs k, bakC]
theorem bakC_congr {w h : Int} {ρ σ : Nat → Rul} {cs : List Cel} : ∀ {n : Nat}, (∀ i, i < n → ρ i = σ i) → bakC w h ρ cs n = bakC w h σ cs n
  | 0, _ => rfl
  | n + 1, hi => by rw [bakC, bakC, bakC_congr fun i h => hi i (by omega), hi n (by omega)]
theorem undone {g : Grd} {ρ : Nat → Rul} (h : g.ok = true) (hr : ∀ k, (ρ k).ok = true) : ∀ n, bakC g.w g.h (fun i => ρ (n - 1 - i)) (runC g.w g.h ρ g.cs n) n = g.cs
  | 0 => rfl
  | n + 1 => by
    rw [bakC_front]
    have e := Grd.back_step (runC_ok h hr n) (hr n)
    simp only [Grd.back, Grd.step, Grd.mk.injEq, true_and] at e
    rw [show n + 1 - 1 - 0 = n by omega, runC, e]
    refine Eq.trans (bakC_congr fun i hi => ?_) (undone h hr n)
    show ρ (n + 1 - 1 - (i + 1)) = ρ (n - 1 - i)
    rw [show n + 1 - 1 - (i + 1) = n - 1 - i by omega]
theorem runC_sums {g : Grd} {ρ : Nat → Rul} (h : g.ok = true) (hr : ∀ k, (ρ k).ok = true) : ∀ n, massL (runC g.w g.h ρ g.cs n) = massL g.cs ∧ eastL (runC g.w g.h ρ g.cs n) = eastL g.cs ∧ northL (runC g.w g.h ρ g.cs n) = northL g.cs
  | 0 => ⟨rfl, rfl, rfl⟩
  | n + 1 => by
    have ih := runC_sums h hr n
    have := Grd.step_sums (ρ n) (runC_ok h hr n)
    simp only [Grd.step] at this
    exact ⟨this.1.trans ih.1, this.2.1.trans ih.2.1, this.2.2.trans ih.2.2⟩

/-! ### Periods -/
def perF (w h : Int) (r : Rul) (cs : List Cel) : Nat → Nat → Int × Int
  | 0, _ => (0, 8)
  | n + 1, k => if runC w h (fun _ => r) cs (k + 1) = cs then ((k : Int) + 1, 0) else perF w h r cs n (k + 1)
def perV (g : Grd) (r : Rul) (most : Int) : Int × Int := if g.ok && r.ok then (if 1 ≤ most ∧ most ≤ 1000 then perF g.w g.h r g.cs most.toNat 0 else (0, 7)) else (0, 1)
theorem per_hit {w h : Int} {r : Rul} {cs : List Cel} {n k : Nat} (hk : k < n) (e : runC w h (fun _ => r) cs (k + 1) = cs) : perF w h r cs (n - k) k = ((k : Int) + 1, 0) := by
  rw [show n - k = (n - k - 1) + 1 by omega, perF, if_pos e]
theorem per_miss {w h : Int} {r : Rul} {cs : List Cel} {n k : Nat} (hk : k < n) (e : ¬ runC w h (fun _ => r) cs (k + 1) = cs) : perF w h r cs (n - k) k = perF w h r cs (n - (k + 1)) (k + 1) := by
  rw [show n - k = (n - (k + 1)) + 1 by omega, perF, if_neg e]
theorem per_end {w h : Int} {r : Rul} {cs : List Cel} {n k : Nat} (hk : n ≤ k) : perF w h r cs (n - k) k = (0, 8) := by
  rw [show n - k = 0 by omega, perF]
theorem per_back {w h : Int} {r : Rul} {cs : List Cel} : ∀ {n k : Nat}, (perF w h r cs n k).2 = 0 → ∃ m : Nat, (perF w h r cs n k).1 = (m : Int) + 1 ∧ m < n + k ∧ runC w h (fun _ => r) cs (m + 1) = cs
  | 0, k, h => by simp [perF] at h
  | n + 1, k, h => by
    unfold perF at h ⊢
    split at h
    · rename_i e; rw [if_pos e]; exact ⟨k, rfl, by omega, e⟩
    · rename_i e; rw [if_neg e]
      obtain ⟨m, h1, h2, h3⟩ := per_back h
      exact ⟨m, h1, by omega, h3⟩
theorem perV_ways (g : Grd) (r : Rul) (most : Int) : (g.ok = false ∧ True ∧ perV g r most = (0, 1)) ∨ (g.ok = true ∧ r.ok = false ∧ perV g r most = (0, 1)) ∨ (g.ok = true ∧ r.ok = true ∧ ¬ (1 ≤ most ∧ most ≤ 1000) ∧ perV g r most = (0, 7)) ∨
    (g.ok = true ∧ r.ok = true ∧ (1 ≤ most ∧ most ≤ 1000) ∧ perV g r most = perF g.w g.h r g.cs most.toNat 0 ∧ (1 ≤ g.cs.length ∧ g.cs.length ≤ 1024) ∧ ∀ k, (⟨g.w, g.h, runC g.w g.h (fun _ => r) g.cs k⟩ : Grd).ok = true ∧ okL (runC g.w g.h (fun _ => r) g.cs k) = true ∧ (runC g.w g.h (fun _ => r) g.cs k).length = g.cs.length) := by
  cases h : g.ok
  · exact .inl ⟨rfl, trivial, by simp [perV, h]⟩
  · cases hr : r.ok
    · exact .inr (.inl ⟨rfl, rfl, by simp [perV, hr]⟩)
    · by_cases hm : 1 ≤ most ∧ most ≤ 1000
      · exact .inr (.inr (.inr ⟨rfl, rfl, hm, by simp [perV, h, hr, hm], by have := gok_bds h; omega, fun k => by
          have := runC_ok h (fun _ => hr) k
          exact ⟨this, gok_okL this, runC_length ..⟩⟩))
      · exact .inr (.inr (.inl ⟨rfl, rfl, hm, by simp only [perV, h, hr, Bool.and_true, if_true, if_neg hm]⟩))
theorem awakePer : perV ⟨3, 1, [⟨1, 0, 0, 0⟩, ⟨0, 0, 0, 0⟩, ⟨0, 0, 0, 0⟩]⟩ ⟨0, 0⟩ 9 = (3, 0) := by decide
theorem gne_w {a b : Grd} (h : a.w ≠ b.w) : decide (a = b) = false := decide_eq_false fun e => h (by rw [e])
theorem gne_h {a b : Grd} (h : a.h ≠ b.h) : decide (a = b) = false := decide_eq_false fun e => h (by rw [e])
theorem geq_c {a b : Grd} (hw : a.w = b.w) (hh : a.h = b.h) : decide (a.cs = b.cs) = decide (a = b) := by
  obtain ⟨w, h, cs⟩ := a
  obtain ⟨w', h', cs'⟩ := b
  simp only at hw hh
  subst hw; subst hh
  exact decide_eq_decide.2 ⟨fun e => by have e : cs = cs' := e; rw [e], fun e => by injection e⟩
theorem prog_upd (G : Cel → Cel) {xs : List Cel} {k : Nat} (hk : k < xs.length) : prog (fun j => G (xs.getD j default)) (k + 1) xs = (prog (fun j => G (xs.getD j default)) k xs).set k (G ((prog (fun j => G (xs.getD j default)) k xs).getD k default)) := by
  rw [prog_getD _ _ _ hk, if_neg (Nat.lt_irrefl k)]
  exact (prog_set _ _ _ rfl).symm
theorem aftc_hq {w h : Int} {r : Rul} (hr : r.ok = true) {cs : List Cel} (ho : okL cs = true) {k : Nat} (hk : cs.length ≤ k) : flow w h 1 (prog (fun j => ((cs.getD j default).collide r).1) k cs) = flow w h 1 (aft r cs) := by rw [aftc_prog hr ho hk]
theorem dec_t {a b : List Cel} (h : decide (a = b) = true) : a = b := of_decide_eq_true h
theorem dec_f {a b : List Cel} (h : decide (a = b) = false) : ¬ a = b := of_decide_eq_false h
theorem revG_ok {g : Grd} (h : g.ok = true) : revG g = ⟨g.w, g.h, revC g.cs⟩ := by simp [revG, h]
theorem gs_ways (g : Grd) : (g.ok = false ∧ g.err = 1 ∧ (streamG 1 g).cs.length = 0 ∧ (streamG (-1) g).cs.length = 0 ∧ (revG g).cs.length = 0) ∨
    (g.ok = true ∧ g.err = 0 ∧ (revG g).err = 0 ∧ (streamG 1 (revG g)).err = 0 ∧ revG (streamG 1 (revG g)) = streamG (-1) g ∧
      ((streamG 1 g).cs.length = g.cs.length ∧ (streamG (-1) g).cs.length = g.cs.length ∧ (revG g).cs.length = g.cs.length ∧ (streamG 1 (revG g)).cs.length = g.cs.length ∧ (revG (streamG 1 (revG g))).cs.length = g.cs.length ∧ 1 ≤ g.cs.length ∧ g.cs.length ≤ 1024)) := by
  cases h : g.ok
  · exact .inl ⟨rfl, by simp [Grd.err, h], by simp [streamG, h], by simp [streamG, h], by simp [revG, h]⟩
  · have hb := gok_bds h
    have e1 : revG g = ⟨g.w, g.h, revC g.cs⟩ := by simp [revG, h]
    have o1 : (revG g).ok = true := by rw [e1]; exact gok_rev h
    have e2 : streamG 1 (revG g) = ⟨g.w, g.h, flow g.w g.h 1 (revC g.cs)⟩ := by simp only [streamG, o1, if_true]; rw [e1]
    have o2 : (streamG 1 (revG g)).ok = true := by rw [e2]; exact gok_flow (g := ⟨g.w, g.h, revC g.cs⟩) 1 (gok_rev h)
    have e3 : revG (streamG 1 (revG g)) = ⟨g.w, g.h, flow g.w g.h (-1) g.cs⟩ := (revG_ok o2).trans (by rw [e2]; simp only [stream_rev h])
    have e4 : streamG (-1) g = ⟨g.w, g.h, flow g.w g.h (-1) g.cs⟩ := by simp [streamG, h]
    refine .inr ⟨rfl, by simp [Grd.err, h], by simp [Grd.err, o1], by simp [Grd.err, o2], e3.trans e4.symm, ?_⟩
    rw [e3, e2, e1, e4]
    refine ⟨by simp [streamG, h, flow_length], by simp [flow_length], by simp [revC_length], by simp [flow_length, revC_length], by simp [flow_length], by omega, by omega⟩
end Go.Sy

/- Runs of a grid by a list of rules. -/
set_option linter.unusedSimpArgs false
set_option linter.unusedVariables false
set_option linter.unusedSectionVars false
namespace Go.Sy
def rho (l : List Rul) (t : Int) (k : Nat) : Rul := l.getD ((t + (k : Int)).tmod (l.length : Int)).toNat default
def timesP (t n : Int) : Prop := (0 ≤ t ∧ t ≤ 1000000) ∧ (0 ≤ n ∧ n ≤ 1000) ∧ (0 < n → t + n - 1 ≤ 1000000)
instance (t n : Int) : Decidable (timesP t n) := by unfold timesP; exact inferInstance
def runE (g : Grd) (l : List Rul) (t n : Int) : Int := if g.ok && rulesB l then (if timesP t n then 0 else 7) else 1
def runG (g : Grd) (l : List Rul) (t n : Int) : Grd := if runE g l t n = 0 then ⟨g.w, g.h, runC g.w g.h (rho l t) g.cs n.toNat⟩ else ⟨0, 0, []⟩
def undoG (g : Grd) (l : List Rul) (t n : Int) : Grd := if runE g l t n = 0 then ⟨g.w, g.h, bakC g.w g.h (fun i => rho l t (n.toNat - 1 - i)) g.cs n.toNat⟩ else ⟨0, 0, []⟩
theorem rho_ok {l : List Rul} (h : rulesB l = true) {t : Int} (ht : 0 ≤ t) (k : Nat) : (rho l t k).ok = true ∧ 0 ≤ (t + (k : Int)).tmod (l.length : Int) ∧ (t + (k : Int)).tmod (l.length : Int) < l.length := by
  obtain ⟨⟨h1, h2⟩, h3⟩ := rulesB_iff.1 h
  have hm := mod_len (s := t + (k : Int)) (n := l.length) (by omega) h1
  exact ⟨getD_ok h3 hm.2.2, hm.1, hm.2.1⟩
theorem run_ways (g : Grd) (l : List Rul) (t n : Int) : (g.ok = false ∧ True ∧ True ∧ runE g l t n = 1 ∧ runG g l t n = ⟨0, 0, []⟩ ∧ undoG g l t n = ⟨0, 0, []⟩) ∨ (g.ok = true ∧ rulesB l = false ∧ True ∧ runE g l t n = 1 ∧ runG g l t n = ⟨0, 0, []⟩ ∧ undoG g l t n = ⟨0, 0, []⟩) ∨
    (g.ok = true ∧ rulesB l = true ∧ ¬ ((0 ≤ t ∧ t ≤ 1000000) ∧ (0 ≤ n ∧ n ≤ 1000) ∧ (0 < n → t + n - 1 ≤ 1000000)) ∧ runE g l t n = 7 ∧ runG g l t n = ⟨0, 0, []⟩ ∧ undoG g l t n = ⟨0, 0, []⟩) ∨
    (g.ok = true ∧ rulesB l = true ∧ ((0 ≤ t ∧ t ≤ 1000000) ∧ (0 ≤ n ∧ n ≤ 1000) ∧ (0 < n → t + n - 1 ≤ 1000000)) ∧ runE g l t n = 0 ∧ runG g l t n = ⟨g.w, g.h, runC g.w g.h (rho l t) g.cs n.toNat⟩ ∧ undoG g l t n = ⟨g.w, g.h, bakC g.w g.h (fun i => rho l t (n.toNat - 1 - i)) g.cs n.toNat⟩ ∧
      (1 ≤ l.length ∧ l.length ≤ 8) ∧ (1 ≤ g.cs.length ∧ g.cs.length ≤ 1024) ∧ (∀ k, (rho l t k).ok = true ∧ 0 ≤ (t + (k : Int)).tmod (l.length : Int) ∧ (t + (k : Int)).tmod (l.length : Int) < l.length) ∧
      (∀ k, (⟨g.w, g.h, runC g.w g.h (rho l t) g.cs k⟩ : Grd).ok = true ∧ okL (runC g.w g.h (rho l t) g.cs k) = true ∧ (runC g.w g.h (rho l t) g.cs k).length = g.cs.length) ∧
      (∀ k, (⟨g.w, g.h, bakC g.w g.h (fun i => rho l t (n.toNat - 1 - i)) g.cs k⟩ : Grd).ok = true ∧ okL (bakC g.w g.h (fun i => rho l t (n.toNat - 1 - i)) g.cs k) = true ∧ (bakC g.w g.h (fun i => rho l t (n.toNat - 1 - i)) g.cs k).length = g.cs.length)) := by
  have no : runE g l t n ≠ 0 → runG g l t n = ⟨0, 0, []⟩ ∧ undoG g l t n = ⟨0, 0, []⟩ := fun h => ⟨if_neg h, if_neg h⟩
  cases h : g.ok
  · have e : runE g l t n = 1 := by simp [runE, h]
    have := no (by omega)
    exact .inl ⟨rfl, trivial, trivial, e, this.1, this.2⟩
  · cases hr : rulesB l
    · have e : runE g l t n = 1 := by simp [runE, hr]
      have := no (by omega)
      exact .inr (.inl ⟨rfl, rfl, trivial, e, this.1, this.2⟩)
    · by_cases ht : timesP t n
      · have e : runE g l t n = 0 := by simp [runE, h, hr, ht]
        have hb := gok_bds h
        have h1 := rulesB_iff.1 hr
        have ho := fun k => rho_ok hr ht.1.1 k
        refine .inr (.inr (.inr ⟨rfl, rfl, ht, e, if_pos e, if_pos e, h1.1, by omega, ho, fun k => ?_, fun k => ?_⟩))
        · have := runC_ok h (fun k => (ho k).1) k
          exact ⟨this, gok_okL this, runC_length ..⟩
        · have := bakC_ok h (ρ := fun i => rho l t (n.toNat - 1 - i)) (fun k => (ho _).1) k
          exact ⟨this, gok_okL this, bakC_length ..⟩
      · have e : runE g l t n = 7 := by simp only [runE, h, hr, Bool.and_true, if_true, if_neg ht]
        have := no (by omega)
        exact .inr (.inr (.inl ⟨rfl, rfl, ht, e, this.1, this.2⟩))
theorem aftc_fl {w h : Int} {r : Rul} (hr : r.ok = true) {cs : List Cel} (ho : okL cs = true) {k : Nat} (hk : cs.length ≤ k) : flow w h 1 (prog (fun j => ((cs.getD j default).collide r).1) k cs) = flow w h 1 (aft r cs) := by rw [aftc_prog hr ho hk]
theorem gcs_t {w h : Int} {cs : List Cel} {g : Grd} (e : decide ((⟨w, h, cs⟩ : Grd) = g) = true) : decide (cs = g.cs) = true := by
  have e := of_decide_eq_true e
  subst e; simp
theorem gcs_f {g : Grd} {cs : List Cel} (e : decide ((⟨g.w, g.h, cs⟩ : Grd) = g) = false) : decide (cs = g.cs) = false := by
  have e := of_decide_eq_false e
  exact decide_eq_false fun h => e (by rw [h])
theorem rho_one (r : Rul) (t : Int) (k : Nat) : rho [r] t k = r := by
  unfold rho
  rw [show (([r] : List Rul).length : Int) = 1 from rfl, Int.tmod_one]; rfl
theorem rules_one {r : Rul} (h : r.ok = true) : rulesB [r] = true := by simp [rulesB, h]
theorem per_law (g : Grd) (r : Rul) (most : Int) : (perV g r most).2 ≠ 0 ∨ ((perV g r most).2 = 0 ∧ g.ok = true ∧ runE g [r] 7 (perV g r most).1 = 0 ∧ runG g [r] 7 (perV g r most).1 = g ∧ 0 ≤ (perV g r most).1 ∧ (perV g r most).1 ≤ 1000) := by
  rcases perV_ways g r most with ⟨_, _, hP⟩ | ⟨_, _, hP⟩ | ⟨_, _, _, hP⟩ | ⟨hv, hr, hm, hP, hbb, hru⟩
  · exact .inl (by rw [hP]; simp)
  · exact .inl (by rw [hP]; simp)
  · exact .inl (by rw [hP]; simp)
  · by_cases h0 : (perV g r most).2 = 0
    · refine .inr ⟨h0, hv, ?_⟩
      rw [hP] at h0 ⊢
      obtain ⟨m, e1, e2, e3⟩ := per_back h0
      have hE : runE g [r] 7 (perF g.w g.h r g.cs most.toNat 0).1 = 0 := by
        rw [e1]; unfold runE
        rw [hv, rules_one hr, Bool.and_true, if_pos rfl, if_pos (show timesP 7 ((m : Int) + 1) by unfold timesP; omega)]
      refine ⟨hE, ?_, by omega, by omega⟩
      unfold runG
      rw [if_pos hE, e1, show ((m : Int) + 1).toNat = m + 1 by omega, runC_congr (σ := fun _ => r) fun i _ => rho_one r 7 i, e3]
    · exact .inl h0
end Go.Sy
