/- Steps of a grid: what they keep, how they are undone. -/
import Derived.Test.YtijealodlgdgaaaSpFlow
import Derived.Test.YtijealodlgdgaaaSpKept
set_option linter.unusedSimpArgs false
set_option linter.unusedVariables false
set_option linter.unusedSectionVars false
namespace Go.Sy

/-! ### Sums over lists whose places are mixed -/
theorem perm_of_nodup {l m : List Nat} (hl : l.Nodup) (hs : ∀ x ∈ l, x ∈ m) (hn : m.length ≤ l.length) : l.Perm m := by
  induction l generalizing m with
  | nil =>
    have : m = [] := List.eq_nil_of_length_eq_zero (by simpa using hn)
    subst this; exact .nil
  | cons x l ih =>
    have hx : x ∈ m := hs x (by simp)
    have hnd := List.nodup_cons.1 hl
    have h1 := List.perm_cons_erase hx
    have hlen : m.length = (m.erase x).length + 1 := by have := h1.length_eq; simpa using this
    refine .trans (.cons x (ih hnd.2 (fun y hy => ?_) ?_)) h1.symm
    · have hne : y ≠ x := fun e => hnd.1 (e ▸ hy)
      exact (List.mem_erase_of_ne hne).2 (hs y (by simp [hy]))
    · simp only [List.length_cons] at hn; omega
theorem nodup_map {l : List Nat} {f : Nat → Nat} (hl : l.Nodup) (hf : ∀ x ∈ l, ∀ y ∈ l, f x = f y → x = y) : (l.map f).Nodup := by
  induction l with
  | nil => exact List.nodup_nil
  | cons x l ih =>
    have hnd := List.nodup_cons.1 hl
    rw [List.map_cons, List.nodup_cons]
    refine ⟨fun hm => ?_, ih hnd.2 fun a ha b hb => hf a (by simp [ha]) b (by simp [hb])⟩
    obtain ⟨y, hy, e⟩ := List.mem_map.1 hm
    have := hf y (by simp [hy]) x (by simp) e
    exact hnd.1 (this ▸ hy)
theorem perm_range {n : Nat} {f : Nat → Nat} (hlt : ∀ i, i < n → f i < n) (hf : ∀ i j, i < n → j < n → f i = f j → i = j) : ((List.range n).map f).Perm (List.range n) :=
  perm_of_nodup (nodup_map List.nodup_range fun x hx y hy => hf x y (List.mem_range.1 hx) (List.mem_range.1 hy))
    (fun x hx => by obtain ⟨i, hi, rfl⟩ := List.mem_map.1 hx; exact List.mem_range.2 (hlt i (List.mem_range.1 hi))) (by simp)
def sumI : List Int → Int
  | [] => 0
  | x :: xs => x + sumI xs
theorem sumI_perm {l m : List Int} (h : l.Perm m) : sumI l = sumI m := by
  induction h with
  | nil => rfl
  | cons x _ ih => simp only [sumI, ih]
  | swap x y l => simp only [sumI]; omega
  | trans _ _ h1 h2 => exact h1.trans h2
/-- One part of all cells. -/
def sumP (f : Cel → Int) (cs : List Cel) : Int := sumI (cs.map f)
theorem sums_eq : ∀ cs : List Cel, massL cs = sumP (·.e) cs + sumP (·.n) cs + sumP (·.w) cs + sumP (·.s) cs ∧ eastL cs = sumP (·.e) cs - sumP (·.w) cs ∧ northL cs = sumP (·.n) cs - sumP (·.s) cs
  | [] => by simp [massL, eastL, northL, sumP, sumI]
  | c :: cs => by
    have := sums_eq cs
    simp only [massL, eastL, northL, sumP, sumI, List.map_cons, Cel.m] at *
    omega
theorem sumP_tab (f : Cel → Int) (n : Nat) (g : Nat → Cel) : sumP f (tab n g) = sumI ((List.range n).map fun i => f (g i)) := by
  unfold sumP tab; rw [List.map_map]; rfl
theorem sumP_at (f : Cel → Int) (cs : List Cel) : sumP f cs = sumI ((List.range cs.length).map fun i => f (cs.getD i default)) := by
  rw [← sumP_tab, tab_self]
/-- Parts that come from elsewhere. -/
theorem sumP_mix (f : Cel → Int) (cs : List Cel) {σ : Nat → Nat} (hlt : ∀ i, i < cs.length → σ i < cs.length) (hf : ∀ i j, i < cs.length → j < cs.length → σ i = σ j → i = j) :
    sumI ((List.range cs.length).map fun i => f (cs.getD (σ i) default)) = sumP f cs := by
  rw [sumP_at f cs]
  have h := (perm_range hlt hf).map fun i => f (cs.getD i default)
  rw [List.map_map] at h
  exact sumI_perm h
section
variable {w h : Int} (hw : 0 < w) (hh : 0 < h) {cs : List Cel} (hl : (cs.length : Int) = w * h)
include hw hh hl
theorem sumP_shp (f : Cel → Int) (a b : Int) : sumI ((List.range cs.length).map fun i => f (cs.getD (shp w h a b i) default)) = sumP f cs :=
  sumP_mix f cs (fun i _ => by have := shp_lt hw hh a b i; omega) fun i j hi hj e => shp_inj hw hh (by omega) (by omega) e
theorem flow_sums (p : Int) : massL (flow w h p cs) = massL cs ∧ eastL (flow w h p cs) = eastL cs ∧ northL (flow w h p cs) = northL cs := by
  have e1 := sums_eq (flow w h p cs)
  have e2 := sums_eq cs
  have q1 : sumP (·.e) (flow w h p cs) = sumP (·.e) cs := (sumP_tab _ _ _).trans (sumP_shp hw hh hl (·.e) (-p) 0)
  have q2 : sumP (·.n) (flow w h p cs) = sumP (·.n) cs := (sumP_tab _ _ _).trans (sumP_shp hw hh hl (·.n) 0 (-p))
  have q3 : sumP (·.w) (flow w h p cs) = sumP (·.w) cs := (sumP_tab _ _ _).trans (sumP_shp hw hh hl (·.w) p 0)
  have q4 : sumP (·.s) (flow w h p cs) = sumP (·.s) cs := (sumP_tab _ _ _).trans (sumP_shp hw hh hl (·.s) 0 p)
  omega
end
/-- Cells none of whose parts is below 0. -/
def nnL (cs : List Cel) : Prop := ∀ c ∈ cs, 0 ≤ c.e ∧ 0 ≤ c.n ∧ 0 ≤ c.w ∧ 0 ≤ c.s
theorem nn_mass : ∀ {cs : List Cel}, nnL cs → 0 ≤ massL cs ∧ ∀ c ∈ cs, c.m ≤ massL cs
  | [], _ => by simp [massL]
  | c :: cs, h => by
    have h1 := h c (by simp)
    have h2 := nn_mass (cs := cs) fun x hx => h x (by simp [hx])
    simp only [massL, List.mem_cons, forall_eq_or_imp, Cel.m] at *
    exact ⟨by omega, by omega, fun x hx => by have := h2.2 x hx; omega⟩
theorem ok_of_nn {cs : List Cel} (h : nnL cs) (hm : massL cs ≤ 1000000000) : okL cs = true := okL_iff.2 fun c hc => by
  have h1 := h c hc
  have h2 := (nn_mass h).2 c hc
  rw [Cel.ok_iff]; unfold Cel.m at h2; omega
theorem okL_nn {cs : List Cel} (h : okL cs = true) : nnL cs := fun c hc => by have := Cel.ok_iff.1 (okL_iff.1 h c hc); omega
theorem okL_at {cs : List Cel} (h : okL cs = true) {i : Nat} (hi : i < cs.length) : (cs.getD i default).ok = true := okL_iff.1 h _ (getD_mem default hi)
theorem gok_mk {w h : Int} {cs : List Cel} (hs : 1 ≤ w ∧ w ≤ 64 ∧ 1 ≤ h ∧ h ≤ 64 ∧ w * h ≤ 1024) (hl : (cs.length : Int) = w * h) (hn : nnL cs) (hm : massL cs ≤ 1000000000) : (⟨w, h, cs⟩ : Grd).ok = true :=
  Grd.ok_iff.2 ⟨hs, hl, okL_iff.1 (ok_of_nn hn hm), hm⟩
theorem flow_nn {w h p : Int} {cs : List Cel} (hw : 0 < w) (hh : 0 < h) (hl : (cs.length : Int) = w * h) (hn : nnL cs) : nnL (flow w h p cs) := fun c hc => by
  obtain ⟨i, hi, rfl⟩ := tab_mem hc
  have lt : ∀ a b, shp w h a b i < cs.length := fun a b => by have := shp_lt hw hh a b i; omega
  have at_ : ∀ a b, 0 ≤ (cs.getD (shp w h a b i) default).e ∧ 0 ≤ (cs.getD (shp w h a b i) default).n ∧ 0 ≤ (cs.getD (shp w h a b i) default).w ∧ 0 ≤ (cs.getD (shp w h a b i) default).s := fun a b => hn _ (getD_mem default (lt a b))
  exact ⟨(at_ _ _).1, (at_ _ _).2.1, (at_ _ _).2.2.1, (at_ _ _).2.2.2⟩
/-- A grid streamed is a grid. -/
theorem gok_flow {g : Grd} (p : Int) (h : g.ok = true) : (⟨g.w, g.h, flow g.w g.h p g.cs⟩ : Grd).ok = true := by
  obtain ⟨h1, h2, h3, h4⟩ := Grd.ok_iff.1 h
  refine gok_mk h1 (by rw [flow_length]; exact h2) (flow_nn (by omega) (by omega) h2 (okL_nn (gok_okL h))) ?_
  rw [(flow_sums (by omega) (by omega) h2 p).1]; exact h4
theorem Cel.after_m {c : Cel} (r : Rul) : (c.after r).m = c.m ∧ (c.after r).e - (c.after r).w = c.e - c.w ∧ (c.after r).n - (c.after r).s = c.n - c.s := by
  simp only [Cel.after, Cel.placed, Cel.m]; omega
def aft (r : Rul) (cs : List Cel) : List Cel := cs.map fun c => c.after r
theorem aft_length (r : Rul) (cs : List Cel) : (aft r cs).length = cs.length := by simp [aft]
theorem aft_sums (r : Rul) : ∀ cs : List Cel, massL (aft r cs) = massL cs ∧ eastL (aft r cs) = eastL cs ∧ northL (aft r cs) = northL cs
  | [] => ⟨rfl, rfl, rfl⟩
  | c :: cs => by
    have h1 := aft_sums r cs
    have h2 := Cel.after_m (c := c) r
    simp only [aft, List.map_cons, massL, eastL, northL] at *
    omega
theorem aft_ok {r : Rul} (hr : r.ok = true) {cs : List Cel} (h : okL cs = true) : okL (aft r cs) = true := okL_iff.2 fun c hc => by
  obtain ⟨x, hx, rfl⟩ := List.mem_map.1 hc
  exact Cel.after_ok (okL_iff.1 h x hx) hr
theorem gok_aft {g : Grd} {r : Rul} (hr : r.ok = true) (h : g.ok = true) : (⟨g.w, g.h, aft r g.cs⟩ : Grd).ok = true := by
  obtain ⟨h1, h2, h3, h4⟩ := Grd.ok_iff.1 h
  refine Grd.ok_iff.2 ⟨h1, by rw [aft_length]; exact h2, okL_iff.1 (aft_ok hr (gok_okL h)), ?_⟩
  rw [(aft_sums r g.cs).1]; exact h4
theorem aft_undone {r : Rul} (hr : r.ok = true) {cs : List Cel} (h : okL cs = true) : aft r.inv (aft r cs) = cs ∧ aft r (aft r.inv cs) = cs := by
  unfold aft
  rw [List.map_map, List.map_map]
  constructor
  · refine (List.map_congr_left fun c hc => ?_).trans (List.map_id _)
    exact (Cel.after_undone (okL_iff.1 h c hc) hr).1
  · refine (List.map_congr_left fun c hc => ?_).trans (List.map_id _)
    exact (Cel.after_undone (okL_iff.1 h c hc) hr).2

/-! ### Steps -/
def Grd.step (g : Grd) (r : Rul) : Grd := ⟨g.w, g.h, flow g.w g.h 1 (aft r g.cs)⟩
def Grd.back (g : Grd) (r : Rul) : Grd := ⟨g.w, g.h, aft r.inv (flow g.w g.h (-1) g.cs)⟩
theorem Grd.step_ok {g : Grd} {r : Rul} (h : g.ok = true) (hr : r.ok = true) : (g.step r).ok = true := gok_flow (g := ⟨g.w, g.h, aft r g.cs⟩) 1 (gok_aft hr h)
theorem Grd.back_ok {g : Grd} {r : Rul} (h : g.ok = true) (hr : r.ok = true) : (g.back r).ok = true := gok_aft (g := ⟨g.w, g.h, flow g.w g.h (-1) g.cs⟩) (Rul.inv_ok hr) (gok_flow (-1) h)
theorem Grd.step_length (g : Grd) (r : Rul) : (g.step r).cs.length = g.cs.length := by simp [Grd.step, flow_length, aft_length]
theorem Grd.back_length (g : Grd) (r : Rul) : (g.back r).cs.length = g.cs.length := by simp [Grd.back, flow_length, aft_length]
theorem Grd.back_step {g : Grd} {r : Rul} (h : g.ok = true) (hr : r.ok = true) : (g.step r).back r = g := by
  obtain ⟨h1, h2, h3, h4⟩ := Grd.ok_iff.1 h
  unfold Grd.back Grd.step
  have e := flow_flow (w := g.w) (h := g.h) (by omega) (by omega) (cs := aft r g.cs) (by rw [aft_length]; exact h2) 1
  simp only [e, (aft_undone hr (gok_okL h)).1]
theorem Grd.step_back {g : Grd} {r : Rul} (h : g.ok = true) (hr : r.ok = true) : (g.back r).step r = g := by
  obtain ⟨h1, h2, h3, h4⟩ := Grd.ok_iff.1 h
  unfold Grd.back Grd.step
  have e := flow_flow (w := g.w) (h := g.h) (by omega) (by omega) (cs := g.cs) h2 (-1)
  have o := gok_okL (gok_flow (-1) h)
  simp only at o
  simp only [(aft_undone hr o).2]
  rw [Int.neg_neg] at e
  rw [e]
theorem Grd.step_sums {g : Grd} (r : Rul) (h : g.ok = true) : massL (g.step r).cs = massL g.cs ∧ eastL (g.step r).cs = eastL g.cs ∧ northL (g.step r).cs = northL g.cs := by
  obtain ⟨h1, h2, h3, h4⟩ := Grd.ok_iff.1 h
  have e := flow_sums (w := g.w) (h := g.h) (by omega) (by omega) (cs := aft r g.cs) (by rw [aft_length]; exact h2) 1
  have a := aft_sums r g.cs
  exact ⟨e.1.trans a.1, e.2.1.trans a.2.1, e.2.2.trans a.2.2⟩
/-- So many steps, from t on. -/
def Grd.run (l : List Rul) : Grd → Nat → Nat → Grd
  | g, _, 0 => g
  | g, t, n + 1 => (Grd.run l g t n).step (l.getD ((t + n) % l.length) default)
def Grd.unrun (l : List Rul) : Grd → Nat → Nat → Grd
  | g, _, 0 => g
  | g, t, n + 1 => Grd.unrun l (g.back (l.getD ((t + n) % l.length) default)) t n
theorem Grd.run_add (l : List Rul) (g : Grd) (t m : Nat) : ∀ n, Grd.run l g t (m + n) = Grd.run l (Grd.run l g t m) (t + m) n
  | 0 => rfl
  | n + 1 => by rw [← Nat.add_assoc, Grd.run, Grd.run_add l g t m n, Grd.run, Nat.add_assoc]
/-! ### What streaming a grid tells -/
def streamG (p : Int) (g : Grd) : Grd := if g.ok then ⟨g.w, g.h, flow g.w g.h p g.cs⟩ else ⟨0, 0, []⟩
theorem stream_ways (g : Grd) (p : Int) : (g.ok = false ∧ g.err = 1 ∧ streamG p g = ⟨0, 0, []⟩) ∨ (g.ok = true ∧ g.err = 0 ∧ streamG p g = ⟨g.w, g.h, flow g.w g.h p g.cs⟩ ∧ 1 ≤ g.cs.length ∧ g.cs.length ≤ 1024) := by
  cases h : g.ok
  · exact .inl ⟨rfl, by simp [Grd.err, h], by simp [streamG, h]⟩
  · have := gok_bds h
    exact .inr ⟨rfl, by simp [Grd.err, h], by simp [streamG, h], by omega⟩
end Go.Sy
