/- Particles put in and taken out; cells that differ. -/
import Derived.Test.YtbcajalaopjmdaaSpMoves
import Derived.Test.YtbcajalaopjmdaaSpWeak
set_option linter.unusedSimpArgs false
set_option linter.unusedVariables false
set_option linter.unusedSectionVars false
namespace Go.Sy
def Cel.inc (c : Cel) (d n : Int) : Cel := ⟨if d = 0 then c.e + n else c.e, if d = 1 then c.n + n else c.n, if d = 2 then c.w + n else c.w, if d = 3 then c.s + n else c.s⟩
def Cel.dir (c : Cel) (d : Int) : Int := if d = 0 then c.e else if d = 1 then c.n else if d = 2 then c.w else c.s
def atP (g : Grd) (p : Pnt) : Nat := (p.x + g.w * p.y).toNat
def inP (g : Grd) (p : Pnt) (d n : Int) : Prop := (0 ≤ p.x ∧ p.x ≤ g.w - 1) ∧ (0 ≤ p.y ∧ p.y ≤ g.h - 1) ∧ (0 ≤ d ∧ d ≤ 3) ∧ (0 ≤ n ∧ n ≤ 1000000000)
instance (g : Grd) (p : Pnt) (d n : Int) : Decidable (inP g p d n) := by unfold inP; exact inferInstance
def ptE (g : Grd) (p : Pnt) (d n : Int) : Int := if g.ok then (if inP g p d n then 0 else 7) else 1
def chgC (g : Grd) (p : Pnt) (d n : Int) : List Cel := g.cs.set (atP g p) ((g.cs.getD (atP g p) default).inc d n)
def putE (g : Grd) (p : Pnt) (d n : Int) : Int := if ptE g p d n = 0 then (if massL g.cs + n ≤ 1000000000 then 0 else 4) else ptE g p d n
def takE (g : Grd) (p : Pnt) (d n : Int) : Int := if ptE g p d n = 0 then (if 0 ≤ (g.cs.getD (atP g p) default).dir d - n then 0 else 8) else ptE g p d n
def putG (g : Grd) (p : Pnt) (d n : Int) : Grd := if putE g p d n = 0 then ⟨g.w, g.h, chgC g p d n⟩ else ⟨0, 0, []⟩
def takG (g : Grd) (p : Pnt) (d n : Int) : Grd := if takE g p d n = 0 then ⟨g.w, g.h, chgC g p d (-n)⟩ else ⟨0, 0, []⟩
theorem chgC_length (g : Grd) (p : Pnt) (d n : Int) : (chgC g p d n).length = g.cs.length := List.length_set
theorem massL_set (cs : List Cel) (v : Cel) : ∀ (k : Nat), k < cs.length → massL (cs.set k v) = massL cs - (cs.getD k default).m + v.m := by
  induction cs with
  | nil => intro k h; simp at h
  | cons c cs ih =>
    intro k h
    cases k with
    | zero => simp only [List.set_cons_zero, massL, List.getD_cons_zero]; omega
    | succ k =>
      simp only [List.set_cons_succ, massL, List.getD_cons_succ]
      rw [ih k (by simpa using h)]; omega
theorem inc_m {c : Cel} {d n : Int} (hd : 0 ≤ d ∧ d ≤ 3) : (c.inc d n).m = c.m + n := by
  rcases (show d = 0 ∨ d = 1 ∨ d = 2 ∨ d = 3 by omega) with rfl | rfl | rfl | rfl <;> simp [Cel.inc, Cel.m] <;> omega
theorem pt_in {g : Grd} {p : Pnt} {d n : Int} (hg : g.ok = true) (h : inP g p d n) : atP g p < g.cs.length ∧ atI g.w g.h p.x p.y = atP g p ∧ 0 ≤ g.w * p.y ∧ 0 ≤ p.x + g.w * p.y ∧ p.x + g.w * p.y < g.cs.length ∧ g.w * p.y ≤ 4096 := by
  obtain ⟨h1, h2, _, _⟩ := Grd.ok_iff.1 hg
  obtain ⟨hx, hy, _, _⟩ := h
  have q := xy_of (w := g.w) (h := g.h) (x := p.x) (y := p.y) (by omega) (by omega) (by omega) (by omega) (by omega) (by omega)
  have m := Int.mul_nonneg (show 0 ≤ g.w by omega) hy.1
  refine ⟨by unfold atP; omega, ?_, m, q.1, by omega, by omega⟩
  unfold atI atP
  rw [Int.emod_eq_of_lt (by omega) (by omega), Int.emod_eq_of_lt (by omega) (by omega)]
theorem chg_mass {g : Grd} {p : Pnt} {d n : Int} (hg : g.ok = true) (h : inP g p d n) (m : Int) : massL (chgC g p d m) = massL g.cs + m := by
  unfold chgC
  rw [massL_set _ _ _ (pt_in hg h).1, inc_m h.2.2.1]; omega
theorem inc_bd {c : Cel} (hc : 0 ≤ c.e ∧ 0 ≤ c.n ∧ 0 ≤ c.w ∧ 0 ≤ c.s) {d n : Int} (hn : 0 ≤ n) : 0 ≤ (c.inc d n).e ∧ 0 ≤ (c.inc d n).n ∧ 0 ≤ (c.inc d n).w ∧ 0 ≤ (c.inc d n).s := by
  simp only [Cel.inc]
  refine ⟨?_, ?_, ?_, ?_⟩ <;> split <;> omega
theorem chg_ok {g : Grd} {p : Pnt} {d n : Int} (hg : g.ok = true) (h : inP g p d n) : (⟨g.w, g.h, chgC g p d n⟩ : Grd).ok = decide (massL g.cs + n ≤ 1000000000) := by
  obtain ⟨h1, h2, h3, h4⟩ := Grd.ok_iff.1 hg
  have hm := chg_mass hg h n
  have hnn : nnL (chgC g p d n) := fun c hc => by
    unfold chgC at hc
    rcases List.mem_or_eq_of_mem_set hc with hc | rfl
    · exact okL_nn (gok_okL hg) c hc
    · exact inc_bd (okL_nn (gok_okL hg) _ (getD_mem default (pt_in hg h).1)) h.2.2.2.1
  rw [Bool.eq_iff_iff, decide_eq_true_eq]
  constructor
  · intro ho
    have := (Grd.ok_iff.1 ho).2.2.2
    simp only at this; omega
  · intro hl
    exact gok_mk h1 (by rw [chgC_length]; exact h2) hnn (by omega)
theorem chg_wk {g : Grd} {p : Pnt} {d n : Int} (hg : g.ok = true) (h : inP g p d n) : wkL (chgC g p d n) = true := by
  have hc := Cel.ok_iff.1 (okL_iff.1 (gok_okL hg) _ (getD_mem default (pt_in hg h).1))
  have hi := inc_bd (c := g.cs.getD (atP g p) default) (d := d) ⟨by omega, by omega, by omega, by omega⟩ h.2.2.2.1
  have hm := inc_m (c := g.cs.getD (atP g p) default) (n := n) h.2.2.1
  have h9 := h.2.2.2
  unfold Cel.m at hm
  exact wk_set (wk_of_ok (gok_okL hg)) (by omega)
theorem pt_ways (g : Grd) (p : Pnt) (d n : Int) : (g.ok = false ∧ True ∧ ptE g p d n = 1 ∧ putE g p d n = 1 ∧ putG g p d n = ⟨0, 0, []⟩ ∧ takE g p d n = 1 ∧ takG g p d n = ⟨0, 0, []⟩) ∨
    (g.ok = true ∧ ¬ ((0 ≤ p.x ∧ p.x ≤ g.w - 1) ∧ (0 ≤ p.y ∧ p.y ≤ g.h - 1) ∧ (0 ≤ d ∧ d ≤ 3) ∧ (0 ≤ n ∧ n ≤ 1000000000)) ∧ ptE g p d n = 7 ∧ putE g p d n = 7 ∧ putG g p d n = ⟨0, 0, []⟩ ∧ takE g p d n = 7 ∧ takG g p d n = ⟨0, 0, []⟩) ∨
    (g.ok = true ∧ ((0 ≤ p.x ∧ p.x ≤ g.w - 1) ∧ (0 ≤ p.y ∧ p.y ≤ g.h - 1) ∧ (0 ≤ d ∧ d ≤ 3) ∧ (0 ≤ n ∧ n ≤ 1000000000)) ∧ ptE g p d n = 0 ∧ ((massL g.cs + n ≤ 1000000000 ∧ putE g p d n = 0 ∧ putG g p d n = ⟨g.w, g.h, chgC g p d n⟩) ∨ (¬ massL g.cs + n ≤ 1000000000 ∧ putE g p d n = 4 ∧ putG g p d n = ⟨0, 0, []⟩)) ∧
      ((0 ≤ (g.cs.getD (atP g p) default).dir d - n ∧ takE g p d n = 0 ∧ takG g p d n = ⟨g.w, g.h, chgC g p d (-n)⟩) ∨ (¬ 0 ≤ (g.cs.getD (atP g p) default).dir d - n ∧ takE g p d n = 8 ∧ takG g p d n = ⟨0, 0, []⟩)) ∧ (1 ≤ g.cs.length ∧ g.cs.length ≤ 1024)) := by
  have np : putE g p d n ≠ 0 → putG g p d n = ⟨0, 0, []⟩ := fun h => if_neg h
  have nt : takE g p d n ≠ 0 → takG g p d n = ⟨0, 0, []⟩ := fun h => if_neg h
  cases hg : g.ok
  · have e : ptE g p d n = 1 := by simp [ptE, hg]
    have e1 : putE g p d n = 1 := by unfold putE; rw [e, if_neg (by omega)]
    have e2 : takE g p d n = 1 := by unfold takE; rw [e, if_neg (by omega)]
    exact .inl ⟨rfl, trivial, e, e1, np (by omega), e2, nt (by omega)⟩
  · by_cases hi : inP g p d n
    · have e : ptE g p d n = 0 := by unfold ptE; rw [hg, if_pos rfl, if_pos hi]
      have hb := gok_bds hg
      refine .inr (.inr ⟨rfl, hi, e, ?_, ?_, by omega⟩)
      · by_cases hm : massL g.cs + n ≤ 1000000000
        · have e1 : putE g p d n = 0 := by unfold putE; rw [if_pos e, if_pos hm]
          exact .inl ⟨hm, e1, if_pos e1⟩
        · have e1 : putE g p d n = 4 := by unfold putE; rw [if_pos e, if_neg hm]
          exact .inr ⟨hm, e1, np (by omega)⟩
      · by_cases hm : 0 ≤ (g.cs.getD (atP g p) default).dir d - n
        · have e1 : takE g p d n = 0 := by unfold takE; rw [if_pos e, if_pos hm]
          exact .inl ⟨hm, e1, if_pos e1⟩
        · have e1 : takE g p d n = 8 := by unfold takE; rw [if_pos e, if_neg hm]
          exact .inr ⟨hm, e1, nt (by omega)⟩
    · have e : ptE g p d n = 7 := by unfold ptE; rw [hg, if_pos rfl, if_neg hi]
      have e1 : putE g p d n = 7 := by unfold putE; rw [e, if_neg (by omega)]
      have e2 : takE g p d n = 7 := by unfold takE; rw [e, if_neg (by omega)]
      exact .inr (.inl ⟨rfl, hi, e, e1, np (by omega), e2, nt (by omega)⟩)
def ptF (g : Grd) (p : Pnt) (n : Int) : Prop := (g.ok = true ∧ ((0 ≤ p.x ∧ p.x ≤ g.w - 1) ∧ (0 ≤ p.y ∧ p.y ≤ g.h - 1) ∧ (0 ≤ n ∧ n ≤ 1000000000))) ∧ (atI g.w g.h p.x p.y = (p.x + g.w * p.y).toNat ∧ atI g.w g.h p.x p.y < g.cs.length ∧ (p.x + g.w * p.y).toNat < g.cs.length ∧ 0 ≤ g.w * p.y ∧ 0 ≤ p.x + g.w * p.y ∧ p.x + g.w * p.y < g.cs.length ∧ g.w * p.y ≤ 4096) ∧
  (1 ≤ g.w ∧ g.w ≤ 64 ∧ 1 ≤ g.h ∧ g.h ≤ 64 ∧ g.w * g.h ≤ 1024 ∧ (g.cs.length : Int) = g.w * g.h) ∧ (1 ≤ g.cs.length ∧ g.cs.length ≤ 1024) ∧ bdC (g.cs.getD (atI g.w g.h p.x p.y) default) ∧ bdC (g.cs.getD (p.x + g.w * p.y).toNat default) ∧
  (∀ v, (g.cs.set (atI g.w g.h p.x p.y) v).getD (atI g.w g.h p.x p.y) default = v) ∧ (∀ v, (g.cs.set (p.x + g.w * p.y).toNat v).getD (p.x + g.w * p.y).toNat default = v)
theorem pt_facts {g : Grd} {p : Pnt} {d n : Int} (hg : g.ok = true) (h : inP g p d n) : ptF g p n := by
  have q := pt_in hg h
  obtain ⟨h1, h2, _, _⟩ := Grd.ok_iff.1 hg
  have hb := gok_bds hg
  have e : atP g p = (p.x + g.w * p.y).toNat := rfl
  have st : ∀ v, (g.cs.set (atP g p) v).getD (atP g p) default = v := fun v => by simp [List.getD, q.1]
  refine ⟨⟨hg, h.1, h.2.1, h.2.2.2⟩, ⟨q.2.1, by rw [q.2.1]; exact q.1, q.1, q.2.2.1, q.2.2.2.1, q.2.2.2.2.1, q.2.2.2.2.2⟩, ⟨h1.1, h1.2.1, h1.2.2.1, h1.2.2.2.1, h1.2.2.2.2, h2⟩, by omega, cell_bd (gok_okL hg) _, cell_bd (gok_okL hg) _, ?_, st⟩
  rw [q.2.1]; exact st
theorem put_ways (g : Grd) (p : Pnt) (d n : Int) : (ptE g p d n = 1 ∧ True ∧ True ∧ putE g p d n = ptE g p d n ∧ putG g p d n = ⟨0, 0, []⟩ ∧ True ∧ True) ∨ (ptE g p d n = 7 ∧ True ∧ True ∧ putE g p d n = ptE g p d n ∧ putG g p d n = ⟨0, 0, []⟩ ∧ True ∧ True) ∨
    (ptE g p d n = 0 ∧ (d = 0 ∨ d = 1 ∨ d = 2 ∨ d = 3) ∧ ptF g p n ∧ putE g p d n = 0 ∧ putG g p d n = ⟨g.w, g.h, chgC g p d n⟩ ∧ (⟨g.w, g.h, g.cs.set (atI g.w g.h p.x p.y) ((g.cs.getD (atI g.w g.h p.x p.y) default).inc d n)⟩ : Grd).ok = true ∧
      (massL (g.cs.set (p.x + g.w * p.y).toNat ((g.cs.getD (p.x + g.w * p.y).toNat default).inc d n)) ≤ 1000000000 ∧ wkL (g.cs.set (p.x + g.w * p.y).toNat ((g.cs.getD (p.x + g.w * p.y).toNat default).inc d n)) = true)) ∨
    (ptE g p d n = 0 ∧ (d = 0 ∨ d = 1 ∨ d = 2 ∨ d = 3) ∧ ptF g p n ∧ putE g p d n = 4 ∧ putG g p d n = ⟨0, 0, []⟩ ∧ (⟨g.w, g.h, g.cs.set (atI g.w g.h p.x p.y) ((g.cs.getD (atI g.w g.h p.x p.y) default).inc d n)⟩ : Grd).ok = false ∧
      (1000000000 < massL (g.cs.set (p.x + g.w * p.y).toNat ((g.cs.getD (p.x + g.w * p.y).toNat default).inc d n)) ∧ wkL (g.cs.set (p.x + g.w * p.y).toNat ((g.cs.getD (p.x + g.w * p.y).toNat default).inc d n)) = true)) := by
  rcases pt_ways g p d n with ⟨_, _, hE, hP, hPG, _, _⟩ | ⟨_, _, hE, hP, hPG, _, _⟩ | ⟨hg, hi, hE, hpp, _, _⟩
  · exact .inl ⟨hE, trivial, trivial, hP.trans hE.symm, hPG, trivial, trivial⟩
  · exact .inr (.inl ⟨hE, trivial, trivial, hP.trans hE.symm, hPG, trivial, trivial⟩)
  · have hf := pt_facts (d := d) hg hi
    have ho := chg_ok hg hi
    have hm := chg_mass hg hi n
    have hk := chg_wk hg hi
    have q := pt_in hg hi
    unfold chgC at ho hm hk
    rw [← q.2.1] at ho
    have hd : d = 0 ∨ d = 1 ∨ d = 2 ∨ d = 3 := by omega
    have em : massL (g.cs.set (p.x + g.w * p.y).toNat ((g.cs.getD (p.x + g.w * p.y).toNat default).inc d n)) = massL g.cs + n := hm
    rcases hpp with ⟨hl, hP, hPG⟩ | ⟨hl, hP, hPG⟩
    · exact .inr (.inr (.inl ⟨hE, hd, hf, hP, hPG, by rw [ho]; exact decide_eq_true hl, by omega, hk⟩))
    · exact .inr (.inr (.inr ⟨hE, hd, hf, hP, hPG, by rw [ho]; exact decide_eq_false hl, by omega, hk⟩))
theorem tak_ways (g : Grd) (p : Pnt) (d n : Int) : (ptE g p d n = 1 ∧ True ∧ True ∧ takE g p d n = ptE g p d n ∧ takG g p d n = ⟨0, 0, []⟩ ∧ True ∧ True) ∨ (ptE g p d n = 7 ∧ True ∧ True ∧ takE g p d n = ptE g p d n ∧ takG g p d n = ⟨0, 0, []⟩ ∧ True ∧ True) ∨
    (ptE g p d n = 0 ∧ (d = 0 ∨ d = 1 ∨ d = 2 ∨ d = 3) ∧ ptF g p n ∧ takE g p d n = 0 ∧ takG g p d n = ⟨g.w, g.h, chgC g p d (-n)⟩ ∧ 0 ≤ (g.cs.getD (atI g.w g.h p.x p.y) default).dir d - n ∧ 0 ≤ (g.cs.getD (p.x + g.w * p.y).toNat default).dir d - n) ∨
    (ptE g p d n = 0 ∧ (d = 0 ∨ d = 1 ∨ d = 2 ∨ d = 3) ∧ ptF g p n ∧ takE g p d n = 8 ∧ takG g p d n = ⟨0, 0, []⟩ ∧ ¬ 0 ≤ (g.cs.getD (atI g.w g.h p.x p.y) default).dir d - n ∧ ¬ 0 ≤ (g.cs.getD (p.x + g.w * p.y).toNat default).dir d - n) := by
  rcases pt_ways g p d n with ⟨_, _, hE, _, _, hP, hPG⟩ | ⟨_, _, hE, _, _, hP, hPG⟩ | ⟨hg, hi, hE, _, hpp, _⟩
  · exact .inl ⟨hE, trivial, trivial, hP.trans hE.symm, hPG, trivial, trivial⟩
  · exact .inr (.inl ⟨hE, trivial, trivial, hP.trans hE.symm, hPG, trivial, trivial⟩)
  · have hf := pt_facts (d := d) hg hi
    have q := pt_in hg hi
    have hd : d = 0 ∨ d = 1 ∨ d = 2 ∨ d = 3 := by omega
    rcases hpp with ⟨hl, hP, hPG⟩ | ⟨hl, hP, hPG⟩
    · exact .inr (.inr (.inl ⟨hE, hd, hf, hP, hPG, by rw [q.2.1]; exact hl, hl⟩))
    · exact .inr (.inr (.inr ⟨hE, hd, hf, hP, hPG, by rw [q.2.1]; exact hl, hl⟩))
theorem put_len (g : Grd) (p : Pnt) (d n : Int) : (putG g p d n).cs.length ≤ g.cs.length ∧ (takG g p d n).cs.length ≤ g.cs.length := by
  constructor
  · unfold putG; split
    · exact Nat.le_of_eq (chgC_length ..)
    · exact Nat.zero_le _
  · unfold takG; split
    · exact Nat.le_of_eq (chgC_length ..)
    · exact Nat.zero_le _
theorem inc_inc (c : Cel) (d n : Int) : (c.inc d n).inc d (-n) = c := by
  unfold Cel.inc
  rw [Cel.eq_iff]
  refine ⟨?_, ?_, ?_, ?_⟩ <;> simp only <;> split <;> omega
theorem inc_dir {c : Cel} {d : Int} (hd : 0 ≤ d ∧ d ≤ 3) (n : Int) : (c.inc d n).dir d = c.dir d + n := by
  rcases (show d = 0 ∨ d = 1 ∨ d = 2 ∨ d = 3 by omega) with rfl | rfl | rfl | rfl <;> simp [Cel.inc, Cel.dir]
theorem put_law (g : Grd) (p : Pnt) (d n : Int) : putE g p d n ≠ 0 ∨ (putE g p d n = 0 ∧ takE (putG g p d n) p d n = 0 ∧ takG (putG g p d n) p d n = g) := by
  by_cases h : putE g p d n = 0
  · refine .inr ⟨h, ?_⟩
    have hp : ptE g p d n = 0 ∧ massL g.cs + n ≤ 1000000000 := by
      unfold putE at h; split at h
      · split at h
        · exact ⟨by assumption, by assumption⟩
        · omega
      · contradiction
    have hg : g.ok = true ∧ inP g p d n := by
      have := hp.1
      unfold ptE at this; split at this
      · split at this
        · exact ⟨by assumption, by assumption⟩
        · omega
      · omega
    have eg : putG g p d n = ⟨g.w, g.h, chgC g p d n⟩ := if_pos h
    have ho : (⟨g.w, g.h, chgC g p d n⟩ : Grd).ok = true := by rw [chg_ok hg.1 hg.2]; exact decide_eq_true hp.2
    have hl := (pt_in hg.1 hg.2).1
    have ea : atP ⟨g.w, g.h, chgC g p d n⟩ p = atP g p := rfl
    have ed : (chgC g p d n).getD (atP g p) default = (g.cs.getD (atP g p) default).inc d n := by simp [chgC, List.getD, hl]
    have ep : ptE (putG g p d n) p d n = 0 := by
      rw [eg]; unfold ptE; rw [ho, if_pos rfl]; exact if_pos hg.2
    have et : takE (putG g p d n) p d n = 0 := by
      unfold takE
      rw [if_pos ep, eg, ea]
      refine if_pos ?_
      show 0 ≤ ((chgC g p d n).getD (atP g p) default).dir d - n
      rw [ed, inc_dir hg.2.2.2.1]
      have := Cel.ok_iff.1 (okL_iff.1 (gok_okL hg.1) _ (getD_mem default hl))
      have : 0 ≤ (g.cs.getD (atP g p) default).dir d := by unfold Cel.dir; split <;> (try split) <;> (try split) <;> omega
      omega
    refine ⟨et, ?_⟩
    unfold takG
    rw [if_pos et, eg]
    show (⟨g.w, g.h, _⟩ : Grd) = g
    have : chgC ⟨g.w, g.h, chgC g p d n⟩ p d (-n) = g.cs := by
      show ((chgC g p d n).set (atP g p) (((chgC g p d n).getD (atP g p) default).inc d (-n))) = g.cs
      rw [ed, inc_inc]
      unfold chgC
      rw [List.set_set]
      have e9 : g.cs.getD (atP g p) default = g.cs[atP g p] := by simp [List.getD, hl]
      rw [e9, List.set_getElem_self]
    rw [this]
  · exact .inl h
/-! ### Lists of numbers -/
theorem isame_f1 {a b : List Int} (h : a.length ≠ b.length) : decide (a = b) = false := decide_eq_false fun e => h (by rw [e])
theorem isame_t {a b : List Int} {k : Nat} (hl : a.length = b.length) (h : a.take k = b.take k) (hk : a.length ≤ k) : decide (a = b) = true := by
  rw [List.take_of_length_le hk, List.take_of_length_le (by omega)] at h; simpa using h
theorem isame_f2 {a b : List Int} {k : Nat} (ha : k < a.length) (hb : k < b.length) (h : ¬ (a.getD k 0 = b.getD k 0)) : decide (a = b) = false := decide_eq_false fun e => h (by rw [e])
theorem isame_next {a b : List Int} {k : Nat} (ha : k < a.length) (hb : k < b.length) (h : a.take k = b.take k) (he : a.getD k 0 = b.getD k 0) : a.take (k + 1) = b.take (k + 1) := by
  rw [take_snoc a 0 ha, take_snoc b 0 hb, h, he]
/-! ### Cells that differ -/
def difL (a b : List Cel) (k : Nat) : List Int := ((List.range k).filter fun i => decide (a.getD i default ≠ b.getD i default)).map fun (i : Nat) => (i : Int)
theorem difL_zero (a b : List Cel) : difL a b 0 = [] := rfl
theorem difL_t {a b : List Cel} {k : Nat} (h : a.getD k default ≠ b.getD k default) : difL a b (k + 1) = difL a b k ++ [(k : Int)] := by
  unfold difL
  rw [List.range_succ, List.filter_append, List.map_append]
  have : List.filter (fun i => decide (a.getD i default ≠ b.getD i default)) [k] = [k] := by rw [List.filter_cons, if_pos (decide_eq_true h)]; rfl
  rw [this]; rfl
theorem difL_f {a b : List Cel} {k : Nat} (h : a.getD k default = b.getD k default) : difL a b (k + 1) = difL a b k := by
  unfold difL
  rw [List.range_succ, List.filter_append, List.map_append]
  have : List.filter (fun i => decide (a.getD i default ≠ b.getD i default)) [k] = [] := by rw [List.filter_cons, if_neg (by simp [List.getD] at h ⊢; simp [h])]; rfl
  rw [this]; simp
theorem difL_tn {a b : List Cel} {k : Nat} (h : (a.getD k default).e ≠ (b.getD k default).e ∨ (a.getD k default).n ≠ (b.getD k default).n ∨ (a.getD k default).w ≠ (b.getD k default).w ∨ (a.getD k default).s ≠ (b.getD k default).s) : difL a b (k + 1) = difL a b k ++ [(k : Int)] :=
  difL_t fun e => by rw [e] at h; rcases h with h | h | h | h <;> exact h rfl
theorem difL_len (a b : List Cel) (k : Nat) : (difL a b k).length ≤ k := by
  unfold difL
  rw [List.length_map]
  exact Nat.le_trans (List.length_filter_le _ _) (by simp)
theorem difL_nil {a b : List Cel} (hl : a.length = b.length) : (difL a b a.length).length = 0 ↔ a = b := by
  constructor
  · intro h
    have h := List.eq_nil_of_length_eq_zero h
    unfold difL at h
    rw [List.map_eq_nil_iff, List.filter_eq_nil_iff] at h
    apply List.ext_getElem hl
    intro i h1 h2
    have := h i (List.mem_range.2 h1)
    simpa [List.getD, h1, h2] using this
  · rintro rfl
    unfold difL
    simp
def difE (a b : Grd) : Int := if a.ok && b.ok then (if a.w = b.w ∧ a.h = b.h then 0 else 9) else 1
def difV (a b : Grd) : List Int := if difE a b = 0 then difL a.cs b.cs a.cs.length else []
theorem dif_ways (a b : Grd) : (a.ok = false ∧ True ∧ True ∧ difE a b = 1 ∧ difV a b = []) ∨ (a.ok = true ∧ b.ok = false ∧ True ∧ difE a b = 1 ∧ difV a b = []) ∨ (a.ok = true ∧ b.ok = true ∧ ¬ (a.w = b.w ∧ a.h = b.h) ∧ difE a b = 9 ∧ difV a b = []) ∨
    (a.ok = true ∧ b.ok = true ∧ (a.w = b.w ∧ a.h = b.h) ∧ difE a b = 0 ∧ difV a b = difL a.cs b.cs a.cs.length ∧ (1 ≤ a.cs.length ∧ a.cs.length ≤ 1024 ∧ b.cs.length = a.cs.length)) := by
  have no : difE a b ≠ 0 → difV a b = [] := fun h => if_neg h
  cases ha : a.ok
  · have e : difE a b = 1 := by simp [difE, ha]
    exact .inl ⟨rfl, trivial, trivial, e, no (by omega)⟩
  · cases hb : b.ok
    · have e : difE a b = 1 := by simp [difE, hb]
      exact .inr (.inl ⟨rfl, rfl, trivial, e, no (by omega)⟩)
    · by_cases hs : a.w = b.w ∧ a.h = b.h
      · have e : difE a b = 0 := by unfold difE; rw [ha, hb, Bool.and_true, if_pos rfl, if_pos hs]
        have h1 := gok_bds ha
        have h2 := (Grd.ok_iff.1 ha).2.1
        have h3 := (Grd.ok_iff.1 hb).2.1
        rw [← hs.1, ← hs.2] at h3
        exact .inr (.inr (.inr ⟨rfl, rfl, hs, e, if_pos e, by omega, by omega, by omega⟩))
      · have e : difE a b = 9 := by unfold difE; rw [ha, hb, Bool.and_true, if_pos rfl, if_neg hs]
        exact .inr (.inr (.inl ⟨rfl, rfl, hs, e, no (by omega)⟩))
theorem dif_law {a b : Grd} (h : difE a b = 0) : (difV a b).length = 0 ↔ a = b := by
  rcases dif_ways a b with ⟨_, _, _, e, _⟩ | ⟨_, _, _, e, _⟩ | ⟨_, _, _, e, _⟩ | ⟨ha, hb, hs, _, e, hl⟩
  · omega
  · omega
  · omega
  · rw [e, difL_nil (by omega)]
    obtain ⟨w, hh, cs⟩ := a
    obtain ⟨w2, hh2, cs2⟩ := b
    simp only at hs
    simp [hs.1, hs.2]
theorem dif_cases (a b : Grd) : (difE a b ≠ 0) ∨ (difE a b = 0 ∧ decide ((difV a b).length = 0) = decide (a = b)) := by
  by_cases h : difE a b = 0
  · exact .inr ⟨h, by rw [decide_eq_decide]; exact dif_law h⟩
  · exact .inl h
theorem add_len (a b : Grd) : (addG a b).cs.length ≤ a.cs.length ∧ (addG a b).cs.length ≤ a.cs.length := by
  have : (addG a b).cs.length ≤ a.cs.length := by
    unfold addG; split
    · exact Nat.le_of_eq (addC_length ..)
    · exact Nat.zero_le _
  exact ⟨this, this⟩
theorem dif_len (a b : Grd) : (difV a b).length ≤ a.cs.length := by
  unfold difV; split
  · exact difL_len ..
  · exact Nat.zero_le _
end Go.Sy
