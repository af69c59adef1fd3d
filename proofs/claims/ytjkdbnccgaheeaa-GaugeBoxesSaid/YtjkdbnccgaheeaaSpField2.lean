/- Loops round blocks, paths. -/
import Derived.Test.YtjkdbnccgaheeaaSpCont
set_option linter.unusedSimpArgs false
set_option linter.unusedVariables false
set_option linter.unusedSectionVars false
namespace Go.Sy
/-! ### Circulation -/
def circ (g : Grd) (a d : Pnt) : Int := ((sumC (blk g.w g.cs a ⟨d.x, a.y⟩)).e - (sumC (blk g.w g.cs a ⟨d.x, a.y⟩)).w) + ((sumC (blk g.w g.cs ⟨d.x, a.y⟩ d)).n - (sumC (blk g.w g.cs ⟨d.x, a.y⟩ d)).s) - ((sumC (blk g.w g.cs ⟨a.x, d.y⟩ d)).e - (sumC (blk g.w g.cs ⟨a.x, d.y⟩ d)).w) - ((sumC (blk g.w g.cs a ⟨a.x, d.y⟩)).n - (sumC (blk g.w g.cs a ⟨a.x, d.y⟩)).s)
def circR (g : Grd) (a d : Pnt) : Int := if blkE g a d = 0 then circ g a d else 0
theorem circ_oks {g : Grd} {a d : Pnt} (hb : blkOk g a d) : blkOk g a ⟨d.x, a.y⟩ ∧ blkOk g ⟨a.x, d.y⟩ d ∧ blkOk g a ⟨a.x, d.y⟩ ∧ blkOk g ⟨d.x, a.y⟩ d := by
  unfold blkOk onB at *; simp only; omega
theorem circ_ways (g : Grd) (a d : Pnt) : (g.ok = false ∧ blkE g a d = 1 ∧ circR g a d = 0 ∧ True) ∨ (g.ok = true ∧ blkE g a d = 7 ∧ circR g a d = 0 ∧ ¬ blkOk g a d) ∨ (g.ok = true ∧ blkE g a d = 0 ∧ circR g a d = circ g a d ∧ blkOk g a d) := by
  rcases blkE_ways g a d with ⟨h1, h2⟩ | ⟨h1, h2, h3⟩ | ⟨h1, h2, h3⟩
  · exact .inl ⟨h1, h2, by simp [circR, h2], trivial⟩
  · exact .inr (.inl ⟨h1, h3, by simp [circR, h3], h2⟩)
  · exact .inr (.inr ⟨h1, h3, by simp [circR, h3], h2⟩)
theorem circ_bd {g : Grd} (hg : g.ok = true) {a d : Pnt} (hb : blkOk g a d) : -40000000000000 ≤ circ g a d ∧ circ g a d ≤ 40000000000000 := by
  obtain ⟨h1, h2, h3, h4⟩ := circ_oks hb
  have b1 := blk_bds hg h1
  have b2 := blk_bds hg h2
  have b3 := blk_bds hg h3
  have b4 := blk_bds hg h4
  unfold circ
  omega
/-! Parts of lines. -/
def segS (F : Int → Int) (a : Int) : Nat → Int
  | 0 => 0
  | k + 1 => segS F a k + F (a + k)
theorem segS_add (F : Int → Int) (a : Int) (m : Nat) : ∀ k : Nat, segS F a (m + k) = segS F a m + segS F (a + m) k
  | 0 => by simp [segS]
  | k + 1 => by
    rw [show m + (k + 1) = (m + k) + 1 by omega]
    simp only [segS]
    rw [segS_add F a m k, show a + ((m + k : Nat) : Int) = a + (m : Int) + (k : Int) by omega]
    omega
theorem segS_split (F : Int → Int) {a b m : Int} (h1 : a ≤ m) (h2 : m ≤ b) : segS F a (b - a + 1).toNat + F m = segS F a (m - a + 1).toNat + segS F m (b - m + 1).toNat := by
  have e1 : (b - a + 1).toNat = (m - a).toNat + (b - m + 1).toNat := by omega
  have e2 : (m - a + 1).toNat = (m - a).toNat + 1 := by omega
  have e3 : a + ((m - a).toNat : Int) = m := by omega
  rw [e1, segS_add, e2, e3]
  simp only [segS]
  rw [e3]
  omega
theorem row_seg (f : Cel → Int) (w : Int) (cs : List Cel) (ax y : Int) : ∀ k, sumP f (rowK w cs ax y k) = segS (fun x => f (atP w cs x y)) ax k
  | 0 => rfl
  | k + 1 => by rw [rowK, sumP_app, row_seg f w cs ax y k]; simp [sumP, sumI, segS]
theorem col_seg (f : Cel → Int) (w : Int) (cs : List Cel) (ax ay : Int) : ∀ k, sumP f (blkK w cs ax ay 1 k) = segS (fun y => f (atP w cs ax y)) ay k
  | 0 => rfl
  | k + 1 => by rw [blkK, sumP_app, col_seg f w cs ax ay k]; simp [sumP, sumI, segS, rowK]
theorem blk_row (f : Cel → Int) (w : Int) (cs : List Cel) (a : Pnt) (x : Int) : sumP f (blk w cs a ⟨x, a.y⟩) = segS (fun q => f (atP w cs q a.y)) a.x (x - a.x + 1).toNat := by
  unfold blk
  simp only [show (a.y - a.y + 1).toNat = 1 by omega]
  simp only [blkK, List.nil_append, row_seg, Int.natCast_zero, Int.add_zero]
theorem blk_col (f : Cel → Int) (w : Int) (cs : List Cel) (a : Pnt) (y : Int) : sumP f (blk w cs a ⟨a.x, y⟩) = segS (fun q => f (atP w cs a.x q)) a.y (y - a.y + 1).toNat := by
  unfold blk
  simp only [show (a.x - a.x + 1).toNat = 1 by omega]
  exact col_seg f w cs a.x a.y _
/-- The circulation by parts of lines. -/
theorem circ_seg (g : Grd) (a d : Pnt) : circ g a d =
    (segS (fun q => (atP g.w g.cs q a.y).e) a.x (d.x - a.x + 1).toNat - segS (fun q => (atP g.w g.cs q a.y).w) a.x (d.x - a.x + 1).toNat) + (segS (fun q => (atP g.w g.cs d.x q).n) a.y (d.y - a.y + 1).toNat - segS (fun q => (atP g.w g.cs d.x q).s) a.y (d.y - a.y + 1).toNat) -
    (segS (fun q => (atP g.w g.cs q d.y).e) a.x (d.x - a.x + 1).toNat - segS (fun q => (atP g.w g.cs q d.y).w) a.x (d.x - a.x + 1).toNat) - (segS (fun q => (atP g.w g.cs a.x q).n) a.y (d.y - a.y + 1).toNat - segS (fun q => (atP g.w g.cs a.x q).s) a.y (d.y - a.y + 1).toNat) := by
  have r1 := fun f => blk_row f g.w g.cs a d.x
  have r2 := fun f => blk_row f g.w g.cs ⟨a.x, d.y⟩ d.x
  have c1 := fun f => blk_col f g.w g.cs a d.y
  have c2 := fun f => blk_col f g.w g.cs ⟨d.x, a.y⟩ d.y
  simp only at r2 c2
  unfold circ sumC
  simp only [r1, r2, c1, c2]
theorem join_rows {g : Grd} {a d : Pnt} {m : Int} (h1 : a.y ≤ m) (h2 : m ≤ d.y) : circ g a d = circ g a ⟨d.x, m⟩ + circ g ⟨a.x, m⟩ d - ((atP g.w g.cs d.x m).n - (atP g.w g.cs d.x m).s) + ((atP g.w g.cs a.x m).n - (atP g.w g.cs a.x m).s) := by
  simp only [circ_seg]
  have s1 := segS_split (fun q => (atP g.w g.cs d.x q).n) h1 h2
  have s2 := segS_split (fun q => (atP g.w g.cs d.x q).s) h1 h2
  have s3 := segS_split (fun q => (atP g.w g.cs a.x q).n) h1 h2
  have s4 := segS_split (fun q => (atP g.w g.cs a.x q).s) h1 h2
  omega
theorem join_cols {g : Grd} {a d : Pnt} {m : Int} (h1 : a.x ≤ m) (h2 : m ≤ d.x) : circ g a d = circ g a ⟨m, d.y⟩ + circ g ⟨m, a.y⟩ d - ((atP g.w g.cs m a.y).e - (atP g.w g.cs m a.y).w) + ((atP g.w g.cs m d.y).e - (atP g.w g.cs m d.y).w) := by
  simp only [circ_seg]
  have s1 := segS_split (fun q => (atP g.w g.cs q a.y).e) h1 h2
  have s2 := segS_split (fun q => (atP g.w g.cs q a.y).w) h1 h2
  have s3 := segS_split (fun q => (atP g.w g.cs q d.y).e) h1 h2
  have s4 := segS_split (fun q => (atP g.w g.cs q d.y).w) h1 h2
  omega
/-! ### Lists of points -/
theorem Pnt.ext2 {a b : Pnt} (h : a.x = b.x ∧ a.y = b.y) : a = b := by
  obtain ⟨a1, a2⟩ := a
  obtain ⟨b1, b2⟩ := b
  simp only at h
  obtain ⟨rfl, rfl⟩ := h
  rfl
theorem Pnt.ne2 {a b : Pnt} (h : a.x ≠ b.x ∨ a.y ≠ b.y) : ¬ a = b := by
  rintro rfl
  simp at h
theorem samp_f1 {α : Type} [DecidableEq α] {a b : List α} (h : a.length ≠ b.length) : decide (a = b) = false := decide_eq_false fun e => h (by rw [e])
theorem samp_t {α : Type} [DecidableEq α] {a b : List α} {k : Nat} (hl : a.length = b.length) (h : a.take k = b.take k) (hk : a.length ≤ k) : decide (a = b) = true := by
  rw [List.take_of_length_le hk, List.take_of_length_le (by omega)] at h; simpa using h
theorem samp_f2 {a b : List Pnt} {k : Nat} (ha : k < a.length) (hb : k < b.length) (h : ¬ (a.getD k default = b.getD k default)) : decide (a = b) = false := decide_eq_false fun e => h (by rw [e])
theorem samp_next {a b : List Pnt} {k : Nat} (ha : k < a.length) (hb : k < b.length) (h : a.take k = b.take k) (he : a.getD k default = b.getD k default) : a.take (k + 1) = b.take (k + 1) := by
  rw [take_snoc a default ha, take_snoc b default hb, h, he]
/-! ### The next cell of a path -/
def mvx8 (d : Int) : Int := if d = 0 then 1 else if d = 2 then -1 else 0
def mvy8 (d : Int) : Int := if d = 1 then 1 else if d = 3 then -1 else 0
/-- The cell to which the main way of a cell leads. -/
def nextK (g : Grd) (k : Int) : Int := (k % g.w + mvx8 (bestD (g.cs.getD k.toNat default))) % g.w + g.w * ((k / g.w + mvy8 (bestD (g.cs.getD k.toNat default))) % g.h)
def nextV (g : Grd) (k : Int) : Int := if someC (g.cs.getD k.toNat default) then nextK g k else 0
theorem best_bd (c : Cel) : 0 ≤ bestD c ∧ bestD c ≤ 3 := by
  unfold bestD; (repeat' split) <;> omega
theorem next_bd {g : Grd} (hg : g.ok = true) {k : Int} (h0 : 0 ≤ k) (h1 : k < g.cs.length) : (0 ≤ k % g.w ∧ k % g.w < g.w) ∧ (0 ≤ k / g.w ∧ k / g.w < g.h) ∧ (∀ x : Int, -1 ≤ x → x ≤ 1 → (k % g.w + x + g.w).tmod g.w = (k % g.w + x) % g.w ∧ 0 ≤ (k % g.w + x) % g.w ∧ (k % g.w + x) % g.w ≤ g.w - 1) ∧ (∀ y : Int, -1 ≤ y → y ≤ 1 → (k / g.w + y + g.h).tmod g.h = (k / g.w + y) % g.h ∧ 0 ≤ (k / g.w + y) % g.h ∧ (k / g.w + y) % g.h ≤ g.h - 1) := by
  have hb := gok_bds hg
  have m1 := Int.emod_nonneg k (show g.w ≠ 0 by omega)
  have m2 := Int.emod_lt_of_pos k (show 0 < g.w by omega)
  have d1 : 0 ≤ k / g.w := Int.ediv_nonneg h0 (by omega)
  have d2 : k / g.w < g.h := Int.ediv_lt_of_lt_mul (by omega) (by rw [Int.mul_comm]; omega)
  refine ⟨⟨m1, m2⟩, ⟨d1, d2⟩, fun x hx1 hx2 => ?_, fun y hy1 hy2 => ?_⟩
  · have q1 := Int.emod_nonneg (k % g.w + x) (show g.w ≠ 0 by omega)
    have q2 := Int.emod_lt_of_pos (k % g.w + x) (show 0 < g.w by omega)
    refine ⟨?_, q1, by omega⟩
    rw [Int.tmod_eq_emod_of_nonneg (by omega), Int.add_emod_right]
  · have q1 := Int.emod_nonneg (k / g.w + y) (show g.h ≠ 0 by omega)
    have q2 := Int.emod_lt_of_pos (k / g.w + y) (show 0 < g.h by omega)
    refine ⟨?_, q1, by omega⟩
    rw [Int.tmod_eq_emod_of_nonneg (by omega), Int.add_emod_right]
theorem nextV_ff {g : Grd} {k : Int} (h : someC (g.cs.getD k.toNat default) = false) : nextV g k = 0 := by unfold nextV; rw [h]; rfl
theorem nextV_tt {g : Grd} {k : Int} (h : someC (g.cs.getD k.toNat default) = true) : nextV g k = nextK g k := by unfold nextV; rw [h]; rfl
theorem nextK_0 {g : Grd} {k : Int} (h : bestD (g.cs.getD k.toNat default) = 0) : nextK g k = (k % g.w + 1) % g.w + g.w * ((k / g.w + 0) % g.h) := by unfold nextK; rw [h]; rfl
theorem nextK_1 {g : Grd} {k : Int} (h : bestD (g.cs.getD k.toNat default) = 1) : nextK g k = (k % g.w + 0) % g.w + g.w * ((k / g.w + 1) % g.h) := by unfold nextK; rw [h]; rfl
theorem nextK_2 {g : Grd} {k : Int} (h : bestD (g.cs.getD k.toNat default) = 2) : nextK g k = (k % g.w + -1) % g.w + g.w * ((k / g.w + 0) % g.h) := by unfold nextK; rw [h]; rfl
theorem nextK_3 {g : Grd} {k : Int} (h : bestD (g.cs.getD k.toNat default) = 3) : nextK g k = (k % g.w + 0) % g.w + g.w * ((k / g.w + -1) % g.h) := by unfold nextK; rw [h]; rfl
theorem wmul_bd {g : Grd} (hg : g.ok = true) {t : Int} (h0 : 0 ≤ t) (h1 : t ≤ g.h - 1) : 0 ≤ g.w * t ∧ g.w * t ≤ 4096 := by
  have hb := gok_bds hg
  have m1 : g.w * t ≤ 64 * t := Int.mul_le_mul_of_nonneg_right (by omega) h0
  exact ⟨Int.mul_nonneg (by omega) h0, by omega⟩
/-! ### The grid that is looked at first -/
abbrev cA : Cel := ⟨1, 0, 0, 0⟩
abbrev GA8 : Grd := ⟨2, 2, [⟨1, 0, 0, 0⟩, ⟨0, 1, 0, 0⟩, ⟨0, 0, 0, 0⟩, ⟨0, 0, 0, 0⟩]⟩
theorem ga_1 : circR GA8 ⟨0, 0⟩ ⟨1, 1⟩ = 2 := by decide
theorem ga_2 : blkE GA8 ⟨0, 0⟩ ⟨1, 1⟩ = 0 := by decide
theorem ga_3 : blkE GA8 ⟨0, 0⟩ ⟨0, 0⟩ = 0 := by decide
theorem ga_v : GA8.ok = true := by decide
theorem ga_n0 : nextV GA8 0 = 1 := by decide
theorem ga_n1 : nextV GA8 1 = 3 := by decide
theorem ga_n3 : nextV GA8 3 = 0 := by decide
/-! ### Blocks that are joined -/
def big8 (g : Grd) : Prop := 100 < g.cs.length ∧ g.cs.length ≤ 1024 ∨ 1100 < g.cs.length
instance (g : Grd) : Decidable (big8 g) := by unfold big8; exact inferInstance
theorem circ_at {g : Grd} {a d : Pnt} (hg : g.ok = true) (hb : blkOk g a d) : blkE g a d = 0 ∧ circR g a d = circ g a d := by
  rcases circ_ways g a d with ⟨hv, _⟩ | ⟨hv, _, _, hn⟩ | ⟨hv, he, hr, _⟩
  · rw [hg] at hv; cases hv
  · exact absurd hb hn
  · exact ⟨he, hr⟩
def inY (a d : Pnt) (m : Int) : Prop := a.y ≤ m ∧ m ≤ d.y
def inX (a d : Pnt) (m : Int) : Prop := a.x ≤ m ∧ m ≤ d.x
theorem rows_at {g : Grd} {a d : Pnt} {m : Int} (hg : g.ok = true) (hb : blkOk g a d) (hm : inY a d m) :
    blkE g a ⟨d.x, m⟩ = 0 ∧ circR g a ⟨d.x, m⟩ = circ g a ⟨d.x, m⟩ ∧ blkE g ⟨a.x, m⟩ d = 0 ∧ circR g ⟨a.x, m⟩ d = circ g ⟨a.x, m⟩ d ∧ (-40000000000000 ≤ circ g a ⟨d.x, m⟩ ∧ circ g a ⟨d.x, m⟩ ≤ 40000000000000) ∧ (-40000000000000 ≤ circ g ⟨a.x, m⟩ d ∧ circ g ⟨a.x, m⟩ d ≤ 40000000000000) ∧
    circ g a d = circ g a ⟨d.x, m⟩ + circ g ⟨a.x, m⟩ d - ((atP g.w g.cs d.x m).n - (atP g.w g.cs d.x m).s) + ((atP g.w g.cs a.x m).n - (atP g.w g.cs a.x m).s) := by
  have h1 : blkOk g a ⟨d.x, m⟩ := by unfold blkOk onB inY at *; simp only; omega
  have h2 : blkOk g ⟨a.x, m⟩ d := by unfold blkOk onB inY at *; simp only; omega
  exact ⟨(circ_at hg h1).1, (circ_at hg h1).2, (circ_at hg h2).1, (circ_at hg h2).2, circ_bd hg h1, circ_bd hg h2, join_rows hm.1 hm.2⟩
theorem cols_at {g : Grd} {a d : Pnt} {m : Int} (hg : g.ok = true) (hb : blkOk g a d) (hm : inX a d m) :
    blkE g a ⟨m, d.y⟩ = 0 ∧ circR g a ⟨m, d.y⟩ = circ g a ⟨m, d.y⟩ ∧ blkE g ⟨m, a.y⟩ d = 0 ∧ circR g ⟨m, a.y⟩ d = circ g ⟨m, a.y⟩ d ∧ (-40000000000000 ≤ circ g a ⟨m, d.y⟩ ∧ circ g a ⟨m, d.y⟩ ≤ 40000000000000) ∧ (-40000000000000 ≤ circ g ⟨m, a.y⟩ d ∧ circ g ⟨m, a.y⟩ d ≤ 40000000000000) ∧
    circ g a d = circ g a ⟨m, d.y⟩ + circ g ⟨m, a.y⟩ d - ((atP g.w g.cs m a.y).e - (atP g.w g.cs m a.y).w) + ((atP g.w g.cs m d.y).e - (atP g.w g.cs m d.y).w) := by
  have h1 : blkOk g a ⟨m, d.y⟩ := by unfold blkOk onB inX at *; simp only; omega
  have h2 : blkOk g ⟨m, a.y⟩ d := by unfold blkOk onB inX at *; simp only; omega
  exact ⟨(circ_at hg h1).1, (circ_at hg h1).2, (circ_at hg h2).1, (circ_at hg h2).2, circ_bd hg h1, circ_bd hg h2, join_cols hm.1 hm.2⟩
theorem join_ways (g : Grd) (a d : Pnt) (m : Int) : big8 g ∨ (¬ big8 g ∧ ¬ blkE g a d = 0) ∨ (¬ big8 g ∧ g.ok = true ∧ blkOk g a d ∧ blkE g a d = 0 ∧ circR g a d = circ g a d ∧ (inY a d m ∨ ¬ inY a d m) ∧ (inX a d m ∨ ¬ inX a d m)) := by
  by_cases hb : big8 g
  · exact .inl hb
  · rcases circ_ways g a d with ⟨_, he, _⟩ | ⟨_, he, _⟩ | ⟨hv, he, hr, hk⟩
    · exact .inr (.inl ⟨hb, by omega⟩)
    · exact .inr (.inl ⟨hb, by omega⟩)
    · exact .inr (.inr ⟨hb, hv, hk, he, hr, Classical.em _, Classical.em _⟩)
theorem atP_bd {g : Grd} (hg : g.ok = true) (x y : Int) : bd9 (atP g.w g.cs x y) := okL_bd9 (gok_okL hg) _
end Go.Sy
