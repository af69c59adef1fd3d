/- Joined blocks: the ways, told for the walk. -/
import Derived.Test.YtjkdbnccgaheeaaSpField2
namespace Go.Sy
/-- What is known of the rows that are shared, if there are any. -/
def rowsF (g : Grd) (a d : Pnt) (m : Int) : Prop := (inY a d m) ∧ blkE g a ⟨d.x, m⟩ = 0 ∧ circR g a ⟨d.x, m⟩ = circ g a ⟨d.x, m⟩ ∧ blkE g ⟨a.x, m⟩ d = 0 ∧ circR g ⟨a.x, m⟩ d = circ g ⟨a.x, m⟩ d ∧ (-40000000000000 ≤ circ g a ⟨d.x, m⟩ ∧ circ g a ⟨d.x, m⟩ ≤ 40000000000000) ∧ (-40000000000000 ≤ circ g ⟨a.x, m⟩ d ∧ circ g ⟨a.x, m⟩ d ≤ 40000000000000) ∧
    circ g a d = circ g a ⟨d.x, m⟩ + circ g ⟨a.x, m⟩ d - ((atP g.w g.cs d.x m).n - (atP g.w g.cs d.x m).s) + ((atP g.w g.cs a.x m).n - (atP g.w g.cs a.x m).s) ∧ bd9 (atP g.w g.cs d.x m) ∧ bd9 (atP g.w g.cs a.x m)
def colsF (g : Grd) (a d : Pnt) (m : Int) : Prop := (inX a d m) ∧ blkE g a ⟨m, d.y⟩ = 0 ∧ circR g a ⟨m, d.y⟩ = circ g a ⟨m, d.y⟩ ∧ blkE g ⟨m, a.y⟩ d = 0 ∧ circR g ⟨m, a.y⟩ d = circ g ⟨m, a.y⟩ d ∧ (-40000000000000 ≤ circ g a ⟨m, d.y⟩ ∧ circ g a ⟨m, d.y⟩ ≤ 40000000000000) ∧ (-40000000000000 ≤ circ g ⟨m, a.y⟩ d ∧ circ g ⟨m, a.y⟩ d ≤ 40000000000000) ∧
    circ g a d = circ g a ⟨m, d.y⟩ + circ g ⟨m, a.y⟩ d - ((atP g.w g.cs m a.y).e - (atP g.w g.cs m a.y).w) + ((atP g.w g.cs m d.y).e - (atP g.w g.cs m d.y).w) ∧ bd9 (atP g.w g.cs m a.y) ∧ bd9 (atP g.w g.cs m d.y)
theorem joinW (g : Grd) (a d : Pnt) (m : Int) : (decide (big8 g) = true ∧ True ∧ True ∧ True ∧ True ∧ True ∧ True ∧ True ∧ True ∧ True ∧ True) ∨ (decide (big8 g) = false ∧ g.cs.length ≤ 1100 ∧ ¬ blkE g a d = 0 ∧ True ∧ True ∧ True ∧ True ∧ True ∧ True ∧ True ∧ True ∧ True) ∨
    (decide (big8 g) = false ∧ g.cs.length ≤ 1100 ∧ g.ok = true ∧ blkOk g a d ∧ blkE g a d = 0 ∧ circR g a d = circ g a d ∧ (rowsF g a d m ∨ ((¬ inY a d m) ∧ True ∧ True ∧ True ∧ True)) ∧ (colsF g a d m ∨ ((¬ inX a d m) ∧ True ∧ True ∧ True ∧ True))) := by
  rcases join_ways g a d m with h | ⟨h, h1⟩ | ⟨h, hv, hk, he, hr, hy, hx⟩
  · exact .inl ⟨decide_eq_true h, trivial, trivial, trivial, trivial, trivial, trivial, trivial, trivial, trivial, trivial⟩
  · exact .inr (.inl ⟨decide_eq_false h, by unfold big8 at h; omega, h1, trivial, trivial, trivial, trivial, trivial, trivial, trivial, trivial, trivial⟩)
  · refine .inr (.inr ⟨decide_eq_false h, by unfold big8 at h; omega, hv, hk, he, hr, ?_, ?_⟩)
    · rcases hy with hy | hy
      · obtain ⟨r1, r2, r3, r4, r5, r6, r7⟩ := rows_at hv hk hy
        exact .inl ⟨hy, r1, r2, r3, r4, r5, r6, r7, atP_bd hv _ _, atP_bd hv _ _⟩
      · exact .inr ⟨hy, trivial, trivial, trivial, trivial⟩
    · rcases hx with hx | hx
      · obtain ⟨r1, r2, r3, r4, r5, r6, r7⟩ := cols_at hv hk hx
        exact .inl ⟨hx, r1, r2, r3, r4, r5, r6, r7, atP_bd hv _ _, atP_bd hv _ _⟩
      · exact .inr ⟨hx, trivial, trivial, trivial, trivial⟩
end Go.Sy
