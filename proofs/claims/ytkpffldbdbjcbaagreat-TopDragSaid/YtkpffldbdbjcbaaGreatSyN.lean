/- Contracts that turn blocks that are there: a frame round the walk. -/
import Derived.Test.YtkpffldbdbjcbaaGreatSyW
set_option linter.unusedSimpArgs false
set_option linter.unusedVariables false
namespace Go.Sy
open Go.RowKit

/-- It claims what the other one claims, and touches nothing else. -/
structure HB.onto (u b : HB) : Prop where
  gh : u.isGh = false
  cl : ∀ g, u.cl g ↔ b.cl g
  touch : ∀ g, u.touch g → b.touch g
def HB.withOwn (u : HB) (o : Bool) : HB := ⟨u.nm, o, u.kd, u.cts⟩
theorem HB.withOwn_ok {u : HB} {o : Bool} {w : World} : (u.withOwn o).ok w ↔ u.ok w := by
  obtain ⟨nm, own, kd, cts⟩ := u
  cases kd <;> exact Iff.rfl
theorem HB.withOwn_cl {u : HB} {o : Bool} {g : Nat} : (u.withOwn o).cl g ↔ u.cl g := by
  obtain ⟨nm, own, kd, cts⟩ := u
  cases kd <;> exact Iff.rfl
theorem HB.withOwn_touch {u : HB} {o : Bool} {g : Nat} : (u.withOwn o).touch g ↔ u.touch g := by
  obtain ⟨nm, own, kd, cts⟩ := u
  cases kd <;> exact Iff.rfl
/-- Blocks told anew: each place with what stood there. -/
def setAll : List HB → List (Nat × HB) → List HB → List HB
  | hp, (i, b) :: xs, u :: us => setAll (hp.set i (u.withOwn b.own)) xs us
  | hp, _, _ => hp
theorem setAll_at : ∀ (xs : List (Nat × HB)) (us hp : List HB), us.length = xs.length → (xs.map (·.1)).Nodup → (∀ p ∈ xs, hp[p.1]? = some p.2) → ∀ (j : Nat) (c : HB), (setAll hp xs us)[j]? = some c →
    (hp[j]? = some c ∧ ∀ p ∈ xs, p.1 ≠ j) ∨ ∃ (k : Nat) (b u : HB), xs[k]? = some (j, b) ∧ us[k]? = some u ∧ c = u.withOwn b.own
  | [], us, hp, hl, hn, hx, j, c, hj => .inl ⟨(by cases us <;> exact hj), fun p hp => (by cases hp)⟩
  | (i, b) :: xs, u :: us, hp, hl, hn, hx, j, c, hj => by
    simp only [List.map_cons, List.nodup_cons] at hn
    have hil : i < hp.length := (List.getElem?_eq_some_iff.1 (hx (i, b) (by simp))).1
    have hx' : ∀ p ∈ xs, (hp.set i (u.withOwn b.own))[p.1]? = some p.2 := fun p hp' => by
      rw [List.getElem?_set, if_neg (fun e => hn.1 (List.mem_map.2 ⟨p, hp', e.symm⟩))]
      exact hx p (by simp [hp'])
    rcases setAll_at xs us _ (by simpa using hl) hn.2 hx' j c hj with ⟨h1, h2⟩ | ⟨k, b', u', h1, h2, h3⟩
    · rw [List.getElem?_set] at h1
      split at h1
      · rename_i hij
        subst hij
        (try rw [if_pos hil] at h1)
        exact .inr ⟨0, b, u, rfl, rfl, (Option.some.inj h1).symm⟩
      · rename_i hij
        exact .inl ⟨h1, fun p hp' => by
          rcases List.mem_cons.1 hp' with rfl | hp'
          · exact hij
          · exact h2 p hp'⟩
    · exact .inr ⟨k + 1, b', u', h1, h2, h3⟩
  | (i, b) :: xs, [], hp, hl, _, _, _, _, _ => by simp at hl
theorem setAll_has : ∀ (xs : List (Nat × HB)) (us hp : List HB), us.length = xs.length → (xs.map (·.1)).Nodup → (∀ p ∈ xs, hp[p.1]? = some p.2) → ∀ (j : Nat) (c : HB), hp[j]? = some c →
    ((∀ p ∈ xs, p.1 ≠ j) ∧ (setAll hp xs us)[j]? = some c) ∨ ∃ (k : Nat) (b u : HB), xs[k]? = some (j, b) ∧ us[k]? = some u ∧ c = b ∧ (setAll hp xs us)[j]? = some (u.withOwn b.own)
  | [], us, hp, hl, hn, hx, j, c, hj => .inl ⟨fun p hp => (by cases hp), (by cases us <;> exact hj)⟩
  | (i, b) :: xs, u :: us, hp, hl, hn, hx, j, c, hj => by
    simp only [List.map_cons, List.nodup_cons] at hn
    have hil : i < hp.length := (List.getElem?_eq_some_iff.1 (hx (i, b) (by simp))).1
    have hx' : ∀ p ∈ xs, (hp.set i (u.withOwn b.own))[p.1]? = some p.2 := fun p hp' => by
      rw [List.getElem?_set, if_neg (fun e => hn.1 (List.mem_map.2 ⟨p, hp', e.symm⟩))]
      exact hx p (by simp [hp'])
    by_cases hij : i = j
    · subst hij
      have hcb : c = b := by have := hx (i, b) (by simp); simp only at this; rw [hj] at this; exact Option.some.inj this
      have hs : (hp.set i (u.withOwn b.own))[i]? = some (u.withOwn b.own) := by simp [hil]
      rcases setAll_has xs us _ (by simpa using hl) hn.2 hx' i _ hs with ⟨_, h2⟩ | ⟨k, b', u', h1, _, _, _⟩
      · exact .inr ⟨0, b, u, rfl, rfl, hcb, h2⟩
      · exact absurd (List.mem_map.2 ⟨(i, b'), List.mem_of_getElem? h1, rfl⟩) hn.1
    · have hs : (hp.set i (u.withOwn b.own))[j]? = some c := by rw [List.getElem?_set, if_neg hij]; exact hj
      rcases setAll_has xs us _ (by simpa using hl) hn.2 hx' j _ hs with ⟨h1, h2⟩ | ⟨k, b', u', h1, h2, h3, h4⟩
      · exact .inl ⟨fun p hp' => by
          rcases List.mem_cons.1 hp' with rfl | hp'
          · exact hij
          · exact h1 p hp', h2⟩
      · exact .inr ⟨k + 1, b', u', h1, h2, h3, h4⟩
  | (i, b) :: xs, [], hp, hl, _, _, _, _, _ => by simp at hl

/-- What is known of the blocks that a call looks at or turns. -/
structure FrameOk (hp : List HB) (xs : List (Nat × HB)) (bs ro : List HB) : Prop where
  at_ : ∀ p ∈ xs, hp[p.1]? = some p.2
  nd : (xs.map (·.1)).Nodup
  len : bs.length = xs.length
  start : ∀ (k i : Nat) (b b0 : HB), xs[k]? = some (i, b) → bs[k]? = some b0 → b0.own = false ∧ b0.onto b ∧ ∀ w, b.ok w → b0.ok w
  rok : allRo ro
  seen : ∀ v ∈ ro, ∃ (j : Nat) (b : HB), hp[j]? = some b ∧ (∀ p ∈ xs, p.1 ≠ j) ∧ (∀ w, b.ok w → v.ok w) ∧ ∀ g, v.touch g → b.touch g
theorem FrameOk.holds {hp : List HB} {xs : List (Nat × HB)} {bs ro : List HB} (F : FrameOk hp xs bs ro) {w0 w : World} (hw : Holds w0 w hp) : Holds w w (bs ++ ro) := by
  have pos : ∀ {k : Nat} {b0 : HB}, bs[k]? = some b0 → ∃ i b, xs[k]? = some (i, b) ∧ hp[i]? = some b := fun {k b0} hk => by
    have hlt : k < xs.length := by rw [← F.len]; exact (List.getElem?_eq_some_iff.1 hk).1
    refine ⟨xs[k].1, xs[k].2, by simp [hlt], F.at_ xs[k] (List.getElem_mem hlt)⟩
  have memb : ∀ {b0 : HB}, b0 ∈ bs → ∃ k i b, bs[k]? = some b0 ∧ xs[k]? = some (i, b) ∧ hp[i]? = some b := fun {b0} hb => by
    obtain ⟨k, hk⟩ := List.mem_iff_getElem?.1 hb
    obtain ⟨i, b, h1, h2⟩ := pos hk
    exact ⟨k, i, b, hk, h1, h2⟩
  have ndx : ∀ {k l i j : Nat} {b c : HB}, xs[k]? = some (i, b) → xs[l]? = some (j, c) → k ≠ l → i ≠ j := fun {k l i j b c} hk hl hne e => by
    have h1 : (xs.map (·.1))[k]? = some i := by simp [hk]
    have h2 : (xs.map (·.1))[l]? = some j := by simp [hl]
    rw [← e] at h2
    exact hne ((List.getElem?_inj (List.getElem?_eq_some_iff.1 h1).1 F.nd).1 (h1.trans h2.symm))
  refine ⟨Nat.le_refl _, fun _ => ⟨rfl, rfl, rfl, fun _ _ _ => rfl⟩, fun b hb => ?_, fun b hb ho g hg => ?_, ?_⟩
  · rcases List.mem_append.1 hb with hb | hb
    · obtain ⟨k, i, c, hk, hx, hi⟩ := memb hb
      exact (F.start k i c b hx hk).2.2 w (hw.blk c (List.mem_of_getElem? hi))
    · obtain ⟨j, c, hj, _, ho, _⟩ := F.seen b hb
      exact ho w (hw.blk c (List.mem_of_getElem? hj))
  · rcases List.mem_append.1 hb with hb | hb
    · obtain ⟨k, i, c, hk, hx, hi⟩ := memb hb
      rw [(F.start k i c b hx hk).1] at ho; cases ho
    · exact absurd hg ((allRo_mem F.rok b hb).2 g)
  · rw [sep_iff, List.pairwise_append]
    refine ⟨?_, ?_, fun b hb c hc g => ⟨fun h1 h2 => ?_, fun h1 _ => (allRo_mem F.rok c hc).2 g h1⟩⟩
    · rw [List.pairwise_iff_getElem]
      intro k l hk hl hkl g
      obtain ⟨i, b, h1, h2⟩ := pos (k := k) (List.getElem?_eq_getElem hk)
      obtain ⟨j, c, h3, h4⟩ := pos (k := l) (List.getElem?_eq_getElem hl)
      have hne := ndx h1 h3 (by omega)
      have s1 := F.start k i b _ h1 (List.getElem?_eq_getElem hk)
      have s2 := F.start l j c _ h3 (List.getElem?_eq_getElem hl)
      exact ⟨fun q1 q2 => hw.sep i j b c g h2 h4 hne ((s1.2.1.cl g).1 q1) (s2.2.1.touch g q2), fun q1 q2 => hw.sep j i c b g h4 h2 (fun e => hne e.symm) ((s2.2.1.cl g).1 q1) (s1.2.1.touch g q2)⟩
    · rw [List.pairwise_iff_getElem]
      intro k l hk hl hkl g
      exact ⟨fun q1 _ => (allRo_mem F.rok _ (List.getElem_mem hk)).2 g q1, fun q1 _ => (allRo_mem F.rok _ (List.getElem_mem hl)).2 g q1⟩
    · obtain ⟨k, i, x, hk, hx, hi⟩ := memb hb
      obtain ⟨j, y, hj, hne, _, ht⟩ := F.seen c hc
      have s1 := F.start k i x b hx hk
      exact hw.sep i j x y g hi hj (hne (i, x) (List.mem_of_getElem? hx)) ((s1.2.1.cl g).1 h1) (ht g h2)
/-- Behind the call. -/
theorem FrameOk.back {hp : List HB} {xs : List (Nat × HB)} {bs ro us news : List HB} (F : FrameOk hp xs bs ro) (hng : ∀ b ∈ hp, b.isGh = false) {w0 w w' : World} (hw : Holds w0 w hp) (hn : Holds w w' (us ++ news)) (hl : us.length = xs.length)
    (hu : ∀ (k i : Nat) (b u : HB), xs[k]? = some (i, b) → us[k]? = some u → u.onto b) (hf : allFresh news = true) : Holds w0 w' (setAll hp xs us ++ news) := by
  have hfr := allFresh_mem hf
  have hge : ∀ b ∈ news, ∀ g, b.touch g → w.heap.size ≤ g := fun b hb g ht => hn.own b (List.mem_append.2 (.inr hb)) (hfr b hb).1 g ((hfr b hb).2.2 g ht)
  have hlt : ∀ b ∈ hp, ∀ g, b.touch g → g < w.heap.size := fun b hb g ht => (hw.blk b hb).lt ht
  have ngu : ∀ b ∈ us ++ news, b.isGh = false := fun b hb => by
    rcases List.mem_append.1 hb with hb | hb
    · obtain ⟨k, hk⟩ := List.mem_iff_getElem?.1 hb
      have hlt : k < xs.length := by rw [← hl]; exact (List.getElem?_eq_some_iff.1 hk).1
      exact (hu k xs[k].1 xs[k].2 b (by simp [hlt]) hk).gh
    · exact (hfr b hb).2.1
  obtain ⟨b1, b2, b3, b4⟩ := hn.base ngu
  obtain ⟨c1, c2, c3, c4⟩ := hw.base hng
  -- what stands at a place behind the call claims and touches no more than what stood there
  have old : ∀ {j : Nat} {c : HB}, (setAll hp xs us)[j]? = some c → ∃ b, hp[j]? = some b ∧ (∀ g, c.cl g ↔ b.cl g) ∧ (∀ g, c.touch g → b.touch g) ∧ (c.own = b.own) := fun {j c} hj => by
    rcases setAll_at xs us hp hl F.nd F.at_ j c hj with ⟨h1, _⟩ | ⟨k, b, u, h1, h2, rfl⟩
    · exact ⟨c, h1, fun _ => Iff.rfl, fun _ h => h, rfl⟩
    · have o := hu k j b u h1 h2
      exact ⟨b, F.at_ (j, b) (List.mem_of_getElem? h1), fun g => HB.withOwn_cl.trans (o.cl g), fun g h => o.touch g (HB.withOwn_touch.1 h), rfl⟩
  have keep : ∀ {j : Nat} {c : HB}, hp[j]? = some c → (∀ p ∈ xs, p.1 ≠ j) → ∀ g, c.touch g → w'.heap[g]? = w.heap[g]? := fun {j c} hj hne g ht => by
    refine b4 g (hlt c (List.mem_of_getElem? hj) g ht) fun b hb hc => ?_
    rcases List.mem_append.1 hb with hb | hb
    · obtain ⟨k, hk⟩ := List.mem_iff_getElem?.1 hb
      have hlk : k < xs.length := by rw [← hl]; exact (List.getElem?_eq_some_iff.1 hk).1
      have o := hu k xs[k].1 xs[k].2 b (by simp [hlk]) hk
      exact hw.sep xs[k].1 j xs[k].2 c g (F.at_ xs[k] (List.getElem_mem hlk)) hj (hne xs[k] (List.getElem_mem hlk)) ((o.cl g).1 hc) ht
    · have := hge b hb g (.inl hc)
      have := hlt c (List.mem_of_getElem? hj) g ht
      omega
  refine ⟨Nat.le_trans hw.size hn.size, fun _ => ⟨b1.trans c1, b2.trans c2, b3.trans c3, fun k hk hnc => ?_⟩, fun b hb => ?_, fun b hb hbo g hbg => ?_, ?_⟩
  · have h1 : w.heap[k]? = w0.heap[k]? := c4 k hk fun b hb hc => by
      obtain ⟨j, hj⟩ := List.mem_iff_getElem?.1 hb
      rcases setAll_has xs us hp hl F.nd F.at_ j b hj with ⟨_, h⟩ | ⟨q, b', u, h2, h3, rfl, h⟩
      · exact hnc b (List.mem_append.2 (.inl (List.mem_of_getElem? h))) hc
      · exact hnc _ (List.mem_append.2 (.inl (List.mem_of_getElem? h))) (HB.withOwn_cl.2 (((hu q j b u h2 h3).cl k).2 hc))
    rw [← h1]
    refine b4 k (Nat.lt_of_lt_of_le hk hw.size) fun b hb hc => ?_
    rcases List.mem_append.1 hb with hb' | hb'
    · obtain ⟨q, hq⟩ := List.mem_iff_getElem?.1 hb'
      have hlk : q < xs.length := by rw [← hl]; exact (List.getElem?_eq_some_iff.1 hq).1
      have hx : xs[q]? = some (xs[q].1, xs[q].2) := by simp [hlk]
      have o := hu q xs[q].1 xs[q].2 b hx hq
      have hat := F.at_ xs[q] (List.getElem_mem hlk)
      rcases setAll_has xs us hp hl F.nd F.at_ xs[q].1 _ hat with ⟨h, _⟩ | ⟨q', b', u, h2, h3, he, h⟩
      · exact h xs[q] (List.getElem_mem hlk) rfl
      · exact hnc _ (List.mem_append.2 (.inl (List.mem_of_getElem? h))) (HB.withOwn_cl.2 (((hu q' _ b' u h2 h3).cl k).2 (by rw [← he]; exact (o.cl k).1 hc)))
    · exact hnc b (List.mem_append.2 (.inr hb')) hc
  · rcases List.mem_append.1 hb with hb | hb
    · obtain ⟨j, hj⟩ := List.mem_iff_getElem?.1 hb
      rcases setAll_at xs us hp hl F.nd F.at_ j b hj with ⟨h1, hne⟩ | ⟨k, b', u, h1, h2, rfl⟩
      · exact (hw.blk b (List.mem_of_getElem? h1)).keep (hng b (List.mem_of_getElem? h1)) fun g ht => keep h1 hne g ht
      · exact HB.withOwn_ok.2 (hn.blk u (List.mem_append.2 (.inl (List.mem_of_getElem? h2))))
    · exact hn.blk b (List.mem_append.2 (.inr hb))
  · rcases List.mem_append.1 hb with hb | hb
    · obtain ⟨j, hj⟩ := List.mem_iff_getElem?.1 hb
      obtain ⟨c, hc, h1, _, h3⟩ := old hj
      exact hw.own c (List.mem_of_getElem? hc) (by rw [← h3]; exact hbo) g ((h1 g).1 hbg)
    · exact Nat.le_trans hw.size (hge b hb g (.inl hbg))
  · rw [sep_iff, List.pairwise_append]
    refine ⟨?_, (List.pairwise_append.1 (sep_iff.1 hn.sep)).2.1, fun b hb c hc g => ⟨fun h1 h2 => ?_, fun h1 h2 => ?_⟩⟩
    · rw [← sep_iff]
      intro i j bi bj g hi hj hij hci hti
      obtain ⟨x, hx, h1, _, _⟩ := old hi
      obtain ⟨y, hy, _, h2, _⟩ := old hj
      exact hw.sep i j x y g hx hy hij ((h1 g).1 hci) (h2 g hti)
    · obtain ⟨j, hj⟩ := List.mem_iff_getElem?.1 hb
      obtain ⟨x, hx, q1, _, _⟩ := old hj
      have := hlt x (List.mem_of_getElem? hx) g (.inl ((q1 g).1 h1)); have := hge c hc g h2; omega
    · obtain ⟨j, hj⟩ := List.mem_iff_getElem?.1 hb
      obtain ⟨x, hx, _, q2, _⟩ := old hj
      have := hlt x (List.mem_of_getElem? hx) g (q2 g h2); have := hge c hc g (.inl h1); omega
/-- A contract that turns blocks that are there. -/
theorem eok_of_wkF {P : Program} (X : Env P) {f : FuncId} {fn : Func} {code : Code} (hf : P.funcs[f]? = some fn) (hb : fn.body = some code)
    (hname : (fn.name == "runtime.NumGoroutine") = false) (hN : fn.ntmps = X.N) (hrs : fn.results.toList = X.rs) {c : ECtr}
    (h : ∀ (args : List SV) (hp : List HB) (K : SV → List HB → Prop), c args hp K → ∃ (args' : List SV) (xs : List (Nat × HB)) (bs ro : List HB), denL args' = denL args ∧ noGh hp = true ∧ FrameOk hp xs bs ro ∧
      args'.length ≤ X.N ∧ Wk X none (endP X fun v hq => ∃ v' us news, den v' = den v ∧ (∃ hr, hr.Perm hq ∧ hsel (us ++ news) hr) ∧ us.length = xs.length ∧ (∀ (k i : Nat) (b u : HB), xs[k]? = some (i, b) → us[k]? = some u → u.onto b) ∧ allFresh news = true ∧ K v' (setAll hp xs us ++ news)) [.c code] [] (argFr 0 args') (bs ++ ro)) : EOk P f c :=
  ⟨⟨fn, hf, hname, by rw [hb]; rfl⟩, fun args hp K hc w0 w hw => by
    obtain ⟨args', xs, bs, ro, ha, hng, F, hn, hv⟩ := h args hp K hc
    rw [← ha]
    refine (calls_of_wk X hf hb hN hrs hn hv (F.holds hw)).mono fun e w' ⟨v, hq, ⟨v', us, news, h1, ⟨hr, hperm, h2⟩, hl, hu, h3, hK⟩, he, hw'⟩ => ?_
    exact ⟨v', _, hK, by rw [he, h1], F.back (noGh_mem hng) hw ((hw'.perm hperm.symm).sel h2) hl hu h3⟩⟩
/-! ### Frames, block by block -/
def FL (hp : List HB) : List (Nat × HB) → List HB → Prop
  | [], [] => True
  | (i, b) :: xs, b0 :: bs => (hp[i]? = some b ∧ b0.own = false ∧ b0.onto b ∧ ∀ w, b.ok w → b0.ok w) ∧ FL hp xs bs
  | _, _ => False
def RL (hp : List HB) (is : List Nat) : List HB → Prop
  | [] => True
  | v :: ro => ((match v.kd with | .ro | .bn _ => True | _ => False) ∧ ∃ (j : Nat) (b : HB), hp[j]? = some b ∧ (∀ i ∈ is, i ≠ j) ∧ (∀ w, b.ok w → v.ok w) ∧ ∀ g, v.touch g → b.touch g) ∧ RL hp is ro
theorem FL_at {hp : List HB} : ∀ {xs : List (Nat × HB)} {bs : List HB}, FL hp xs bs → bs.length = xs.length ∧ (∀ p ∈ xs, hp[p.1]? = some p.2) ∧ ∀ (k i : Nat) (b b0 : HB), xs[k]? = some (i, b) → bs[k]? = some b0 → b0.own = false ∧ b0.onto b ∧ ∀ w, b.ok w → b0.ok w
  | [], [], _ => ⟨rfl, fun p hp => (by cases hp), fun k i b b0 h => (by simp at h)⟩
  | (i, b) :: xs, b0 :: bs, h => by
    obtain ⟨h1, h2, h3⟩ := FL_at h.2
    refine ⟨by simp [h1], fun p hp => ?_, fun k i' b' b0' hx hb => ?_⟩
    · rcases List.mem_cons.1 hp with rfl | hp
      · exact h.1.1
      · exact h2 p hp
    · cases k with
      | zero =>
        simp only [List.getElem?_cons_zero, Option.some.injEq, Prod.mk.injEq] at hx hb
        obtain ⟨rfl, rfl⟩ := hx
        subst hb
        exact h.1.2
      | succ k => exact h3 k i' b' b0' (by simpa using hx) (by simpa using hb)
theorem RL_at {hp : List HB} {is : List Nat} : ∀ {ro : List HB}, RL hp is ro → allRo ro ∧ ∀ v ∈ ro, ∃ (j : Nat) (b : HB), hp[j]? = some b ∧ (∀ i ∈ is, i ≠ j) ∧ (∀ w, b.ok w → v.ok w) ∧ ∀ g, v.touch g → b.touch g
  | [], _ => ⟨trivial, fun v hv => (by cases hv)⟩
  | v :: ro, h => by
    obtain ⟨h1, h2⟩ := RL_at h.2
    refine ⟨⟨h.1.1, h1⟩, fun u hu => ?_⟩
    rcases List.mem_cons.1 hu with rfl | hu
    · exact h.1.2
    · exact h2 u hu
theorem FrameOk.of {hp : List HB} {xs : List (Nat × HB)} {bs ro : List HB} (h : FL hp xs bs) (hn : (xs.map (·.1)).Nodup) (hr : RL hp (xs.map (·.1)) ro) : FrameOk hp xs bs ro := by
  obtain ⟨h1, h2, h3⟩ := FL_at h
  obtain ⟨h4, h5⟩ := RL_at hr
  exact ⟨h2, hn, h1, h3, h4, fun v hv => by
    obtain ⟨j, b, q1, q2, q3⟩ := h5 v hv
    exact ⟨j, b, q1, fun p hp => q2 p.1 (List.mem_map.2 ⟨p, hp, rfl⟩), q3⟩⟩
theorem onto_ob {a : Option Nm} {o o' : Bool} {p q : Obj} {x y : Cts} : HB.onto ⟨a, o, .ob p, x⟩ ⟨a, o', .ob q, y⟩ :=
  ⟨rfl, fun g => (by cases a <;> exact Iff.rfl), fun g h => (by cases a <;> exact h)⟩
theorem ok_own {a : Option Nm} {o o' : Bool} {k : BK} {x : Cts} {w : World} (h : (⟨a, o, k, x⟩ : HB).ok w) : (⟨a, o', k, x⟩ : HB).ok w := by cases k <;> exact h
theorem ok_l {a : Option Nm} {o o' : Bool} {k : BK} {x y : List SV} {w : World} (hd : denL y = denL x) (h : (⟨a, o, k, .l x⟩ : HB).ok w) : (⟨a, o', k, .l y⟩ : HB).ok w :=
  HB.ok.like (ok_own (o' := o') h) (like_l hd)
theorem touch_ro {a : Option Nm} {o o' : Bool} {x : Cts} {g : Nat} (h : (⟨a, o, .ro, x⟩ : HB).touch g) : (⟨a, o', .ro, x⟩ : HB).touch g := by
  rcases h with h | h
  · exact h.elim
  · exact .inr h
end Go.Sy
