/- Mixes that step: pairs of cells, one by one; both phases streamed. -/
import Derived.Test.YtokeaplbmlpkdaaGreatSpKeep
import Derived.Test.YtokeaplbmlpkdaaGreatSpPhase2
set_option linter.unusedSimpArgs false
set_option linter.unusedVariables false
set_option linter.unusedSectionVars false
namespace Go.Sy
/-! ### Pairs of cells -/
def Prr.ok (p : Prr) : Prop := p.a.ok = true ∧ p.b.ok = true ∧ (p.a.add p.b).ok = true
def dd0 (r : Rul) (p : Prr) : Prr := ⟨p.a.after r, p.b.after r⟩
def ddx (k : Int) (s : Rul) (p : Prr) : Prr := ⟨xchA p.a p.b s k, xchB p.a p.b s k⟩
def mfw (r s : Rul) (p : Prr) : Prr := ddx 1 s (ddx 0 s (dd0 r p))
def mbw (r s : Rul) (p : Prr) : Prr := dd0 r.inv (ddx 0 s.inv (ddx 1 s.inv p))
/-- What each deed keeps. -/
structure Keeps (f : Prr → Prr) : Prop where
  ok : ∀ p, p.ok → (f p).ok
  ma : ∀ p, p.ok → (f p).a.m = p.a.m
  mb : ∀ p, p.ok → (f p).b.m = p.b.m
  ea : ∀ p, p.ok → ((f p).a.e - (f p).a.w) + ((f p).b.e - (f p).b.w) = (p.a.e - p.a.w) + (p.b.e - p.b.w)
  no : ∀ p, p.ok → ((f p).a.n - (f p).a.s) + ((f p).b.n - (f p).b.s) = (p.a.n - p.a.s) + (p.b.n - p.b.s)
theorem add_ok_m {a b : Cel} (ha : a.ok = true) (hb : b.ok = true) : (a.add b).ok = true ↔ a.m + b.m ≤ 1000000000 := by
  have fa := Cel.ok_iff.1 ha
  have fb := Cel.ok_iff.1 hb
  rw [Cel.ok_iff]
  simp only [Cel.add, Cel.m]
  omega
theorem Keeps.comp {f g : Prr → Prr} (hf : Keeps f) (hg : Keeps g) : Keeps fun p => g (f p) :=
  ⟨fun p h => hg.ok _ (hf.ok p h), fun p h => (hg.ma _ (hf.ok p h)).trans (hf.ma p h), fun p h => (hg.mb _ (hf.ok p h)).trans (hf.mb p h), fun p h => (hg.ea _ (hf.ok p h)).trans (hf.ea p h), fun p h => (hg.no _ (hf.ok p h)).trans (hf.no p h)⟩
theorem keeps_d0 {r : Rul} (hr : r.ok = true) : Keeps (dd0 r) := by
  refine ⟨fun p h => ⟨Cel.after_ok h.1 hr, Cel.after_ok h.2.1 hr, ?_⟩, fun p h => (Cel.after_m r).1, fun p h => (Cel.after_m r).1, fun p h => ?_, fun p h => ?_⟩
  · have h1 := (Cel.after_m (c := p.a) r).1
    have h2 := (Cel.after_m (c := p.b) r).1
    have := (add_ok_m h.1 h.2.1).1 h.2.2
    show ((p.a.after r).add (p.b.after r)).ok = true
    rw [add_ok_m (Cel.after_ok h.1 hr) (Cel.after_ok h.2.1 hr)]
    show (p.a.after r).m + (p.b.after r).m ≤ _
    omega
  · have h1 := (Cel.after_m (c := p.a) r).2.1
    have h2 := (Cel.after_m (c := p.b) r).2.1
    simp only [dd0]; omega
  · have h1 := (Cel.after_m (c := p.a) r).2.2
    have h2 := (Cel.after_m (c := p.b) r).2.2
    simp only [dd0]; omega
theorem xc_of {p : Prr} {s : Rul} {k : Int} (h : p.ok) (hs : s.ok = true) (hk : k = 0 ∨ k = 1) : xcE p.a p.b s k = 0 := xcE_iff.2 ⟨h.1, h.2.1, hs, hk, h.2.2⟩
theorem keeps_dx {s : Rul} (hs : s.ok = true) {k : Int} (hk : k = 0 ∨ k = 1) : Keeps (ddx k s) := by
  refine ⟨fun p h => ?_, fun p h => ?_, fun p h => ?_, fun p h => ?_, fun p h => ?_⟩
  · have q := xch_kept (xc_of h hs hk)
    have z := xcE_iff.1 q.2.2.2.2.1
    exact ⟨z.1, z.2.1, z.2.2.2.2⟩
  · exact (xch_kept (xc_of h hs hk)).1
  · exact (xch_kept (xc_of h hs hk)).2.1
  · exact (xch_kept (xc_of h hs hk)).2.2.1
  · exact (xch_kept (xc_of h hs hk)).2.2.2.1
theorem keeps_fw {r s : Rul} (hr : r.ok = true) (hs : s.ok = true) : Keeps (mfw r s) := ((keeps_d0 hr).comp (keeps_dx hs (.inl rfl))).comp (keeps_dx hs (.inr rfl))
theorem keeps_bw {r s : Rul} (hr : r.ok = true) (hs : s.ok = true) : Keeps (mbw r s) := ((keeps_dx (Rul.inv_ok hs) (.inr rfl)).comp (keeps_dx (Rul.inv_ok hs) (.inl rfl))).comp (keeps_d0 (Rul.inv_ok hr))
theorem dx_undone {s : Rul} (hs : s.ok = true) {k : Int} (hk : k = 0 ∨ k = 1) {p : Prr} (h : p.ok) : ddx k s.inv (ddx k s p) = p := by
  have q := xch_kept (xc_of h hs hk)
  show (⟨xchA (xchA p.a p.b s k) (xchB p.a p.b s k) s.inv k, xchB (xchA p.a p.b s k) (xchB p.a p.b s k) s.inv k⟩ : Prr) = p
  rw [q.2.2.2.2.2.1, q.2.2.2.2.2.2.1]
theorem d0_undone {r : Rul} (hr : r.ok = true) {p : Prr} (h : p.ok) : dd0 r.inv (dd0 r p) = p ∧ dd0 r (dd0 r.inv p) = p := by
  have h1 := Cel.after_undone h.1 hr
  have h2 := Cel.after_undone h.2.1 hr
  unfold dd0
  simp only [h1, h2, Prr.eta, and_self]
theorem bw_fw {r s : Rul} (hr : r.ok = true) (hs : s.ok = true) {p : Prr} (h : p.ok) : mbw r s (mfw r s p) = p := by
  have h0 := (keeps_d0 hr).ok p h
  have h1 := (keeps_dx hs (.inl rfl)).ok _ h0
  unfold mbw mfw
  rw [dx_undone hs (.inr rfl) h1, dx_undone hs (.inl rfl) h0, (d0_undone hr h).1]
/-! ### Lists of pairs -/
def zA (f : Prr → Prr) (A B : List Cel) : List Cel := tab A.length fun j => (f ⟨A.getD j default, B.getD j default⟩).a
def zB (f : Prr → Prr) (A B : List Cel) : List Cel := tab A.length fun j => (f ⟨A.getD j default, B.getD j default⟩).b
theorem zA_length (f : Prr → Prr) (A B : List Cel) : (zA f A B).length = A.length := tab_length _ _
theorem zB_length (f : Prr → Prr) (A B : List Cel) : (zB f A B).length = A.length := tab_length _ _
theorem zA_at (f : Prr → Prr) (A B : List Cel) {j : Nat} (h : j < A.length) : (zA f A B).getD j default = (f ⟨A.getD j default, B.getD j default⟩).a := tab_at _ h
theorem zB_at (f : Prr → Prr) (A B : List Cel) {j : Nat} (h : j < A.length) : (zB f A B).getD j default = (f ⟨A.getD j default, B.getD j default⟩).b := tab_at _ h
theorem zA_zA (f g : Prr → Prr) (A B : List Cel) : zA g (zA f A B) (zB f A B) = zA (fun p => g (f p)) A B := by
  unfold zA
  rw [tab_length]
  exact tab_congr fun j hj => by rw [tab_at _ hj]; show (g ⟨_, (zB f A B).getD j default⟩).a = _; rw [zB_at f A B hj]
theorem zB_zB (f g : Prr → Prr) (A B : List Cel) : zB g (zA f A B) (zB f A B) = zB (fun p => g (f p)) A B := by
  unfold zB
  rw [zA_length]
  exact tab_congr fun j hj => by rw [zA_at f A B hj]; show (g ⟨_, (zB f A B).getD j default⟩).b = _; rw [zB_at f A B hj]
theorem zA_id {A B : List Cel} {f : Prr → Prr} (h : ∀ j, j < A.length → f ⟨A.getD j default, B.getD j default⟩ = ⟨A.getD j default, B.getD j default⟩) : zA f A B = A :=
  (tab_congr fun j hj => by rw [h j hj]).trans (tab_self A)
theorem zB_id {A B : List Cel} (hl : A.length = B.length) {f : Prr → Prr} (h : ∀ j, j < A.length → f ⟨A.getD j default, B.getD j default⟩ = ⟨A.getD j default, B.getD j default⟩) : zB f A B = B := by
  unfold zB
  rw [hl] at h ⊢
  exact (tab_congr fun j hj => by rw [h j hj]).trans (tab_self B)
/-! ### Sums of lists of pairs -/
theorem massL_sum : ∀ cs : List Cel, massL cs = sumI (cs.map (·.m))
  | [] => rfl
  | c :: cs => by simp only [massL, List.map_cons, sumI, massL_sum cs]
theorem eastL_sum : ∀ cs : List Cel, eastL cs = sumI (cs.map fun c => c.e - c.w)
  | [] => rfl
  | c :: cs => by simp only [eastL, List.map_cons, sumI, eastL_sum cs]
theorem northL_sum : ∀ cs : List Cel, northL cs = sumI (cs.map fun c => c.n - c.s)
  | [] => rfl
  | c :: cs => by simp only [northL, List.map_cons, sumI, northL_sum cs]
theorem sumI_two {α : Type} (f g : α → Int) : ∀ l : List α, sumI (l.map f) + sumI (l.map g) = sumI (l.map fun i => f i + g i)
  | [] => rfl
  | a :: l => by have := sumI_two f g l; simp only [List.map_cons, sumI]; omega
theorem sumI_cong {α : Type} {f g : α → Int} {l : List α} (h : ∀ i ∈ l, f i = g i) : sumI (l.map f) = sumI (l.map g) := by rw [List.map_congr_left h]
theorem sum_tab (F : Cel → Int) (n : Nat) (G : Nat → Cel) : sumI ((tab n G).map F) = sumI ((List.range n).map fun j => F (G j)) := by unfold tab; rw [List.map_map]; rfl
theorem sum_at (F : Cel → Int) (cs : List Cel) : sumI (cs.map F) = sumI ((List.range cs.length).map fun j => F (cs.getD j default)) := by
  rw [← sum_tab, tab_self]
/-! ### Mixes -/
theorem mix_iff {w h : Int} {A B : List Cel} : (⟨w, h, A, B⟩ : Mix).ok = true ↔ (⟨w, h, A⟩ : Grd).ok = true ∧ (⟨w, h, B⟩ : Grd).ok = true ∧ massL A + massL B ≤ 1000000000 := by
  unfold Mix.ok
  simp only [Bool.and_eq_true, decide_eq_true_eq]
  exact Iff.rfl
theorem mix_len {w h : Int} {A B : List Cel} (m : (⟨w, h, A, B⟩ : Mix).ok = true) : A.length = B.length := by
  obtain ⟨h1, h2, _⟩ := mix_iff.1 m
  have e1 := (Grd.ok_iff.1 h1).2.1
  have e2 := (Grd.ok_iff.1 h2).2.1
  simp only at e1 e2
  omega
theorem cell_le {cs : List Cel} (h : okL cs = true) {j : Nat} (hj : j < cs.length) : (cs.getD j default).m ≤ massL cs := (nn_mass (okL_nn h)).2 _ (getD_mem default hj)
theorem mix_pair {w h : Int} {A B : List Cel} (m : (⟨w, h, A, B⟩ : Mix).ok = true) {j : Nat} (hj : j < A.length) : Prr.ok ⟨A.getD j default, B.getD j default⟩ := by
  obtain ⟨h1, h2, h3⟩ := mix_iff.1 m
  have hl := mix_len m
  have a1 := okL_at (gok_okL h1) hj
  have b1 := okL_at (gok_okL h2) (show j < B.length by omega)
  have a2 := cell_le (gok_okL h1) hj
  have b2 := cell_le (gok_okL h2) (show j < B.length by omega)
  refine ⟨a1, b1, (add_ok_m a1 b1).2 ?_⟩
  simp only at a2 b2 ⊢
  omega
theorem zip_kept {w h : Int} {A B : List Cel} (m : (⟨w, h, A, B⟩ : Mix).ok = true) {f : Prr → Prr} (hf : Keeps f) :
    massL (zA f A B) = massL A ∧ massL (zB f A B) = massL B ∧ eastL (zA f A B) + eastL (zB f A B) = eastL A + eastL B ∧ northL (zA f A B) + northL (zB f A B) = northL A + northL B := by
  have hl := mix_len m
  have hp := fun j (hj : j ∈ List.range A.length) => mix_pair m (List.mem_range.1 hj)
  have eB : ∀ F : Cel → Int, sumI (B.map F) = sumI ((List.range A.length).map fun j => F (B.getD j default)) := fun F => by rw [sum_at, hl]
  refine ⟨?_, ?_, ?_, ?_⟩
  · rw [massL_sum, massL_sum, sum_at _ A]; unfold zA; rw [sum_tab]
    exact sumI_cong fun j hj => hf.ma _ (hp j hj)
  · rw [massL_sum, massL_sum, eB]; unfold zB; rw [sum_tab]
    exact sumI_cong fun j hj => hf.mb _ (hp j hj)
  · rw [eastL_sum, eastL_sum, eastL_sum, eastL_sum, eB, sum_at _ A]; unfold zA zB; rw [sum_tab, sum_tab, sumI_two, sumI_two]
    exact sumI_cong fun j hj => hf.ea _ (hp j hj)
  · rw [northL_sum, northL_sum, northL_sum, northL_sum, eB, sum_at _ A]; unfold zA zB; rw [sum_tab, sum_tab, sumI_two, sumI_two]
    exact sumI_cong fun j hj => hf.no _ (hp j hj)
theorem mix_zip {w h : Int} {A B : List Cel} (m : (⟨w, h, A, B⟩ : Mix).ok = true) {f : Prr → Prr} (hf : Keeps f) : (⟨w, h, zA f A B, zB f A B⟩ : Mix).ok = true := by
  obtain ⟨h1, h2, h3⟩ := mix_iff.1 m
  have hl := mix_len m
  have k := zip_kept m hf
  obtain ⟨a1, a2, a3, a4⟩ := Grd.ok_iff.1 h1
  obtain ⟨b1, b2, b3, b4⟩ := Grd.ok_iff.1 h2
  have nA : nnL (zA f A B) := fun c hc => by
    obtain ⟨j, hj, rfl⟩ := tab_mem hc
    have := Cel.ok_iff.1 (hf.ok _ (mix_pair m hj)).1; omega
  have nB : nnL (zB f A B) := fun c hc => by
    obtain ⟨j, hj, rfl⟩ := tab_mem hc
    have := Cel.ok_iff.1 (hf.ok _ (mix_pair m hj)).2.1; omega
  simp only at a4 b4 a2 b2
  exact mix_iff.2 ⟨gok_mk a1 (by rw [zA_length]; exact a2) nA (by rw [k.1]; exact a4), gok_mk b1 (by rw [zB_length, hl]; exact b2) nB (by rw [k.2.1]; exact b4), by rw [k.1, k.2.1]; exact h3⟩
theorem mix_flow {w h : Int} {A B : List Cel} (m : (⟨w, h, A, B⟩ : Mix).ok = true) (p : Int) : (⟨w, h, flow w h p A, flow w h p B⟩ : Mix).ok = true ∧
    massL (flow w h p A) = massL A ∧ massL (flow w h p B) = massL B ∧ eastL (flow w h p A) = eastL A ∧ eastL (flow w h p B) = eastL B ∧ northL (flow w h p A) = northL A ∧ northL (flow w h p B) = northL B := by
  obtain ⟨h1, h2, h3⟩ := mix_iff.1 m
  obtain ⟨a1, a2, _, _⟩ := Grd.ok_iff.1 h1
  obtain ⟨b1, b2, _, _⟩ := Grd.ok_iff.1 h2
  simp only at a1 a2 b1 b2
  have sA := flow_sums (w := w) (h := h) (by omega) (by omega) a2 p
  have sB := flow_sums (w := w) (h := h) (by omega) (by omega) b2 p
  exact ⟨mix_iff.2 ⟨gok_flow (g := ⟨w, h, A⟩) p h1, gok_flow (g := ⟨w, h, B⟩) p h2, by rw [sA.1, sB.1]; exact h3⟩, sA.1, sB.1, sA.2.1, sB.2.1, sA.2.2, sB.2.2⟩
theorem flow_back {w h : Int} {A B : List Cel} (m : (⟨w, h, A, B⟩ : Mix).ok = true) : flow w h (-1) (flow w h 1 A) = A ∧ flow w h (-1) (flow w h 1 B) = B ∧ flow w h 1 (flow w h (-1) A) = A ∧ flow w h 1 (flow w h (-1) B) = B := by
  obtain ⟨h1, h2, h3⟩ := mix_iff.1 m
  obtain ⟨a1, a2, _, _⟩ := Grd.ok_iff.1 h1
  obtain ⟨b1, b2, _, _⟩ := Grd.ok_iff.1 h2
  simp only at a1 a2 b1 b2
  have q : ∀ cs : List Cel, (cs.length : Int) = w * h → flow w h (-1) (flow w h 1 cs) = cs ∧ flow w h 1 (flow w h (-1) cs) = cs := fun cs hc =>
    ⟨flow_flow (by omega) (by omega) hc 1, by have := flow_flow (w := w) (h := h) (by omega) (by omega) hc (-1); rwa [Int.neg_neg] at this⟩
  exact ⟨(q A a2).1, (q B b2).1, (q A a2).2, (q B b2).2⟩
/-! ### Runs of mixes -/
def mrun (w h : Int) (ρ σ : Nat → Rul) (A B : List Cel) : Nat → List Cel × List Cel
  | 0 => (A, B)
  | k + 1 => (flow w h 1 (zA (mfw (ρ k) (σ k)) (mrun w h ρ σ A B k).1 (mrun w h ρ σ A B k).2), flow w h 1 (zB (mfw (ρ k) (σ k)) (mrun w h ρ σ A B k).1 (mrun w h ρ σ A B k).2))
def mbak (w h : Int) (ρ σ : Nat → Rul) (A B : List Cel) : Nat → List Cel × List Cel
  | 0 => (A, B)
  | k + 1 => (zA (mbw (ρ k) (σ k)) (flow w h (-1) (mbak w h ρ σ A B k).1) (flow w h (-1) (mbak w h ρ σ A B k).2), zB (mbw (ρ k) (σ k)) (flow w h (-1) (mbak w h ρ σ A B k).1) (flow w h (-1) (mbak w h ρ σ A B k).2))
theorem mrun_ok {w h : Int} {A B : List Cel} {ρ σ : Nat → Rul} (m : (⟨w, h, A, B⟩ : Mix).ok = true) (hr : ∀ k, (ρ k).ok = true) (hs : ∀ k, (σ k).ok = true) : ∀ k, (⟨w, h, (mrun w h ρ σ A B k).1, (mrun w h ρ σ A B k).2⟩ : Mix).ok = true
  | 0 => m
  | k + 1 => (mix_flow (mix_zip (mrun_ok m hr hs k) (keeps_fw (hr k) (hs k))) 1).1
theorem mbak_ok {w h : Int} {A B : List Cel} {ρ σ : Nat → Rul} (m : (⟨w, h, A, B⟩ : Mix).ok = true) (hr : ∀ k, (ρ k).ok = true) (hs : ∀ k, (σ k).ok = true) : ∀ k, (⟨w, h, (mbak w h ρ σ A B k).1, (mbak w h ρ σ A B k).2⟩ : Mix).ok = true
  | 0 => m
  | k + 1 => mix_zip (mix_flow (mbak_ok m hr hs k) (-1)).1 (keeps_bw (hr k) (hs k))
theorem mrun_length (w h : Int) (ρ σ : Nat → Rul) {A B : List Cel} (hl : A.length = B.length) : ∀ k, (mrun w h ρ σ A B k).1.length = A.length ∧ (mrun w h ρ σ A B k).2.length = A.length
  | 0 => ⟨rfl, hl.symm⟩
  | k + 1 => by
    have := mrun_length w h ρ σ hl k
    exact ⟨by rw [mrun, flow_length, zA_length, this.1], by rw [mrun, flow_length, zB_length, this.1]⟩
theorem mbak_length (w h : Int) (ρ σ : Nat → Rul) {A B : List Cel} (hl : A.length = B.length) : ∀ k, (mbak w h ρ σ A B k).1.length = A.length ∧ (mbak w h ρ σ A B k).2.length = A.length
  | 0 => ⟨rfl, hl.symm⟩
  | k + 1 => by
    have := mbak_length w h ρ σ hl k
    exact ⟨by rw [mbak, zA_length, flow_length, this.1], by rw [mbak, zB_length, flow_length, this.1]⟩
theorem mback_step {w h : Int} {A B : List Cel} {r s : Rul} (m : (⟨w, h, A, B⟩ : Mix).ok = true) (hr : r.ok = true) (hs : s.ok = true) :
    zA (mbw r s) (flow w h (-1) (flow w h 1 (zA (mfw r s) A B))) (flow w h (-1) (flow w h 1 (zB (mfw r s) A B))) = A ∧ zB (mbw r s) (flow w h (-1) (flow w h 1 (zA (mfw r s) A B))) (flow w h (-1) (flow w h 1 (zB (mfw r s) A B))) = B := by
  have z := mix_zip m (keeps_fw hr hs)
  have q := flow_back z
  rw [q.1, q.2.1, zA_zA, zB_zB]
  have e := fun j (hj : j < A.length) => bw_fw hr hs (mix_pair m hj)
  exact ⟨zA_id e, zB_id (mix_len m) e⟩
theorem mbak_front (w h : Int) (ρ σ : Nat → Rul) (A B : List Cel) : ∀ k, mbak w h ρ σ A B (k + 1) = mbak w h (fun i => ρ (i + 1)) (fun i => σ (i + 1)) (mbak w h ρ σ A B 1).1 (mbak w h ρ σ A B 1).2 k
  | 0 => rfl
  | k + 1 => by rw [mbak, mbak_front w h ρ σ A B k]; rfl
theorem mbak_congr {w h : Int} {ρ σ ρ' σ' : Nat → Rul} {A B : List Cel} : ∀ {n : Nat}, (∀ i, i < n → ρ i = ρ' i ∧ σ i = σ' i) → mbak w h ρ σ A B n = mbak w h ρ' σ' A B n
  | 0, _ => rfl
  | n + 1, hi => by rw [mbak, mbak, mbak_congr fun i h => hi i (by omega), (hi n (by omega)).1, (hi n (by omega)).2]
theorem mundone {w h : Int} {A B : List Cel} {ρ σ : Nat → Rul} (m : (⟨w, h, A, B⟩ : Mix).ok = true) (hr : ∀ k, (ρ k).ok = true) (hs : ∀ k, (σ k).ok = true) : ∀ n, mbak w h (fun i => ρ (n - 1 - i)) (fun i => σ (n - 1 - i)) (mrun w h ρ σ A B n).1 (mrun w h ρ σ A B n).2 n = (A, B)
  | 0 => rfl
  | n + 1 => by
    rw [mbak_front]
    have e := mback_step (mrun_ok m hr hs n) (hr n) (hs n)
    have e0 : n + 1 - 1 - 0 = n := by omega
    have e2 : mbak w h (fun i => ρ (n + 1 - 1 - i)) (fun i => σ (n + 1 - 1 - i)) (mrun w h ρ σ A B (n + 1)).1 (mrun w h ρ σ A B (n + 1)).2 1 = mrun w h ρ σ A B n := by
      simp only [mbak, e0, mrun]
      rw [e.1, e.2]
    rw [e2]
    refine Eq.trans (mbak_congr fun i hi => ?_) (mundone m hr hs n)
    show ρ (n + 1 - 1 - (i + 1)) = ρ (n - 1 - i) ∧ σ (n + 1 - 1 - (i + 1)) = σ (n - 1 - i)
    rw [show n + 1 - 1 - (i + 1) = n - 1 - i by omega]
    exact ⟨rfl, rfl⟩
/-! ### Asked runs -/
def mrunE (x : Mix) (l m : List Rul) (t n : Int) : Int := if x.ok && (rulesB l && rulesB m) then (if timesP t n then 0 else 7) else 1
def mrunG (x : Mix) (l m : List Rul) (t n : Int) : Mix := if mrunE x l m t n = 0 then ⟨x.w, x.h, (mrun x.w x.h (rho l t) (rho m t) x.a x.b n.toNat).1, (mrun x.w x.h (rho l t) (rho m t) x.a x.b n.toNat).2⟩ else ⟨0, 0, [], []⟩
def mundoG (x : Mix) (l m : List Rul) (t n : Int) : Mix := if mrunE x l m t n = 0 then ⟨x.w, x.h, (mbak x.w x.h (fun i => rho l t (n.toNat - 1 - i)) (fun i => rho m t (n.toNat - 1 - i)) x.a x.b n.toNat).1, (mbak x.w x.h (fun i => rho l t (n.toNat - 1 - i)) (fun i => rho m t (n.toNat - 1 - i)) x.a x.b n.toNat).2⟩ else ⟨0, 0, [], []⟩
theorem mrunE_zero {x : Mix} {l m : List Rul} {t n : Int} (h : mrunE x l m t n = 0) : x.ok = true ∧ rulesB l = true ∧ rulesB m = true ∧ timesP t n := by
  unfold mrunE at h
  cases hx : x.ok
  · simp [hx] at h
  · cases hl : rulesB l
    · simp [hl] at h
    · cases hm : rulesB m
      · simp [hm] at h
      · by_cases ht : timesP t n
        · exact ⟨rfl, rfl, rfl, ht⟩
        · simp only [hx, hl, hm, Bool.and_true, if_true, if_neg ht] at h; omega
theorem mrunE_mk {x : Mix} {l m : List Rul} {t n : Int} (hx : x.ok = true) (hl : rulesB l = true) (hm : rulesB m = true) (ht : timesP t n) : mrunE x l m t n = 0 := by
  unfold mrunE
  rw [hx, hl, hm, Bool.and_true, Bool.and_true, if_pos rfl, if_pos ht]
theorem mrunG_eq {x : Mix} {l m : List Rul} {t n : Int} (h : mrunE x l m t n = 0) : mrunG x l m t n = ⟨x.w, x.h, (mrun x.w x.h (rho l t) (rho m t) x.a x.b n.toNat).1, (mrun x.w x.h (rho l t) (rho m t) x.a x.b n.toNat).2⟩ := if_pos h
theorem mundoG_eq {x : Mix} {l m : List Rul} {t n : Int} (h : mrunE x l m t n = 0) : mundoG x l m t n = ⟨x.w, x.h, (mbak x.w x.h (fun i => rho l t (n.toNat - 1 - i)) (fun i => rho m t (n.toNat - 1 - i)) x.a x.b n.toNat).1, (mbak x.w x.h (fun i => rho l t (n.toNat - 1 - i)) (fun i => rho m t (n.toNat - 1 - i)) x.a x.b n.toNat).2⟩ := if_pos h
theorem mrunG_ok {x : Mix} {l m : List Rul} {t n : Int} (h : mrunE x l m t n = 0) : (mrunG x l m t n).ok = true := by
  obtain ⟨h1, h2, h3, h4⟩ := mrunE_zero h
  rw [mrunG_eq h]
  exact mrun_ok h1 (fun k => (rho_ok h2 h4.1.1 k).1) (fun k => (rho_ok h3 h4.1.1 k).1) _
theorem mrun_undone {x : Mix} {l m : List Rul} {t n : Int} (h : mrunE x l m t n = 0) : mrunE (mrunG x l m t n) l m t n = 0 ∧ mundoG (mrunG x l m t n) l m t n = x := by
  obtain ⟨h1, h2, h3, h4⟩ := mrunE_zero h
  have he : mrunE (mrunG x l m t n) l m t n = 0 := mrunE_mk (mrunG_ok h) h2 h3 h4
  refine ⟨he, ?_⟩
  rw [mundoG_eq he, mrunG_eq h]
  show (⟨x.w, x.h, _, _⟩ : Mix) = x
  simp only [mundone h1 (fun k => (rho_ok h2 h4.1.1 k).1) (fun k => (rho_ok h3 h4.1.1 k).1) n.toNat]
theorem mrun_len (x : Mix) (l m : List Rul) (t n : Int) : ((mrunG x l m t n).a.length ≤ x.a.length ∧ (mrunG x l m t n).b.length ≤ x.a.length) ∧ (mundoG x l m t n).a.length ≤ x.a.length ∧ (mundoG x l m t n).b.length ≤ x.a.length := by
  by_cases h : mrunE x l m t n = 0
  · have hl := mix_len (mrunE_zero h).1
    rw [mrunG_eq h, mundoG_eq h]
    have r1 := mrun_length x.w x.h (rho l t) (rho m t) hl n.toNat
    have r2 := mbak_length x.w x.h (fun i => rho l t (n.toNat - 1 - i)) (fun i => rho m t (n.toNat - 1 - i)) hl n.toNat
    simp only
    omega
  · have e1 : mrunG x l m t n = ⟨0, 0, [], []⟩ := if_neg h
    have e2 : mundoG x l m t n = ⟨0, 0, [], []⟩ := if_neg h
    rw [e1, e2]; simp
end Go.Sy

/- Runs of mixes: what the walks need. -/
set_option linter.unusedSimpArgs false
set_option linter.unusedVariables false
set_option linter.unusedSectionVars false
namespace Go.Sy
theorem den_tag2 {w h e e' : SV} {n j n2 j2 : Nat} {a b : Option Nm} {s len len' cap len2 len2' cap2 : Nat} (hl : len = len') (hl2 : len2 = len2') (he : den e = den e') :
    den (.tup [.agg [w, h, .sl n a 0 s len cap, .sl n2 b 0 s len2 cap2], e]) = den (.tup [.agg [w, h, .sl j a 0 s len' cap, .sl j2 b 0 s len2' cap2], e']) := by
  subst hl; subst hl2; simp [den, denL, he]
/-- What has been done to a pair after so many deeds. -/
def deed (r s : Rul) (d : Nat) (p : Prr) : Prr := if d = 0 then dd0 r p else if d = 1 then ddx 0 s p else ddx 1 s p
def pas (r s : Rul) : Nat → Prr → Prr
  | 0 => fun p => p
  | d + 1 => fun p => deed r s d (pas r s d p)
def deedU (r s : Rul) (d : Nat) (p : Prr) : Prr := if d = 0 then ddx 1 s.inv p else if d = 1 then ddx 0 s.inv p else dd0 r.inv p
def pasU (r s : Rul) : Nat → Prr → Prr
  | 0 => fun p => p
  | d + 1 => fun p => deedU r s d (pasU r s d p)
theorem keeps_id : Keeps fun p => p := ⟨fun p h => h, fun p h => rfl, fun p h => rfl, fun p h => rfl, fun p h => rfl⟩
theorem keeps_deed {r s : Rul} (hr : r.ok = true) (hs : s.ok = true) (d : Nat) : Keeps (deed r s d) := by
  unfold deed
  by_cases h0 : d = 0
  · simp only [h0, if_true]; exact keeps_d0 hr
  · by_cases h1 : d = 1
    · simp only [h1, if_true]; exact keeps_dx hs (.inl rfl)
    · simp only [h0, h1, if_false]; exact keeps_dx hs (.inr rfl)
theorem keeps_pas {r s : Rul} (hr : r.ok = true) (hs : s.ok = true) : ∀ d, Keeps (pas r s d)
  | 0 => keeps_id
  | d + 1 => (keeps_pas hr hs d).comp (keeps_deed hr hs d)
theorem zA_zero (A B : List Cel) : zA (fun p => p) A B = A := zA_id fun _ _ => rfl
theorem zB_zero {A B : List Cel} (h : A.length = B.length) : zB (fun p => p) A B = B := zB_id h fun _ _ => rfl
/-- One pass, under way. -/
def qA (f : Prr → Prr) (X Y : List Cel) (j : Nat) : List Cel := prog (fun i => (f ⟨X.getD i default, Y.getD i default⟩).a) j X
def qB (f : Prr → Prr) (X Y : List Cel) (j : Nat) : List Cel := prog (fun i => (f ⟨X.getD i default, Y.getD i default⟩).b) j Y
theorem qA_length (f : Prr → Prr) (X Y : List Cel) (j : Nat) : (qA f X Y j).length = X.length := prog_length _ _ _
theorem qB_length (f : Prr → Prr) (X Y : List Cel) (j : Nat) : (qB f X Y j).length = Y.length := prog_length _ _ _
theorem qA_zero (f : Prr → Prr) (X Y : List Cel) : qA f X Y 0 = X := prog_zero _ _
theorem qB_zero (f : Prr → Prr) (X Y : List Cel) : qB f X Y 0 = Y := prog_zero _ _
theorem qA_at (f : Prr → Prr) (X Y : List Cel) {j : Nat} (h : j < X.length) : (qA f X Y j).getD j default = X.getD j default := by
  unfold qA; rw [prog_getD _ _ _ h, if_neg (Nat.lt_irrefl j)]
theorem qB_at (f : Prr → Prr) (X Y : List Cel) {j : Nat} (h : j < Y.length) : (qB f X Y j).getD j default = Y.getD j default := by
  unfold qB; rw [prog_getD _ _ _ h, if_neg (Nat.lt_irrefl j)]
theorem qA_set (f : Prr → Prr) (X Y : List Cel) {j : Nat} {v : Cel} (hv : v = (f ⟨X.getD j default, Y.getD j default⟩).a) : (qA f X Y j).set j v = qA f X Y (j + 1) := prog_set _ _ _ hv
theorem qB_set (f : Prr → Prr) (X Y : List Cel) {j : Nat} {v : Cel} (hv : v = (f ⟨X.getD j default, Y.getD j default⟩).b) : (qB f X Y j).set j v = qB f X Y (j + 1) := prog_set _ _ _ hv
theorem qA_full (f : Prr → Prr) (X Y : List Cel) {j : Nat} (h : X.length ≤ j) : qA f X Y j = zA f X Y := prog_full _ _ h
theorem qB_full (f : Prr → Prr) (X Y : List Cel) (hl : X.length = Y.length) {j : Nat} (h : X.length ≤ j) : qB f X Y j = zB f X Y := by
  unfold qB zB
  rw [prog_full _ _ (by omega), hl]; rfl
/-- The lists after so many deeds of a round. -/
def rA (r s : Rul) (A B : List Cel) (d : Nat) : List Cel := zA (pas r s d) A B
def rB (r s : Rul) (A B : List Cel) (d : Nat) : List Cel := zB (pas r s d) A B
def uA (r s : Rul) (A B : List Cel) (d : Nat) : List Cel := zA (pasU r s d) A B
def uB (r s : Rul) (A B : List Cel) (d : Nat) : List Cel := zB (pasU r s d) A B
/-- What holds of the lists of a round. -/
structure RoundOk (w h : Int) (r s : Rul) (A B : List Cel) : Prop where
  mix : (⟨w, h, A, B⟩ : Mix).ok = true
  hr : r.ok = true
  hs : s.ok = true
  len : A.length = B.length
theorem RoundOk.l {w h : Int} {r s : Rul} {A B : List Cel} (o : RoundOk w h r s A B) (d : Nat) : (rA r s A B d).length = A.length ∧ (rB r s A B d).length = A.length ∧ (uA r s A B d).length = A.length ∧ (uB r s A B d).length = A.length :=
  ⟨zA_length .., zB_length .., zA_length .., zB_length ..⟩
theorem RoundOk.zero {w h : Int} {r s : Rul} {A B : List Cel} (o : RoundOk w h r s A B) : rA r s A B 0 = A ∧ rB r s A B 0 = B ∧ uA r s A B 0 = A ∧ uB r s A B 0 = B := ⟨zA_zero .., zB_zero o.len, zA_zero .., zB_zero o.len⟩
theorem RoundOk.pair {w h : Int} {r s : Rul} {A B : List Cel} (o : RoundOk w h r s A B) (d : Nat) {j : Nat} (hj : j < A.length) : Prr.ok ⟨(rA r s A B d).getD j default, (rB r s A B d).getD j default⟩ :=
  mix_pair (mix_zip o.mix (keeps_pas o.hr o.hs d)) (by rw [zA_length]; exact hj)
theorem mrun_ways (x : Mix) (l m : List Rul) (t n : Int) : (x.ok = false ∧ True ∧ True ∧ True ∧ mrunE x l m t n = 1 ∧ mrunG x l m t n = ⟨0, 0, [], []⟩ ∧ mundoG x l m t n = ⟨0, 0, [], []⟩) ∨ (x.ok = true ∧ rulesB l = false ∧ True ∧ True ∧ mrunE x l m t n = 1 ∧ mrunG x l m t n = ⟨0, 0, [], []⟩ ∧ mundoG x l m t n = ⟨0, 0, [], []⟩) ∨
    (x.ok = true ∧ rulesB l = true ∧ rulesB m = false ∧ True ∧ mrunE x l m t n = 1 ∧ mrunG x l m t n = ⟨0, 0, [], []⟩ ∧ mundoG x l m t n = ⟨0, 0, [], []⟩) ∨
    (x.ok = true ∧ rulesB l = true ∧ rulesB m = true ∧ ¬ ((0 ≤ t ∧ t ≤ 1000000) ∧ (0 ≤ n ∧ n ≤ 1000) ∧ (0 < n → t + n - 1 ≤ 1000000)) ∧ mrunE x l m t n = 7 ∧ mrunG x l m t n = ⟨0, 0, [], []⟩ ∧ mundoG x l m t n = ⟨0, 0, [], []⟩) ∨
    (x.ok = true ∧ rulesB l = true ∧ rulesB m = true ∧ ((0 ≤ t ∧ t ≤ 1000000) ∧ (0 ≤ n ∧ n ≤ 1000) ∧ (0 < n → t + n - 1 ≤ 1000000)) ∧ mrunE x l m t n = 0 ∧
      mrunG x l m t n = ⟨x.w, x.h, (mrun x.w x.h (rho l t) (rho m t) x.a x.b n.toNat).1, (mrun x.w x.h (rho l t) (rho m t) x.a x.b n.toNat).2⟩ ∧
      mundoG x l m t n = ⟨x.w, x.h, (mbak x.w x.h (fun i => rho l t (n.toNat - 1 - i)) (fun i => rho m t (n.toNat - 1 - i)) x.a x.b n.toNat).1, (mbak x.w x.h (fun i => rho l t (n.toNat - 1 - i)) (fun i => rho m t (n.toNat - 1 - i)) x.a x.b n.toNat).2⟩ ∧
      ((1 ≤ l.length ∧ l.length ≤ 8) ∧ (1 ≤ m.length ∧ m.length ≤ 8)) ∧ (1 ≤ x.a.length ∧ x.a.length ≤ 1024 ∧ x.b.length = x.a.length) ∧ (∀ k, (rho l t k).ok = true ∧ 0 ≤ (t + (k : Int)).tmod (l.length : Int) ∧ (t + (k : Int)).tmod (l.length : Int) < l.length) ∧
      (∀ k, (rho m t k).ok = true ∧ 0 ≤ (t + (k : Int)).tmod (m.length : Int) ∧ (t + (k : Int)).tmod (m.length : Int) < m.length) ∧
      (∀ k, RoundOk x.w x.h (rho l t k) (rho m t k) (mrun x.w x.h (rho l t) (rho m t) x.a x.b k).1 (mrun x.w x.h (rho l t) (rho m t) x.a x.b k).2 ∧ (mrun x.w x.h (rho l t) (rho m t) x.a x.b k).1.length = x.a.length ∧ (mrun x.w x.h (rho l t) (rho m t) x.a x.b k).2.length = x.a.length) ∧
      (∀ k, RoundOk x.w x.h (rho l t (n.toNat - 1 - k)) (rho m t (n.toNat - 1 - k)) (mbak x.w x.h (fun i => rho l t (n.toNat - 1 - i)) (fun i => rho m t (n.toNat - 1 - i)) x.a x.b k).1 (mbak x.w x.h (fun i => rho l t (n.toNat - 1 - i)) (fun i => rho m t (n.toNat - 1 - i)) x.a x.b k).2 ∧
        (mbak x.w x.h (fun i => rho l t (n.toNat - 1 - i)) (fun i => rho m t (n.toNat - 1 - i)) x.a x.b k).1.length = x.a.length ∧ (mbak x.w x.h (fun i => rho l t (n.toNat - 1 - i)) (fun i => rho m t (n.toNat - 1 - i)) x.a x.b k).2.length = x.a.length)) := by
  have no : mrunE x l m t n ≠ 0 → mrunG x l m t n = ⟨0, 0, [], []⟩ ∧ mundoG x l m t n = ⟨0, 0, [], []⟩ := fun h => ⟨if_neg h, if_neg h⟩
  cases hx : x.ok
  · have e : mrunE x l m t n = 1 := by simp [mrunE, hx]
    exact .inl ⟨rfl, trivial, trivial, trivial, e, (no (by omega)).1, (no (by omega)).2⟩
  cases hl : rulesB l
  · have e : mrunE x l m t n = 1 := by simp [mrunE, hl]
    exact .inr (.inl ⟨rfl, rfl, trivial, trivial, e, (no (by omega)).1, (no (by omega)).2⟩)
  cases hm : rulesB m
  · have e : mrunE x l m t n = 1 := by simp [mrunE, hm]
    exact .inr (.inr (.inl ⟨rfl, rfl, rfl, trivial, e, (no (by omega)).1, (no (by omega)).2⟩))
  by_cases ht : timesP t n
  · have e := mrunE_mk hx hl hm ht
    have h1 := rulesB_iff.1 hl
    have h2 := rulesB_iff.1 hm
    have hlen := mix_len hx
    have hb := gok_bds (mix_iff.1 hx).1
    simp only at hb
    have o1 := fun k => rho_ok hl ht.1.1 k
    have o2 := fun k => rho_ok hm ht.1.1 k
    have r1 := fun k => mrun_length x.w x.h (rho l t) (rho m t) hlen k
    have r2 := fun k => mbak_length x.w x.h (fun i => rho l t (n.toNat - 1 - i)) (fun i => rho m t (n.toNat - 1 - i)) hlen k
    refine .inr (.inr (.inr (.inr ⟨rfl, rfl, rfl, ht, e, if_pos e, if_pos e, ⟨h1.1, h2.1⟩, by omega, o1, o2, fun k => ⟨⟨?_, (o1 k).1, (o2 k).1, (r1 k).1.trans (r1 k).2.symm⟩, r1 k⟩, fun k => ⟨⟨?_, (o1 _).1, (o2 _).1, (r2 k).1.trans (r2 k).2.symm⟩, r2 k⟩⟩)))
    · exact mrun_ok hx (fun k => (o1 k).1) (fun k => (o2 k).1) k
    · exact mbak_ok hx (fun k => (o1 _).1) (fun k => (o2 _).1) k
  · have e : mrunE x l m t n = 7 := by unfold mrunE; rw [hx, hl, hm, Bool.and_true, Bool.and_true, if_pos rfl, if_neg ht]
    exact .inr (.inr (.inr (.inl ⟨rfl, rfl, rfl, ht, e, (no (by omega)).1, (no (by omega)).2⟩)))
end Go.Sy

/- Deeds of a step of two phases, by their closures. -/
set_option linter.unusedSimpArgs false
set_option linter.unusedVariables false
set_option linter.unusedSectionVars false
namespace Go.Sy
structure PairsOk (A B : List Cel) : Prop where
  all : ∀ j, j < A.length → Prr.ok ⟨A.getD j default, B.getD j default⟩
def deedF (n1 n2 F : Nat) (r : Rul) (p : Prr) : Prr := if F = n1 then dd0 r p else if F = n2 then ddx 0 r p else ddx 1 r p
theorem pairs_mix {w h : Int} {A B : List Cel} (m : (⟨w, h, A, B⟩ : Mix).ok = true) : PairsOk A B := ⟨fun j hj => mix_pair m hj⟩
theorem pairs_zip {w h : Int} {A B : List Cel} (m : (⟨w, h, A, B⟩ : Mix).ok = true) {f : Prr → Prr} (hf : Keeps f) : PairsOk (zA f A B) (zB f A B) := pairs_mix (mix_zip m hf)
/-- What holds of a mix that is stepped forth. -/
structure ForthOk (w h : Int) (r s : Rul) (A B : List Cel) : Prop where
  mix : (⟨w, h, A, B⟩ : Mix).ok = true
  hr : r.ok = true
  hs : s.ok = true
theorem ForthOk.p0 {w h : Int} {r s : Rul} {A B : List Cel} (o : ForthOk w h r s A B) : PairsOk A B := pairs_mix o.mix
theorem ForthOk.p1 {w h : Int} {r s : Rul} {A B : List Cel} (o : ForthOk w h r s A B) : PairsOk (zA (dd0 r) A B) (zB (dd0 r) A B) := pairs_zip o.mix (keeps_d0 o.hr)
theorem ForthOk.p2 {w h : Int} {r s : Rul} {A B : List Cel} (o : ForthOk w h r s A B) : PairsOk (zA (ddx 0 s) (zA (dd0 r) A B) (zB (dd0 r) A B)) (zB (ddx 0 s) (zA (dd0 r) A B) (zB (dd0 r) A B)) := pairs_zip (mix_zip o.mix (keeps_d0 o.hr)) (keeps_dx o.hs (.inl rfl))
theorem ForthOk.m3 {w h : Int} {r s : Rul} {A B : List Cel} (o : ForthOk w h r s A B) : (⟨w, h, zA (mfw r s) A B, zB (mfw r s) A B⟩ : Mix).ok = true := mix_zip o.mix (keeps_fw o.hr o.hs)
theorem fw_three (r s : Rul) (A B : List Cel) : zA (ddx 1 s) (zA (ddx 0 s) (zA (dd0 r) A B) (zB (dd0 r) A B)) (zB (ddx 0 s) (zA (dd0 r) A B) (zB (dd0 r) A B)) = zA (mfw r s) A B ∧ zB (ddx 1 s) (zA (ddx 0 s) (zA (dd0 r) A B) (zB (dd0 r) A B)) (zB (ddx 0 s) (zA (dd0 r) A B) (zB (dd0 r) A B)) = zB (mfw r s) A B := by
  rw [zA_zA, zB_zB, zA_zA, zB_zB]; exact ⟨rfl, rfl⟩
theorem bw_three (r s : Rul) (A B : List Cel) : zA (dd0 r.inv) (zA (ddx 0 s.inv) (zA (ddx 1 s.inv) A B) (zB (ddx 1 s.inv) A B)) (zB (ddx 0 s.inv) (zA (ddx 1 s.inv) A B) (zB (ddx 1 s.inv) A B)) = zA (mbw r s) A B ∧ zB (dd0 r.inv) (zA (ddx 0 s.inv) (zA (ddx 1 s.inv) A B) (zB (ddx 1 s.inv) A B)) (zB (ddx 0 s.inv) (zA (ddx 1 s.inv) A B) (zB (ddx 1 s.inv) A B)) = zB (mbw r s) A B := by
  rw [zA_zA, zB_zB, zA_zA, zB_zB]; exact ⟨rfl, rfl⟩
theorem ForthOk.b0 {w h : Int} {r s : Rul} {A B : List Cel} (o : ForthOk w h r s A B) : PairsOk (flow w h (-1) A) (flow w h (-1) B) := pairs_mix (mix_flow o.mix (-1)).1
theorem ForthOk.b1 {w h : Int} {r s : Rul} {A B : List Cel} (o : ForthOk w h r s A B) : PairsOk (zA (ddx 1 s.inv) (flow w h (-1) A) (flow w h (-1) B)) (zB (ddx 1 s.inv) (flow w h (-1) A) (flow w h (-1) B)) := pairs_zip (mix_flow o.mix (-1)).1 (keeps_dx (Rul.inv_ok o.hs) (.inr rfl))
theorem ForthOk.b2 {w h : Int} {r s : Rul} {A B : List Cel} (o : ForthOk w h r s A B) : PairsOk (zA (ddx 0 s.inv) (zA (ddx 1 s.inv) (flow w h (-1) A) (flow w h (-1) B)) (zB (ddx 1 s.inv) (flow w h (-1) A) (flow w h (-1) B))) (zB (ddx 0 s.inv) (zA (ddx 1 s.inv) (flow w h (-1) A) (flow w h (-1) B)) (zB (ddx 1 s.inv) (flow w h (-1) A) (flow w h (-1) B))) :=
  pairs_zip (mix_zip (mix_flow o.mix (-1)).1 (keeps_dx (Rul.inv_ok o.hs) (.inr rfl))) (keeps_dx (Rul.inv_ok o.hs) (.inl rfl))
theorem ForthOk.m3' {w h : Int} {r s : Rul} {A B : List Cel} (o : ForthOk w h r s A B) : (⟨w, h, zA (ddx 1 s) (zA (ddx 0 s) (zA (dd0 r) A B) (zB (dd0 r) A B)) (zB (ddx 0 s) (zA (dd0 r) A B) (zB (dd0 r) A B)), zB (ddx 1 s) (zA (ddx 0 s) (zA (dd0 r) A B) (zB (dd0 r) A B)) (zB (ddx 0 s) (zA (dd0 r) A B) (zB (dd0 r) A B))⟩ : Mix).ok = true := by
  rw [(fw_three r s A B).1, (fw_three r s A B).2]; exact o.m3
theorem mix_sides {w h : Int} {A B : List Cel} (m : (⟨w, h, A, B⟩ : Mix).ok = true) : (1 ≤ w ∧ w ≤ 64 ∧ 1 ≤ h ∧ h ≤ 64) ∧ (1 ≤ A.length ∧ A.length ≤ 1024) ∧ B.length = A.length := by
  have hg := gok_bds (mix_iff.1 m).1
  have hl := mix_len m
  simp only at hg
  omega
end Go.Sy

/- Runs of mixes as the reference makes them: lists in place. -/
set_option linter.unusedSimpArgs false
set_option linter.unusedVariables false
namespace Go.Sy
theorem den_mix2 {w h : SV} {n j n2 j2 : Nat} {a b : Option Nm} {s len len' cap len2 len2' cap2 : Nat} (hl : len = len') (hl2 : len2 = len2') :
    den (.agg [w, h, .sl n a 0 s len cap, .sl n2 b 0 s len2 cap2]) = den (.agg [w, h, .sl j a 0 s len' cap, .sl j2 b 0 s len2' cap2]) := by subst hl; subst hl2; rfl
structure StepOk (x : Mix) (r s : Rul) : Prop where
  m : x.ok = true
  hr : r.ok = true
  hs : s.ok = true
  f : ForthOk x.w x.h r s x.a x.b
  sd : (1 ≤ x.w ∧ x.w ≤ 64 ∧ 1 ≤ x.h ∧ x.h ≤ 64) ∧ (1 ≤ x.a.length ∧ x.a.length ≤ 1024) ∧ x.b.length = x.a.length
  ga : (⟨x.w, x.h, x.a⟩ : Grd).ok = true
  gb : (⟨x.w, x.h, x.b⟩ : Grd).ok = true
theorem step_mk {x : Mix} {r s : Rul} (m : x.ok = true) (hr : r.ok = true) (hs : s.ok = true) : StepOk x r s :=
  ⟨m, hr, hs, ⟨m, hr, hs⟩, mix_sides (w := x.w) (h := x.h) m, (mix_iff.1 (show (⟨x.w, x.h, x.a, x.b⟩ : Mix).ok = true from m)).1, (mix_iff.1 (show (⟨x.w, x.h, x.a, x.b⟩ : Mix).ok = true from m)).2.1⟩
/-- What the steps of one pair of cells need. -/
structure PairF (r s : Rul) (p : Prr) : Prop where
  p0 : p.ok
  p1 : (dd0 r p).ok
  p2 : (ddx 0 s (dd0 r p)).ok
theorem pairF_mk {r s : Rul} (hr : r.ok = true) (hs : s.ok = true) {p : Prr} (h : p.ok) : PairF r s p := ⟨h, (keeps_d0 hr).ok p h, (keeps_dx hs (.inl rfl)).ok _ ((keeps_d0 hr).ok p h)⟩
structure PairG (r s : Rul) (p : Prr) : Prop where
  p0 : p.ok
  p1 : (ddx 1 s.inv p).ok
  p2 : (ddx 0 s.inv (ddx 1 s.inv p)).ok
theorem pairG_mk {r s : Rul} (hr : r.ok = true) (hs : s.ok = true) {p : Prr} (h : p.ok) : PairG r s p :=
  ⟨h, (keeps_dx (Rul.inv_ok hs) (.inr rfl)).ok p h, (keeps_dx (Rul.inv_ok hs) (.inl rfl)).ok _ ((keeps_dx (Rul.inv_ok hs) (.inr rfl)).ok p h)⟩
theorem StepOk.pf {x : Mix} {r s : Rul} (o : StepOk x r s) {k : Nat} (hk : k < x.a.length) : PairF r s ⟨x.a.getD k default, x.b.getD k default⟩ := pairF_mk o.hr o.hs (mix_pair (w := x.w) (h := x.h) o.m hk)
theorem StepOk.pg {x : Mix} {r s : Rul} (o : StepOk x r s) {k : Nat} (hk : k < x.a.length) : PairG r s ⟨(flow x.w x.h (-1) x.a).getD k default, (flow x.w x.h (-1) x.b).getD k default⟩ :=
  pairG_mk o.hr o.hs (mix_pair (mix_flow (w := x.w) (h := x.h) o.m (-1)).1 (by rw [flow_length]; exact hk))
theorem StepOk.mz {x : Mix} {r s : Rul} (o : StepOk x r s) : (⟨x.w, x.h, zA (mfw r s) x.a x.b⟩ : Grd).ok = true ∧ (⟨x.w, x.h, zB (mfw r s) x.a x.b⟩ : Grd).ok = true := by
  have := mix_iff.1 (mix_zip (w := x.w) (h := x.h) (A := x.a) (B := x.b) o.m (keeps_fw o.hr o.hs))
  exact ⟨this.1, this.2.1⟩
theorem runs_ways4 (x : Mix) (l m : List Rul) (t n : Int) : (¬ mrunE x l m t n = 0) ∨ (mrunE x l m t n = 0 ∧ mrunE (mrunG x l m t n) l m t n = 0 ∧ mundoG (mrunG x l m t n) l m t n = x) := by
  by_cases h : mrunE x l m t n = 0
  · exact .inr ⟨h, mrun_undone h⟩
  · exact .inl h
end Go.Sy
