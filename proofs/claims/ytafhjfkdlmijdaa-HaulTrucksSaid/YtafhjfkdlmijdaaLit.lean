/- Data written out by a call read as data; an instance of one's own, with a number stored. No program in sight. -/
import Derived.Test.YtafhjfkdlmijdaaInstOwn
namespace Go.Proofs.Ytafhjfkdlmijdaa
open Go.RowKit

theorem lit_rep {α : Type} {S : Shape α} {h0 : 0 < S.sz} {w : World} {F : Nat → Prop} {xs : List α} {g c : Nat} {T : TypeId} (vs : List (List Value)) (hl : vs.length = xs.length) (hv : ∀ v ∈ vs, v.length = S.sz)
    (hr : ∀ i (h : i < xs.length) (h' : i < vs.length), S.rep w F xs[i] vs[i]) (h : Row w g T vs.flatten) (hc : xs.length ≤ c) (hm : c ≤ maxLen) (hF : F g) : (sliceS S h0).rep w F xs [.slice (some ⟨g, 0, none⟩) xs.length c] := by
  refine ⟨some ⟨g, 0, none⟩, g, 0, c, rfl, hc, hm, fun _ => ⟨rfl, hF⟩, fun i hi => ⟨vs[i]'(by omega), hr i hi (by omega), fun j hj => ?_⟩⟩
  have hget : ∀ (l : List (List Value)) (i : Nat) (hi : i < l.length), (∀ v ∈ l, v.length = S.sz) → l.flatten[i * S.sz + j]? = (l[i])[j]? := by
    intro l
    induction l with
    | nil => intro i hi; simp at hi
    | cons a l ih =>
      intro i hi hl
      have ha := hl a (List.mem_cons_self ..)
      rw [List.flatten_cons]
      cases i with
      | zero => rw [Nat.zero_mul, Nat.zero_add, List.getElem?_append_left (by rw [ha]; exact hj)]; rfl
      | succ i =>
        rw [List.getElem?_append_right (by rw [ha, Nat.succ_mul]; omega), ha, show (i + 1) * S.sz + j - S.sz = i * S.sz + j by rw [Nat.succ_mul]; omega]
        exact ih i (by simpa using hi) fun v hv => hl v (List.mem_cons_of_mem _ hv)
  have e := hget vs i (by omega) hv
  have hj' : j < (vs[i]'(by omega)).length := by rw [hv _ (List.getElem_mem _)]; exact hj
  rw [List.getElem?_eq_getElem hj'] at e ⊢
  rw [Nat.zero_add]
  exact h.get e

theorem lit1 {α : Type} {S : Shape α} {h0 : 0 < S.sz} {w : World} {F : Nat → Prop} {x : α} {v : List Value} {g : Nat} {T : TypeId} (hr : S.rep w F x v) (h : Row w g T v) (hF : F g) : (sliceS S h0).rep w F [x] [.slice (some ⟨g, 0, none⟩) 1 1] := by
  refine lit_rep (xs := [x]) (T := T) [v] rfl ?_ ?_ (by simpa using h) (Nat.le_refl _) (by decide) hF
  · intro u hu; simp at hu; subst hu; exact S.len hr
  · intro i h h'
    obtain rfl : i = 0 := by simp at h; exact h
    exact hr
theorem lit2 {α : Type} {S : Shape α} {h0 : 0 < S.sz} {w : World} {F : Nat → Prop} {x y : α} {v u : List Value} {g : Nat} {T : TypeId} (hr : S.rep w F x v) (hr' : S.rep w F y u) (h : Row w g T (v ++ u)) (hF : F g) : (sliceS S h0).rep w F [x, y] [.slice (some ⟨g, 0, none⟩) 2 2] := by
  refine lit_rep (xs := [x, y]) (T := T) [v, u] rfl ?_ ?_ (by simpa using h) (Nat.le_refl _) (by decide) hF
  · intro z hz; simp at hz; rcases hz with rfl | rfl
    · exact S.len hr
    · exact S.len hr'
  · intro i h h'
    match i, h with
    | 0, _ => exact hr
    | 1, _ => exact hr'
theorem Row.setApart {w : World} {g g' : Nat} {e e' : TypeId} {cs cs' : List Value} (h : Row w g e cs) (h' : Row w g' e' cs') (he : e ≠ e') (j : Nat) (u : Value) : Row (w.setCell ⟨g', j, none⟩ u) g e cs := h.setOther (a := ⟨g', j, none⟩) (h.ne h' he) u
theorem alloc_row (w : World) (c : List Value) (T : TypeId) : Below w.heap.size w (w.alloc (.cells c.toArray T)) ∧ Row (w.alloc (.cells c.toArray T)) w.heap.size T c ∧ (w.alloc (.cells c.toArray T)).heap.size = w.heap.size + 1 :=
  ⟨(Below.refl _ _).alloc (Nat.le_refl _) _, Row.new rfl, by simp⟩
theorem allocs3 (w : World) (c1 c2 c3 : List Value) (T1 T2 T3 : TypeId) : ∃ W, W = ((w.alloc (.cells c1.toArray T1)).alloc (.cells c2.toArray T2)).alloc (.cells c3.toArray T3) ∧ Below w.heap.size w W ∧
    Row W w.heap.size T1 c1 ∧ Row W (w.heap.size + 1) T2 c2 ∧ Row W (w.heap.size + 2) T3 c3 ∧ W.heap.size = w.heap.size + 3 := by
  obtain ⟨b1, r1, z1⟩ := alloc_row w c1 T1
  obtain ⟨b2, r2, z2⟩ := alloc_row (w.alloc (.cells c1.toArray T1)) c2 T2
  obtain ⟨b3, r3, z3⟩ := alloc_row ((w.alloc (.cells c1.toArray T1)).alloc (.cells c2.toArray T2)) c3 T3
  refine ⟨_, rfl, below_step (below_step b1 b2) b3, (r1.below b2).below b3, ?_, ?_, by omega⟩
  · rw [z1] at r2; exact r2.below b3
  · rw [show w.heap.size + 2 = ((w.alloc (.cells c1.toArray T1)).alloc (.cells c2.toArray T2)).heap.size by omega]; exact r3
/-- Five blocks laid one behind the other. -/
theorem allocs5 (w : World) (c1 c2 c3 c4 c5 : List Value) (T1 T2 T3 T4 T5 : TypeId) : ∃ W, W = ((((w.alloc (.cells c1.toArray T1)).alloc (.cells c2.toArray T2)).alloc (.cells c3.toArray T3)).alloc (.cells c4.toArray T4)).alloc (.cells c5.toArray T5) ∧ Below w.heap.size w W ∧
    Row W w.heap.size T1 c1 ∧ Row W (w.heap.size + 1) T2 c2 ∧ Row W (w.heap.size + 2) T3 c3 ∧ Row W (w.heap.size + 3) T4 c4 ∧ Row W (w.heap.size + 4) T5 c5 ∧ W.heap.size = w.heap.size + 5 := by
  obtain ⟨b1, r1, z1⟩ := alloc_row w c1 T1
  obtain ⟨b2, r2, z2⟩ := alloc_row (w.alloc (.cells c1.toArray T1)) c2 T2
  obtain ⟨b3, r3, z3⟩ := alloc_row ((w.alloc (.cells c1.toArray T1)).alloc (.cells c2.toArray T2)) c3 T3
  obtain ⟨b4, r4, z4⟩ := alloc_row (((w.alloc (.cells c1.toArray T1)).alloc (.cells c2.toArray T2)).alloc (.cells c3.toArray T3)) c4 T4
  obtain ⟨b5, r5, z5⟩ := alloc_row ((((w.alloc (.cells c1.toArray T1)).alloc (.cells c2.toArray T2)).alloc (.cells c3.toArray T3)).alloc (.cells c4.toArray T4)) c5 T5
  refine ⟨_, rfl, below_step (below_step (below_step (below_step b1 b2) b3) b4) b5, (((r1.below b2).below b3).below b4).below b5, ?_, ?_, ?_, ?_, by omega⟩
  · rw [z1] at r2; exact ((r2.below b3).below b4).below b5
  · rw [show w.heap.size + 2 = ((w.alloc (.cells c1.toArray T1)).alloc (.cells c2.toArray T2)).heap.size by omega]; exact (r3.below b4).below b5
  · rw [show w.heap.size + 3 = (((w.alloc (.cells c1.toArray T1)).alloc (.cells c2.toArray T2)).alloc (.cells c3.toArray T3)).heap.size by omega]; exact r4.below b5
  · rw [show w.heap.size + 4 = ((((w.alloc (.cells c1.toArray T1)).alloc (.cells c2.toArray T2)).alloc (.cells c3.toArray T3)).alloc (.cells c4.toArray T4)).heap.size by omega]; exact r5
/-- A row of one's own, one number stored. -/
theorem RowsOwn.set {TR TI B : Nat} {w : World} {v : Value} {rows : List (List Int)} {g : Nat} {rs : List Nat} (h : RowsOwn w B TR TI v rows g rs) (hne : TR ≠ TI) {i j : Nat} (hi : i < rows.length) (hi' : i < rs.length) (hj : j < rows[i].length) (u : Int) :
    RowsOwn (w.setCell ⟨rs[i], j, none⟩ (intV u)) B TR TI v (rows.set i (rows[i].set j u)) g rs := by
  obtain ⟨c, k0, k1, k2, k3, k4, k5, k6, k7, k8⟩ := h
  have hz : List.zipWith rowV rs (rows.set i (rows[i].set j u)) = List.zipWith rowV rs rows := by
    apply List.ext_getElem
    · simp
    · intro n h1 h2
      simp only [List.getElem_zipWith, List.getElem_set]
      split
      · rename_i e; subst e; unfold rowV; simp
      · rfl
  refine ⟨c, by rw [k0]; simp, by simpa using k1, k2, k3, ?_, by simpa using k5, fun n h1 h2 => ?_, k7, k8⟩
  · rw [hz]
    exact k4.setApart (k6 i hi' hi) hne _ _
  · simp only [List.getElem_set]
    split
    · rename_i e; subst e
      have := (k6 i hi' hi).set (j := j) (by rw [List.length_map]; exact hj) (intV u)
      rwa [← List.map_set] at this
    · rename_i e
      have hn : n < rows.length := by simpa using h2
      refine (k6 n h1 hn).setOther (fun e2 => e ?_) _
      exact ((List.getElem_inj k7).1 e2).symm
theorem RowsOwn.keepAll {w w' : World} {B TR TI : Nat} {v : Value} {rows : List (List Int)} {g : Nat} {rs : List Nat} (h : RowsOwn w B TR TI v rows g rs) (h1 : w'.heap[g]? = w.heap[g]?) (h2 : ∀ b ∈ rs, w'.heap[b]? = w.heap[b]?) : RowsOwn w' B TR TI v rows g rs := by
  obtain ⟨c, k0, k1, k2, k3, k4, k5, k6, k7, k8⟩ := h
  exact ⟨c, k0, k1, k2, k3, k4.keep h1, k5, fun i h h' => (k6 i h h').keep (h2 _ (List.getElem_mem h)), k7, k8⟩
theorem RowsOwn.open {TR TI B : Nat} {w : World} {v : Value} {rows : List (List Int)} {g : Nat} {rs : List Nat} (h : RowsOwn w B TR TI v rows g rs) : ∃ c, v = .slice (some ⟨g, 0, none⟩) rows.length c ∧ rs.length = rows.length ∧
    (∀ i (h : i < rows.length) (h' : i < rs.length), w.cell? ⟨g, i, none⟩ = some (.slice (some ⟨rs[i], 0, none⟩) rows[i].length rows[i].length)) ∧
    (∀ i (h : i < rows.length) (h' : i < rs.length), Row w rs[i] TI (rows[i].map intV) ∧ B ≤ rs[i]) := by
  obtain ⟨c, k0, k1, k2, k3, k4, k5, k6, k7, k8⟩ := h
  refine ⟨c, k0, k5, fun i h h' => ?_, fun i h h' => ⟨k6 i h' h, k8 _ (List.getElem_mem h')⟩⟩
  have := k4.get (j := i) (v := rowV rs[i] rows[i]) (by rw [List.getElem?_zipWith, List.getElem?_eq_getElem h', List.getElem?_eq_getElem h])
  exact this

def setAt (l : List (List Int)) (i j : Nat) (u : Int) : List (List Int) := l.set i ((l.getD i []).set j u)
/-- The instance with a number of its costs stored; likewise of its times. -/
def InstD.putCost (x : InstD) (i j : Nat) (u : Int) : InstD := { x with cost := setAt x.cost i j u }
def InstD.putTime (x : InstD) (i j : Nat) (u : Int) : InstD := { x with time := setAt x.time i j u }
/-- An instance of one's own, its blocks named. -/
structure InstAt (TS TC TR TI : Nat) (w : World) (B : Nat) (x : InstD) (cs : List Value) (gs cs1 gc cc1 gco cco : Nat) (rco : List Nat) (gti cti : Nat) (rti : List Nat) : Prop where
  lit : cs = [.int .i64 x.fin, .int .i64 x.tmany, .int .i64 x.troom, .int .i64 x.bmany, .int .i64 x.broom, .slice (some ⟨gs, 0, none⟩) x.sats.length cs1, .slice (some ⟨gc, 0, none⟩) x.custs.length cc1, .slice (some ⟨gco, 0, none⟩) x.cost.length cco, .slice (some ⟨gti, 0, none⟩) x.time.length cti]
  caps : x.sats.length ≤ cs1 ∧ cs1 ≤ maxLen ∧ x.custs.length ≤ cc1 ∧ cc1 ≤ maxLen
  leS : B ≤ gs
  leC : B ≤ gc
  sats : Row w gs TS (x.sats.flatMap satV)
  custs : Row w gc TC (x.custs.flatMap custV)
  costs : RowsOwn w B TR TI (.slice (some ⟨gco, 0, none⟩) x.cost.length cco) x.cost gco rco
  times : RowsOwn w B TR TI (.slice (some ⟨gti, 0, none⟩) x.time.length cti) x.time gti rti
  apart : gco ≠ gti
  apart2 : ∀ a ∈ rco, ∀ b ∈ rti, a ≠ b
section
variable {TS TC TR TI B gs cs1 gc cc1 gco cco gti cti : Nat} {w : World} {x : InstD} {cs : List Value} {rco rti : List Nat}
theorem InstOwn.at (h : InstOwn TS TC TR TI w B x cs) : ∃ gs cs1 gc cc1 gco cco rco gti cti rti, InstAt TS TC TR TI w B x cs gs cs1 gc cc1 gco cco rco gti cti rti := by
  obtain ⟨gs, cs1, gc, cc1, vco, vti, gco, rco, gti, rti, k0, k1, k2, k3, k4, k5, k6, k7, k8, k9⟩ := h
  obtain ⟨c, hv, -⟩ := k6.open
  obtain ⟨c', hv', -⟩ := k7.open
  subst hv; subst hv'
  exact ⟨gs, cs1, gc, cc1, gco, c, rco, gti, c', rti, k0, k1, k2, k3, k4, k5, k6, k7, k8, k9⟩
theorem InstAt.own (h : InstAt TS TC TR TI w B x cs gs cs1 gc cc1 gco cco rco gti cti rti) : InstOwn TS TC TR TI w B x cs :=
  ⟨gs, cs1, gc, cc1, _, _, gco, rco, gti, rti, h.lit, h.caps, h.leS, h.leC, h.sats, h.custs, h.costs, h.times, h.apart, h.apart2⟩
theorem InstAt.drew (h : InstAt TS TC TR TI w B x cs gs cs1 gc cc1 gco cco rco gti cti rti) : InstAt TS TC TR TI w.drew B x cs gs cs1 gc cc1 gco cco rco gti cti rti := ⟨h.lit, h.caps, h.leS, h.leC, h.sats.drew, h.custs.drew, h.costs.keepAll rfl fun _ _ => rfl, h.times.keepAll rfl fun _ _ => rfl, h.apart, h.apart2⟩
theorem InstAt.below {w' : World} (h : InstAt TS TC TR TI w B x cs gs cs1 gc cc1 gco cco rco gti cti rti) (hb : Below w.heap.size w w') : InstAt TS TC TR TI w' B x cs gs cs1 gc cc1 gco cco rco gti cti rti :=
  ⟨h.lit, h.caps, h.leS, h.leC, h.sats.below hb, h.custs.below hb, h.costs.below hb, h.times.below hb, h.apart, h.apart2⟩
theorem RowsOwn.row {TR TI B : Nat} {w : World} {v : Value} {rows : List (List Int)} {g : Nat} {rs : List Nat} (h : RowsOwn w B TR TI v rows g rs) {i : Nat} (hi : i < rows.length) :
    w.cell? ⟨g, i, none⟩ = some (.slice (some ⟨rs.getD i 0, 0, none⟩) (rows.getD i []).length (rows.getD i []).length) ∧ Row w (rs.getD i 0) TI ((rows.getD i []).map intV) ∧ B ≤ rs.getD i 0 ∧ rs.getD i 0 ∈ rs := by
  obtain ⟨c, hv, hrl, hg, hr⟩ := h.open
  have hi' : i < rs.length := by omega
  have e1 : rows.getD i [] = rows[i] := by rw [List.getD_eq_getElem?_getD, List.getElem?_eq_getElem hi]; rfl
  have e2 : rs.getD i 0 = rs[i] := by rw [List.getD_eq_getElem?_getD, List.getElem?_eq_getElem hi']; rfl
  rw [e1, e2]
  exact ⟨hg i hi hi', (hr i hi hi').1, (hr i hi hi').2, List.getElem_mem _⟩
theorem RowsOwn.apart {TR TI B : Nat} {w : World} {v : Value} {rows : List (List Int)} {g : Nat} {rs : List Nat} (h : RowsOwn w B TR TI v rows g rs) {i i' : Nat} (hi : i < rows.length) (hi' : i' < rows.length) (hne : i ≠ i') : rs.getD i 0 ≠ rs.getD i' 0 := by
  obtain ⟨c, k0, k1, k2, k3, k4, k5, k6, k7, k8⟩ := h
  rw [List.getD_eq_getElem?_getD, List.getD_eq_getElem?_getD, List.getElem?_eq_getElem (by omega), List.getElem?_eq_getElem (by omega)]
  intro e
  exact hne ((List.getElem_inj k7).1 e)
theorem RowsOwn.setAt {TR TI B : Nat} {w : World} {v : Value} {rows : List (List Int)} {g : Nat} {rs : List Nat} (h : RowsOwn w B TR TI v rows g rs) (hne : TR ≠ TI) {i j : Nat} (hi : i < rows.length) (hj : j < (rows.getD i []).length) (u : Int) :
    RowsOwn (w.setCell ⟨rs.getD i 0, j, none⟩ (intV u)) B TR TI v (setAt rows i j u) g rs := by
  have hrl : rs.length = rows.length := by obtain ⟨c, k0, k1, k2, k3, k4, k5, k6, k7, k8⟩ := h; exact k5
  have hi' : i < rs.length := by omega
  have e1 : rows.getD i [] = rows[i] := by rw [List.getD_eq_getElem?_getD, List.getElem?_eq_getElem hi]; rfl
  have e2 : rs.getD i 0 = rs[i] := by rw [List.getD_eq_getElem?_getD, List.getElem?_eq_getElem hi']; rfl
  unfold Go.Proofs.Ytafhjfkdlmijdaa.setAt
  rw [e1] at hj ⊢
  rw [e2]
  exact h.set hne hi hi' hj u
theorem setAt_len (l : List (List Int)) (i j : Nat) (u : Int) : (setAt l i j u).length = l.length := by unfold setAt; simp
theorem InstAt.setCost (h : InstAt TS TC TR TI w B x cs gs cs1 gc cc1 gco cco rco gti cti rti) (n1 : TS ≠ TI) (n2 : TC ≠ TI) (n3 : TR ≠ TI) {i j : Nat} (hi : i < x.cost.length) (hj : j < (x.cost.getD i []).length) (u : Int) :
    InstAt TS TC TR TI (w.setCell ⟨rco.getD i 0, j, none⟩ (intV u)) B (x.putCost i j u) cs gs cs1 gc cc1 gco cco rco gti cti rti := by
  obtain ⟨h1, h2, h3, h4⟩ := h.costs.row hi
  have hrt : Row w gti TR (List.zipWith rowV rti x.time) := by obtain ⟨_, _, _, _, _, kr, _⟩ := h.times; exact kr
  refine ⟨by rw [h.lit]; simp only [InstD.putCost, setAt_len], h.caps, h.leS, h.leC, h.sats.setApart h2 n1 _ _, h.custs.setApart h2 n2 _ _, ?_, ?_, h.apart, h.apart2⟩
  · have := h.costs.setAt n3 hi hj u
    show RowsOwn _ B TR TI (.slice _ (setAt x.cost i j u).length _) (setAt x.cost i j u) gco rco
    rw [setAt_len]; exact this
  · exact h.times.keepAll (Below.heap_setCell _ _ _ _ (hrt.ne h2 n3)) fun b hb => Below.heap_setCell _ _ _ _ fun e => h.apart2 _ h4 b hb e.symm
theorem InstAt.setTime (h : InstAt TS TC TR TI w B x cs gs cs1 gc cc1 gco cco rco gti cti rti) (n1 : TS ≠ TI) (n2 : TC ≠ TI) (n3 : TR ≠ TI) {i j : Nat} (hi : i < x.time.length) (hj : j < (x.time.getD i []).length) (u : Int) :
    InstAt TS TC TR TI (w.setCell ⟨rti.getD i 0, j, none⟩ (intV u)) B (x.putTime i j u) cs gs cs1 gc cc1 gco cco rco gti cti rti := by
  obtain ⟨h1, h2, h3, h4⟩ := h.times.row hi
  have hrt : Row w gco TR (List.zipWith rowV rco x.cost) := by obtain ⟨_, _, _, _, _, kr, _⟩ := h.costs; exact kr
  refine ⟨by rw [h.lit]; simp only [InstD.putTime, setAt_len], h.caps, h.leS, h.leC, h.sats.setApart h2 n1 _ _, h.custs.setApart h2 n2 _ _, ?_, ?_, h.apart, h.apart2⟩
  · exact h.costs.keepAll (Below.heap_setCell _ _ _ _ (hrt.ne h2 n3)) fun a ha => Below.heap_setCell _ _ _ _ fun e => h.apart2 a ha _ h4 e
  · have := h.times.setAt n3 hi hj u
    show RowsOwn _ B TR TI (.slice _ (setAt x.time i j u).length _) (setAt x.time i j u) gti rti
    rw [setAt_len]; exact this
end
end Go.Proofs.Ytafhjfkdlmijdaa
