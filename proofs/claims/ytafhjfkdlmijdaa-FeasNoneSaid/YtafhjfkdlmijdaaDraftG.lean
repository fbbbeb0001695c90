/- clock.draft in plain words: events, and arcs between; the table of the trucks' events, as a call lays it. No program in sight. -/
import Derived.Test.YtafhjfkdlmijdaaDrafter
import Derived.Test.YtafhjfkdlmijdaaGd
import Derived.Test.YtafhjfkdlmijdaaDraftD
namespace Go.Proofs.Ytafhjfkdlmijdaa
open Go.RowKit

def timeAt (x : InstD) (a b : Int) : Int := (x.time.getD a.toNat []).getD b.toNat 0
theorem timeAt_bd {x : InstD} (g : Good x) (a b : Int) : 0 ≤ timeAt x a b ∧ timeAt x a b ≤ 1000000000 := by
  unfold timeAt
  rw [List.getD_eq_getElem?_getD, List.getD_eq_getElem?_getD]
  by_cases h1 : a.toNat < x.time.length
  · rw [List.getElem?_eq_getElem h1, Option.getD_some]
    by_cases h2 : b.toNat < (x.time[a.toNat]).length
    · rw [List.getElem?_eq_getElem h2, Option.getD_some]
      exact g.time _ (List.getElem_mem h1) _ (List.getElem_mem h2)
    · rw [List.getElem?_eq_none (by omega)]; simp
  · rw [show x.time[a.toNat]? = none from List.getElem?_eq_none (by omega)]; simp
structure DrS where
  fr : List Int
  arcs : List ArcD
  att : List (List Nat)
structure StT where
  d : DrS
  last : Int
  node : Int
def addAtt (att : List (List Nat)) (s n : Nat) : List (List Nat) := att.set s (att.getD s [] ++ [n])
def stepStop (x : InstD) (st : StT) (s : StopD) : StT :=
  ⟨⟨if st.last < 0 then st.d.fr ++ [timeAt x 0 (1 + s.sat)] else st.d.fr ++ [0],
    if st.last < 0 then st.d.arcs else st.d.arcs ++ [⟨st.last.toNat, st.d.fr.length, timeAt x st.node (1 + s.sat)⟩],
    addAtt st.d.att s.sat.toNat st.d.fr.length⟩, st.d.fr.length, 1 + s.sat⟩
def stepTruck (x : InstD) (d : DrS) (t : List StopD) : DrS := (t.foldl (stepStop x) ⟨d, -1, 0⟩).d
def drStart (x : InstD) : DrS := ⟨[], [], List.replicate x.sats.length []⟩
def drTrucks (x : InstD) (l : List (List StopD)) : DrS := l.foldl (stepTruck x) (drStart x)
structure StB where
  d : DrS
  last : Nat
  node : Int
  stay : Int
def holdOf (x : InstD) (s : Int) : Int := (x.sats.getD s.toNat ⟨0, 0⟩).hold
def stepCust (x : InstD) (st : StB) (c : Int) : StB :=
  ⟨⟨st.d.fr ++ [(custD x c).opn], st.d.arcs ++ [⟨st.last, st.d.fr.length, st.stay + timeAt x st.node (1 + x.sats.length + c)⟩], st.d.att⟩, st.d.fr.length, 1 + x.sats.length + c, (custD x c).stay⟩
def holdArcs (x : InstD) (d : DrS) (b : BikeD) (m : Nat) : List ArcD := ((d.att.getD b.sat.toNat []).take m).map fun n => ⟨n, d.fr.length, holdOf x b.sat⟩
def bikeStart (x : InstD) (d : DrS) (b : BikeD) : StB := ⟨⟨d.fr ++ [0], d.arcs ++ holdArcs x d b (d.att.getD b.sat.toNat []).length, d.att⟩, d.fr.length, 1 + b.sat, 0⟩
def bikeEnd (x : InstD) (st : StB) (b : BikeD) : DrS := ⟨st.d.fr ++ [0], st.d.arcs ++ [⟨st.last, st.d.fr.length, st.stay + timeAt x st.node (1 + b.sat)⟩], st.d.att⟩
def stepBikeG (x : InstD) (d : DrS) (b : BikeD) : DrS := bikeEnd x (b.stops.foldl (stepCust x) (bikeStart x d b)) b
def drAll (x : InstD) (p : PlanD) : DrS := p.bikes.foldl (stepBikeG x) (drTrucks x p.trucks)
/-- What holds behind n events. -/
structure DrOk (x : InstD) (d : DrS) (n m : Nat) : Prop where
  frL : d.fr.length = n
  arL : d.arcs.length ≤ m
  atL : d.att.length = x.sats.length
  at' : ∀ l ∈ d.att, l.length ≤ n ∧ ∀ k ∈ l, k < n
structure StOk (x : InstD) (st : StT) (n : Nat) : Prop where
  ok : DrOk x st.d n n
  lastB : -1 ≤ st.last ∧ st.last < n
  nodeB : 0 ≤ st.node ∧ st.node < nodes x
theorem att_get {x : InstD} {d : DrS} {n m : Nat} (h : DrOk x d n m) (s : Nat) : (d.att.getD s []).length ≤ n ∧ ∀ k ∈ d.att.getD s [], k < n := by
  rw [List.getD_eq_getElem?_getD]
  by_cases hs : s < d.att.length
  · rw [List.getElem?_eq_getElem hs]; exact h.at' _ (List.getElem_mem hs)
  · rw [List.getElem?_eq_none (by omega)]; simp
theorem DrOk.start (x : InstD) : DrOk x (drStart x) 0 0 := ⟨rfl, Nat.le_refl _, by simp [drStart], fun l hl => by rw [List.eq_of_mem_replicate hl]; simp⟩
theorem StOk.start {x : InstD} {d : DrS} {n : Nat} (h : DrOk x d n n) : StOk x ⟨d, -1, 0⟩ n := ⟨h, ⟨Int.le_refl _, by show (-1 : Int) < n; omega⟩, ⟨Int.le_refl _, by show (0 : Int) < (nodes x : Int); unfold nodes; omega⟩⟩
theorem StOk.step {x : InstD} {st : StT} {n : Nat} {s : StopD} (h : StOk x st n) (hs : StopOk x s) : StOk x (stepStop x st s) (n + 1) := by
  have hg := att_get h.ok s.sat.toNat
  have h0 := hs.1
  refine ⟨⟨?_, ?_, ?_, fun l hl => ?_⟩, ?_, ?_⟩
  · simp only [stepStop]; split <;> rw [List.length_append, List.length_singleton, h.ok.frL]
  · have := h.ok.arL
    simp only [stepStop]; split
    · omega
    · rw [List.length_append, List.length_singleton]; omega
  · simp only [stepStop, addAtt, List.length_set]; exact h.ok.atL
  · simp only [stepStop, addAtt] at hl
    rcases List.mem_or_eq_of_mem_set hl with hl | rfl
    · have := h.ok.at' l hl; exact ⟨by omega, fun k hk => by have := this.2 k hk; omega⟩
    · refine ⟨by rw [List.length_append, List.length_singleton]; omega, fun k hk => ?_⟩
      rcases List.mem_append.1 hk with hk | hk
      · have := hg.2 k hk; omega
      · rw [List.mem_singleton.1 hk, h.ok.frL]; omega
  · simp only [stepStop]; rw [h.ok.frL]; omega
  · simp only [stepStop]; unfold nodes; omega
theorem stops_ok {x : InstD} {t : List StopD} (ht : ∀ s ∈ t, StopOk x s) {d : DrS} {n : Nat} (h : DrOk x d n n) : ∀ j, j ≤ t.length → StOk x ((t.take j).foldl (stepStop x) ⟨d, -1, 0⟩) (n + j)
  | 0, _ => StOk.start h
  | j + 1, hj => by
    rw [foldl_take_succ _ _ _ _ (by omega), ← Nat.add_assoc]
    exact (stops_ok ht h j (by omega)).step (ht _ (List.getElem_mem _))
theorem trucks_ok {x : InstD} {l : List (List StopD)} (hl : ∀ t ∈ l, ∀ s ∈ t, StopOk x s) : ∀ k, k ≤ l.length → DrOk x ((l.take k).foldl (stepTruck x) (drStart x)) (tstopsUp l k) (tstopsUp l k)
  | 0, _ => by simpa [tstopsUp] using DrOk.start x
  | k + 1, hk => by
    have hk' : k < l.length := by omega
    rw [foldl_take_succ _ _ _ _ hk', tstopsUp_succ hk']
    have h := (stops_ok (hl _ (List.getElem_mem hk')) (trucks_ok hl k (by omega)) l[k].length (Nat.le_refl _)).ok
    rw [List.take_length] at h
    exact h
structure BkSt (x : InstD) (st : StB) (n m : Nat) : Prop where
  ok : DrOk x st.d n m
  lastB : st.last < n
  nodeB : 0 ≤ st.node ∧ st.node < nodes x
  stayB : 0 ≤ st.stay ∧ st.stay ≤ 1000000000
theorem BkSt.start {x : InstD} {d : DrS} {n m : Nat} {b : BikeD} (h : DrOk x d n m) (hb : 0 ≤ b.sat ∧ b.sat < x.sats.length) : BkSt x (bikeStart x d b) (n + 1) (m + n) := by
  have hg := att_get h b.sat.toNat
  refine ⟨⟨?_, ?_, h.atL, fun l hl => ?_⟩, ?_, ?_, by simp only [bikeStart]; omega⟩
  · simp only [bikeStart]; rw [List.length_append, List.length_singleton, h.frL]
  · have := h.arL
    simp only [bikeStart, holdArcs]; rw [List.length_append, List.length_map, List.length_take]; omega
  · have := h.at' l hl; exact ⟨by omega, fun k hk => by have := this.2 k hk; omega⟩
  · simp only [bikeStart]; rw [h.frL]; omega
  · simp only [bikeStart]; unfold nodes; omega
theorem BkSt.step {x : InstD} (gd : Good x) {st : StB} {n m : Nat} {c : Int} (h : BkSt x st n m) (hc : CustOk x c) : BkSt x (stepCust x st c) (n + 1) (m + 1) := by
  have hcu : (custD x c).stay = (custD x c).stay := rfl
  have hcl : c.toNat < x.custs.length := by unfold CustOk at hc; omega
  have hst := (gd.cust _ (List.getElem_mem hcl)).2.2.2
  unfold CustOk at hc
  refine ⟨⟨?_, ?_, h.ok.atL, fun l hl => ?_⟩, ?_, ?_, ?_⟩
  · simp only [stepCust]; rw [List.length_append, List.length_singleton, h.ok.frL]
  · have := h.ok.arL
    simp only [stepCust]; rw [List.length_append, List.length_singleton]; omega
  · have := h.ok.at' l hl; exact ⟨by omega, fun k hk => by have := this.2 k hk; omega⟩
  · simp only [stepCust]; rw [h.ok.frL]; omega
  · simp only [stepCust]; unfold nodes; omega
  · simp only [stepCust, custD]
    rw [List.getD_eq_getElem?_getD, List.getElem?_eq_getElem hcl]
    exact hst
theorem custs_ok {x : InstD} (gd : Good x) {b : BikeD} (hb : BikeOk x b) {d : DrS} {n m : Nat} (h : DrOk x d n m) : ∀ j, j ≤ b.stops.length → BkSt x ((b.stops.take j).foldl (stepCust x) (bikeStart x d b)) (n + 1 + j) (m + n + j)
  | 0, _ => BkSt.start h hb.1
  | j + 1, hj => by
    rw [foldl_take_succ _ _ _ _ (by omega), ← Nat.add_assoc, ← Nat.add_assoc]
    exact (custs_ok gd hb h j (by omega)).step gd (hb.2.2 _ (List.getElem_mem _))
theorem BkSt.done {x : InstD} {st : StB} {n m : Nat} {b : BikeD} (h : BkSt x st n m) : DrOk x (bikeEnd x st b) (n + 1) (m + 1) := by
  refine ⟨?_, ?_, h.ok.atL, fun l hl => ?_⟩
  · simp only [bikeEnd]; rw [List.length_append, List.length_singleton, h.ok.frL]
  · have := h.ok.arL
    simp only [bikeEnd]; rw [List.length_append, List.length_singleton]; omega
  · have := h.ok.at' l hl; exact ⟨by omega, fun k hk => by have := this.2 k hk; omega⟩
/-- How many events, how many arcs at most, behind so many bikes. -/
def evUp (T : Nat) (l : List BikeD) (k : Nat) : Nat := T + stopsUp l k + 2 * k
theorem evUp_succ {T : Nat} {l : List BikeD} {k : Nat} (h : k < l.length) : evUp T l (k + 1) = evUp T l k + 1 + l[k].stops.length + 1 := by unfold evUp; rw [stopsUp_succ h]; omega
theorem bikes_ok {x : InstD} (gd : Good x) {l : List BikeD} (hl : ∀ b ∈ l, BikeOk x b) {d : DrS} {T : Nat} (h : DrOk x d T T) : ∀ k, k ≤ l.length → ∃ m, m ≤ evUp T l k * (k + 1) ∧ DrOk x ((l.take k).foldl (stepBikeG x) d) (evUp T l k) m
  | 0, _ => ⟨T, by simp [evUp, stopsUp], by simpa [evUp, stopsUp] using h⟩
  | k + 1, hk => by
    have hk' : k < l.length := by omega
    obtain ⟨m, hm, ih⟩ := bikes_ok gd hl h k (by omega)
    rw [foldl_take_succ _ _ _ _ hk', evUp_succ hk']
    have hd := ((custs_ok gd (hl _ (List.getElem_mem hk')) ih l[k].stops.length (Nat.le_refl _)).done (b := l[k]))
    rw [List.take_length] at hd
    refine ⟨_, ?_, hd⟩
    generalize evUp T l k = E at hm ⊢
    have e : (E + 1 + l[k].stops.length + 1) * (k + 1 + 1) = E * (k + 1) + E + (1 + l[k].stops.length + 1) * (k + 1) + (1 + l[k].stops.length + 1) := by
      simp only [Nat.add_mul, Nat.mul_add]; omega
    rw [e]
    have : 0 ≤ (1 + l[k].stops.length + 1) * (k + 1) := Nat.zero_le _
    omega

/-! The table of the trucks' events. -/
structure AOwn (w : World) (B ga : Nat) (att : List (List Nat)) (vs : List Value) : Prop where
  row : Row w ga 49 vs
  len : vs.length = att.length
  rows : ∀ i (h : i < att.length) (h' : i < vs.length), w.ownsRow B 3 1 vs[i] att[i].length (att[i].map natV)
  apart : ∀ i j (hi : i < vs.length) (hj : j < vs.length), i ≠ j → vs[i].ownBlock = none ∨ vs[i].ownBlock ≠ vs[j].ownBlock
theorem AOwn.below {w w' : World} {B ga : Nat} {att : List (List Nat)} {vs : List Value} (h : AOwn w B ga att vs) (hb : Below w.heap.size w w') : AOwn w' B ga att vs :=
  ⟨h.row.below hb, h.len, fun i h1 h2 => owns_below (h.rows i h1 h2) hb, h.apart⟩
theorem AOwn.mut {w w' : World} {B B' ga : Nat} {att : List (List Nat)} {vs : List Value} (h : AOwn w B ga att vs) (hm : Mut dts B' w w') : AOwn w' B ga att vs :=
  ⟨hm.row h.row (by decide), h.len, fun i h1 h2 => hm.owns (h.rows i h1 h2) (by decide), h.apart⟩
theorem AOwn.push {w w1 : World} {B ga s n : Nat} {att : List (List Nat)} {vs : List Value} {u : Value} (h : AOwn w B ga att vs) (hs : s < att.length) (hsv : s < vs.length)
    (hg : w.grownBy w1 vs[s].ownBlock) (hu : w1.ownsRow B 3 1 u (att[s].length + 1) (att[s].map natV ++ [natV n])) (hat : u.ownBlock = vs[s].ownBlock ∨ ∃ b, u.ownBlock = some b ∧ w.heap.size ≤ b) :
    AOwn (w1.setCell ⟨ga, s, none⟩ u) B ga (addAtt att s n) (vs.set s u) := by
  have hrow := h.rows _ hs hsv
  have R1 : Row w1 ga 49 vs := h.row.grown hrow (by decide) hg
  have e0 : att.getD s [] = att[s] := by rw [List.getD_eq_getElem?_getD, List.getElem?_eq_getElem hs]; rfl
  refine ⟨R1.set hsv u, by unfold addAtt; rw [List.length_set, List.length_set, h.len], fun i h1 h2 => ?_, fun i j hi hj hij => ?_⟩
  · have hi : i < att.length := by unfold addAtt at h1; rw [List.length_set] at h1; exact h1
    have hi' : i < vs.length := by rw [h.len]; exact hi
    by_cases e : s = i
    · subst e
      have e1 : (vs.set s u)[s]'h2 = u := by simp
      have e2 : (addAtt att s n)[s]'h1 = att[s] ++ [n] := by simp only [addAtt, List.getElem_set_self]; rw [e0]
      rw [e1, e2, List.map_append, List.length_append, List.length_singleton]
      exact owns_setApart hu R1 (by decide) _ _
    · have e1 : (vs.set s u)[i]'h2 = vs[i] := by rw [List.getElem_set_ne e]
      have e2 : (addAtt att s n)[i]'h1 = att[i] := by simp only [addAtt, List.getElem_set, if_neg e]
      rw [e1, e2]
      exact owns_setApart ((h.rows i hi hi').kept hg (h.apart i _ hi' hsv (Ne.symm e))) R1 (by decide) _ _
  · have hlt : ∀ i (hi : i < vs.length) b, vs[i].ownBlock = some b → b < w.heap.size := fun i hi b hb => ((h.rows i (by rw [← h.len]; exact hi) hi).lt b hb).2
    simp only [List.length_set] at hi hj
    simp only [List.getElem_set]
    split
    · rename_i ei
      split
      · omega
      · rename_i ej
        rcases hat with e | ⟨b, e, hb⟩
        · rw [e]; exact h.apart _ j hsv hj ej
        · refine .inr fun e' => ?_
          have := hlt j hj b (by rw [← e', e]); omega
    · rename_i ei
      split
      · rename_i ej
        rcases hat with e | ⟨b, e, hb⟩
        · rw [e]; exact h.apart i _ hi hsv (by omega)
        · refine .inr fun e' => ?_
          have := hlt i hi b (by rw [e', e]); omega
      · exact h.apart i j hi hj hij
theorem make_nils {P : Program} {t e : TypeId} {i : TypeInfo} (ht : P.underlying t = some (.slice e)) (hi : P.info? e = some i) (hz : i.zero = some (.slice none 0 0)) (hs : i.size = 1) (hb : i.bytes = 24) {n : Nat} (hn : n ≤ 1000000) :
    ∀ w, (Instr.makeSlice t (.int .i64 (n : Int)) (.int .i64 (n : Int))).run P w = .ok (.slice (some ⟨w.heap.size, 0, none⟩) n n) (w.alloc (.cells (Array.replicate n (.slice none 0 0)) e)) := by
  intro w
  have h := run_make (P := P) w t e i (.slice none 0 0) ht hi hz .i64 .i64 n n (by omega) (by omega) (by rw [hb]; omega) (by omega)
  rw [h, hs]
  have hm : (madeCells (Value.slice none 0 0).cells ((n : Int).toNat * 1)) = Array.replicate n (.slice none 0 0) := by
    apply Array.ext'
    rw [Nat.mul_one, Int.toNat_natCast, show (Value.slice none 0 0).cells = #[.slice none 0 0] from rfl, toList_madeCells_one]
    simp
  rw [hm, Int.toNat_natCast]
theorem info_ints : (Try.prog.info? 49).map (fun i => (i.zero, i.size, i.bytes)) = some (some (.slice none 0 0), 1, 24) := by kernel_rfl
theorem sz_ints : ∀ w, (sizeOf 49).run Try.prog w = .ok 1 w := fun w => by kernel_rfl
theorem AOwn.new (w : World) (B n : Nat) : AOwn (w.alloc (.cells (Array.replicate n (.slice none 0 0)) 49)) B w.heap.size (List.replicate n []) (List.replicate n (.slice none 0 0)) := by
  have h := Row.new (w := w) (g := w.heap.size) (e := 49) (cs := List.replicate n (.slice none 0 0)) rfl
  refine ⟨by simpa using h, by simp, fun i h1 h2 => ?_, fun i j hi hj _ => .inl ?_⟩
  · simp only [List.getElem_replicate]
    exact World.ownsRow_nil _ _ _ _
  · simp only [List.getElem_replicate]; rfl
/-- The matrix of times, read. -/
theorem time_rows {w : World} {F : Nat → Prop} {x : InstD} {cs : List Value} (h : rowsS.rep w F x.time cs) (gd : Good x) :
    ∃ b off c, cs = [.slice (some ⟨b, off, none⟩) (nodes x) c] ∧ ∀ i, i < nodes x → ∃ br or cr, w.cell? ⟨b, off + i, none⟩ = some (.slice (some ⟨br, or, none⟩) (nodes x) cr) ∧ ∀ j, j < nodes x → w.cell? ⟨br, or + j, none⟩ = some (.int .i64 (timeAt x i j)) := by
  obtain ⟨a, b, off, c, rfl, -, -, ha, -, hcell⟩ := rows_open h
  have hn : 0 < nodes x := by unfold nodes; omega
  obtain rfl := ha (by rw [gd.timeL]; exact hn)
  rw [gd.timeL]
  refine ⟨b, off, c, rfl, fun i hi => ?_⟩
  have hi' : i < x.time.length := by rw [gd.timeL]; exact hi
  obtain ⟨v, hv, hr⟩ := hcell i hi'
  obtain ⟨a2, br, or, cr, hs, -, -, ha2, -, hc2, -⟩ := ints_open hr
  obtain rfl := List.cons.inj hs |>.1
  have hrl := gd.timeR _ (List.getElem_mem hi')
  obtain rfl := ha2 (by rw [hrl]; exact hn)
  rw [hrl] at hv
  refine ⟨br, or, cr, hv, fun j hj => ?_⟩
  rw [hc2 j (by rw [hrl]; exact hj)]
  unfold timeAt
  simp only [Int.toNat_natCast]
  rw [List.getD_eq_getElem?_getD, List.getD_eq_getElem?_getD, List.getElem?_eq_getElem hi', Option.getD_some, List.getElem?_eq_getElem (by rw [hrl]; exact hj)]
  rfl
end Go.Proofs.Ytafhjfkdlmijdaa
