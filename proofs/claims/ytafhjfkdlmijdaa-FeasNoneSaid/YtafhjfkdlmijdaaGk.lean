/- Texts of the proof, joined: SoonD, PlanBd, ClockD, ClockF. -/
import Derived.Test.YtafhjfkdlmijdaaDraftG
import Derived.Test.YtafhjfkdlmijdaaGj
import Derived.Test.YtafhjfkdlmijdaaDraftW
/- The soonest times in plain words, and that they are the least times of what clock.draft makes. No program in sight. -/
namespace Go.Proofs.Ytafhjfkdlmijdaa
open Go.RowKit

structure RideD where
  out : Int
  starts : List Int
  back : Int
  deriving DecidableEq
structure TimesD where
  trucks : List (List Int)
  bikes : List RideD
  deriving DecidableEq
structure SnT where
  now : Int
  node : Int
  ready : List Int
  l : List Int
def soonStop (x : InstD) (st : SnT) (s : StopD) : SnT :=
  ⟨st.now + timeAt x st.node (1 + s.sat), 1 + s.sat, st.ready.set s.sat.toNat (max (st.ready.getD s.sat.toNat 0) (st.now + timeAt x st.node (1 + s.sat) + holdOf x s.sat)), st.l ++ [st.now + timeAt x st.node (1 + s.sat)]⟩
structure SnA where
  ready : List Int
  ts : List (List Int)
def soonTruckE (x : InstD) (a : SnA) (t : List StopD) : SnT := t.foldl (soonStop x) ⟨0, 0, a.ready, []⟩
def soonTruck (x : InstD) (a : SnA) (t : List StopD) : SnA := ⟨(soonTruckE x a t).ready, a.ts ++ [(soonTruckE x a t).l]⟩
def soonTrucks (x : InstD) (l : List (List StopD)) : SnA := l.foldl (soonTruck x) ⟨List.replicate x.sats.length 0, []⟩
structure SnB where
  now : Int
  node : Int
  starts : List Int
def soonCust (x : InstD) (st : SnB) (c : Int) : SnB :=
  ⟨max (st.now + timeAt x st.node (1 + x.sats.length + c)) (custD x c).opn + (custD x c).stay, 1 + x.sats.length + c, st.starts ++ [max (st.now + timeAt x st.node (1 + x.sats.length + c)) (custD x c).opn]⟩
def soonBikeE (x : InstD) (ready : List Int) (b : BikeD) : SnB := b.stops.foldl (soonCust x) ⟨ready.getD b.sat.toNat 0, 1 + b.sat, []⟩
def soonBike (x : InstD) (ready : List Int) (b : BikeD) : RideD :=
  ⟨ready.getD b.sat.toNat 0, (soonBikeE x ready b).starts, (soonBikeE x ready b).now + timeAt x (soonBikeE x ready b).node (1 + b.sat)⟩
def soonD (x : InstD) (p : PlanD) : TimesD := ⟨(soonTrucks x p.trucks).ts, p.bikes.map (soonBike x (soonTrucks x p.trucks).ready)⟩
def flatR (r : RideD) : List Int := r.out :: (r.starts ++ [r.back])
def flatT (t : TimesD) : List Int := t.trucks.flatten ++ t.bikes.flatMap flatR

theorem late_iff {n : Nat} {arcs : List ArcD} {fr d : List Int} : LateOf ⟨n, arcs⟩ fr d ↔ d.length = n ∧ (∀ j, j < n → fr.getD j 0 ≤ d.getD j 0) ∧ (∀ a ∈ arcs, d.getD a.frm 0 + a.wt ≤ d.getD a.dst 0) ∧ ∀ j, j < n → d.getD j 0 = fr.getD j 0 ∨ ∃ a ∈ arcs, a.dst = j ∧ d.getD j 0 = d.getD a.frm 0 + a.wt := by
  constructor
  · intro h
    refine ⟨h.len, h.lo, fun a ha => ?_, fun j hj => ?_⟩
    · obtain ⟨k, hk, rfl⟩ := List.getElem_of_mem ha
      have h1 := h.up k hk rfl
      rw [arcAt_get (g := ⟨n, arcs⟩) hk] at h1
      exact h1
    · rcases h.eq j hj with h1 | ⟨k, hk, -, h1, h2⟩
      · exact .inl h1
      · rw [arcAt_get (g := ⟨n, arcs⟩) hk] at h1 h2
        exact .inr ⟨arcs[k]'hk, List.getElem_mem _, h1, h2⟩
  · rintro ⟨h1, h2, h3, h4⟩
    refine ⟨h1, h2, fun k hk _ => ?_, fun j hj => ?_⟩
    · rw [arcAt_get (g := ⟨n, arcs⟩) hk]; exact h3 _ (List.getElem_mem _)
    · rcases h4 j hj with h5 | ⟨a, ha, h5, h6⟩
      · exact .inl h5
      · obtain ⟨k, hk, rfl⟩ := List.getElem_of_mem ha
        exact .inr ⟨k, hk, rfl, by rw [arcAt_get (g := ⟨n, arcs⟩) hk]; exact h5, by rw [arcAt_get (g := ⟨n, arcs⟩) hk]; exact h6⟩
theorem getD_snoc (l : List Int) (v : Int) (i : Nat) : (l ++ [v]).getD i 0 = if i < l.length then l.getD i 0 else if i = l.length then v else 0 := by
  rw [List.getD_eq_getElem?_getD, List.getD_eq_getElem?_getD]
  by_cases h : i < l.length
  · rw [if_pos h, List.getElem?_append_left h]
  · rw [if_neg h, List.getElem?_append_right (by omega)]
    by_cases h2 : i = l.length
    · rw [if_pos h2, h2, Nat.sub_self]; rfl
    · rw [if_neg h2, List.getElem?_eq_none (by simp only [List.length_singleton]; omega)]; rfl
theorem getD_snoc_lt {l : List Int} {v : Int} {i : Nat} (h : i < l.length) : (l ++ [v]).getD i 0 = l.getD i 0 := by rw [getD_snoc, if_pos h]
theorem getD_snoc_len (l : List Int) (v : Int) : (l ++ [v]).getD l.length 0 = v := by rw [getD_snoc, if_neg (by omega), if_pos rfl]
/-- One event more. -/
theorem late_grow {n : Nat} {arcs new : List ArcD} {fr d : List Int} {f v : Int} (h : LateOf ⟨n, arcs⟩ fr d) (hfr : fr.length = n) (ho : ∀ a ∈ arcs, a.frm < n ∧ a.dst < n) (hn : ∀ a ∈ new, a.frm < n ∧ a.dst = n)
    (hf : f ≤ v) (hu : ∀ a ∈ new, d.getD a.frm 0 + a.wt ≤ v) (he : v = f ∨ ∃ a ∈ new, v = d.getD a.frm 0 + a.wt) : LateOf ⟨n + 1, arcs ++ new⟩ (fr ++ [f]) (d ++ [v]) := by
  obtain ⟨h1, h2, h3, h4⟩ := late_iff.1 h
  subst h1
  have hv : ∀ j, j < d.length → (fr ++ [f]).getD j 0 = fr.getD j 0 := fun j hj => getD_snoc_lt (by omega)
  have hvl : (fr ++ [f]).getD d.length 0 = f := by rw [← hfr, getD_snoc_len]
  refine late_iff.2 ⟨by simp, fun j hj => ?_, fun a ha => ?_, fun j hj => ?_⟩
  · rcases Nat.lt_or_ge j d.length with hj' | hj'
    · rw [hv j hj', getD_snoc_lt hj']; exact h2 j hj'
    · obtain rfl : j = d.length := by omega
      rw [hvl, getD_snoc_len]; exact hf
  · rcases List.mem_append.1 ha with ha | ha
    · obtain ⟨p, q⟩ := ho a ha
      rw [getD_snoc_lt p, getD_snoc_lt q]; exact h3 a ha
    · obtain ⟨p, q⟩ := hn a ha
      rw [getD_snoc_lt p, q, getD_snoc_len]; exact hu a ha
  · rcases Nat.lt_or_ge j d.length with hj' | hj'
    · rw [hv j hj', getD_snoc_lt hj']
      rcases h4 j hj' with h5 | ⟨a, ha, h5, h6⟩
      · exact .inl h5
      · exact .inr ⟨a, List.mem_append_left _ ha, h5, by rw [getD_snoc_lt (ho a ha).1]; exact h6⟩
    · obtain rfl : j = d.length := by omega
      rw [hvl, getD_snoc_len]
      rcases he with he | ⟨a, ha, h6⟩
      · exact .inl he
      · exact .inr ⟨a, List.mem_append_right _ ha, (hn a ha).2, by rw [getD_snoc_lt (hn a ha).1]; exact h6⟩
structure SoonI (x : InstD) (d : DrS) (ts ready : List Int) : Prop where
  late : LateOf ⟨d.fr.length, d.arcs⟩ d.fr ts
  arc : ∀ a ∈ d.arcs, a.frm < a.dst ∧ a.dst < d.fr.length ∧ 0 ≤ a.wt ∧ a.wt ≤ 1099511627776
  frB : ∀ f ∈ d.fr, 0 ≤ f ∧ f ≤ 1000000000
  tsB : ∀ i, 0 ≤ ts.getD i 0
  rdyL : ready.length = x.sats.length
  attL : d.att.length = x.sats.length
  rdy : ∀ s, s < x.sats.length → 0 ≤ ready.getD s 0 ∧ (∀ n ∈ d.att.getD s [], n < d.fr.length ∧ ts.getD n 0 + holdOf x s ≤ ready.getD s 0) ∧ (ready.getD s 0 = 0 ∨ ∃ n ∈ d.att.getD s [], ready.getD s 0 = ts.getD n 0 + holdOf x s)
theorem SoonI.len {x : InstD} {d : DrS} {ts ready : List Int} (h : SoonI x d ts ready) : ts.length = d.fr.length := (late_iff.1 h.late).1
theorem SoonI.event {x : InstD} {d : DrS} {ts ready : List Int} {f v : Int} {new : List ArcD} (h : SoonI x d ts ready) (hn : ∀ a ∈ new, a.frm < d.fr.length ∧ a.dst = d.fr.length ∧ 0 ≤ a.wt ∧ a.wt ≤ 1099511627776)
    (hf0 : 0 ≤ f ∧ f ≤ 1000000000) (hf : f ≤ v) (hu : ∀ a ∈ new, ts.getD a.frm 0 + a.wt ≤ v) (he : v = f ∨ ∃ a ∈ new, v = ts.getD a.frm 0 + a.wt) : SoonI x ⟨d.fr ++ [f], d.arcs ++ new, d.att⟩ (ts ++ [v]) ready := by
  have hl := h.len
  refine ⟨?_, fun a ha => ?_, fun g hg => ?_, fun i => ?_, h.rdyL, h.attL, fun s hs => ?_⟩
  · rw [List.length_append, List.length_singleton]
    exact late_grow h.late rfl (fun a ha => ⟨by have := h.arc a ha; omega, (h.arc a ha).2.1⟩) (fun a ha => ⟨(hn a ha).1, (hn a ha).2.1⟩) hf hu he
  · rw [List.length_append, List.length_singleton]
    rcases List.mem_append.1 ha with ha | ha
    · have := h.arc a ha; omega
    · have := hn a ha; omega
  · rcases List.mem_append.1 hg with hg | hg
    · exact h.frB g hg
    · rw [List.mem_singleton.1 hg]; exact hf0
  · have := h.tsB i
    rw [getD_snoc]
    split
    · exact this
    · split <;> omega
  · obtain ⟨h1, h2, h3⟩ := h.rdy s hs
    refine ⟨h1, fun n hn' => ?_, ?_⟩
    · obtain ⟨p, q⟩ := h2 n hn'
      rw [List.length_append, List.length_singleton, getD_snoc_lt (by omega)]
      exact ⟨by omega, q⟩
    · rcases h3 with h3 | ⟨n, hn', h3⟩
      · exact .inl h3
      · exact .inr ⟨n, hn', by rw [getD_snoc_lt (by have := (h2 n hn').1; omega)]; exact h3⟩
theorem getD_setL {α : Type} (l : List α) (k i : Nat) (v z : α) (hk : k < l.length) : (l.set k v).getD i z = if k = i then v else l.getD i z := by
  rw [List.getD_eq_getElem?_getD, List.getD_eq_getElem?_getD, List.getElem?_set]
  by_cases e : k = i
  · rw [if_pos e, if_pos e, if_pos hk]; rfl
  · rw [if_neg e, if_neg e]
theorem hold_bd {x : InstD} (g : Good x) (s : Int) : 0 ≤ holdOf x s ∧ holdOf x s ≤ 1000000000 := by
  unfold holdOf
  rw [List.getD_eq_getElem?_getD]
  by_cases h : s.toNat < x.sats.length
  · rw [List.getElem?_eq_getElem h, Option.getD_some]; exact (g.sat _ (List.getElem_mem h)).2
  · rw [List.getElem?_eq_none (by omega)]; simp
theorem custD_bd {x : InstD} (g : Good x) {c : Int} (hc : CustOk x c) : (0 ≤ (custD x c).opn ∧ (custD x c).opn ≤ 1000000000) ∧ ((custD x c).opn ≤ (custD x c).cls ∧ (custD x c).cls ≤ 1000000000) ∧ 0 ≤ (custD x c).stay ∧ (custD x c).stay ≤ 1000000000 := by
  unfold custD
  obtain ⟨h1, h2⟩ := hc
  have h : c.toNat < x.custs.length := by omega
  rw [List.getD_eq_getElem?_getD, List.getElem?_eq_getElem h, Option.getD_some]
  exact (g.cust _ (List.getElem_mem h)).2
/-- The event last made comes to a satellite. -/
theorem SoonI.att {x : InstD} {d : DrS} {ts ready : List Int} {s : Int} {v : Int} {fr : List Int} {arcs : List ArcD} {n : Nat} (h : SoonI x ⟨fr, arcs, d.att⟩ ts ready) (hs : 0 ≤ s ∧ s < x.sats.length) (hn : n < fr.length) (hv : ts.getD n 0 = v) (gd : Good x) :
    SoonI x ⟨fr, arcs, addAtt d.att s.toNat n⟩ ts (ready.set s.toNat (max (ready.getD s.toNat 0) (v + holdOf x s))) := by
  have ha : s.toNat < d.att.length := by have := h.attL; show s.toNat < (DrS.mk fr arcs d.att).att.length; omega
  have hr : s.toNat < ready.length := by have := h.rdyL; omega
  have hh := hold_bd gd s
  have hv0 := h.tsB n
  refine ⟨h.late, h.arc, h.frB, h.tsB, by rw [List.length_set]; exact h.rdyL, by show (addAtt d.att s.toNat n).length = _; unfold addAtt; rw [List.length_set]; exact h.attL, fun k hk => ?_⟩
  obtain ⟨h1, h2, h3⟩ := h.rdy k hk
  show 0 ≤ _ ∧ (∀ m ∈ (addAtt d.att s.toNat n).getD k [], _) ∧ (_ ∨ ∃ m ∈ (addAtt d.att s.toNat n).getD k [], _)
  unfold addAtt
  rw [getD_setL _ _ _ _ _ ha, getD_setL _ _ _ _ _ hr]
  by_cases e : s.toNat = k
  · rw [if_pos e, if_pos e]
    have es : holdOf x (k : Int) = holdOf x s := by rw [← e, Int.toNat_of_nonneg hs.1]
    rw [es] at h2 h3 ⊢
    rw [e]
    refine ⟨by omega, fun m hm => ?_, ?_⟩
    · rcases List.mem_append.1 hm with hm | hm
      · obtain ⟨p, q⟩ := h2 m hm
        exact ⟨p, by omega⟩
      · rw [List.mem_singleton.1 hm]; exact ⟨hn, by omega⟩
    · rcases Int.le_total (v + holdOf x s) (ready.getD k 0) with hle | hle
      · rw [Int.max_eq_left hle]
        rcases h3 with h3 | ⟨m, hm, h3⟩
        · exact .inl h3
        · exact .inr ⟨m, List.mem_append_left _ hm, h3⟩
      · rw [Int.max_eq_right hle]
        exact .inr ⟨n, List.mem_append_right _ (List.mem_singleton.2 rfl), by rw [hv]⟩
  · rw [if_neg e, if_neg e]
    exact ⟨h1, h2, h3⟩
structure SoonT (x : InstD) (st : StT) (sn : SnT) (ts0 : List Int) : Prop where
  inv : SoonI x st.d (ts0 ++ sn.l) sn.ready
  node : st.node = sn.node
  first : st.last < 0 → sn.now = 0 ∧ sn.node = 0
  next : 0 ≤ st.last → st.last.toNat < st.d.fr.length ∧ (ts0 ++ sn.l).getD st.last.toNat 0 = sn.now
theorem SoonT.step {x : InstD} (gd : Good x) {st : StT} {sn : SnT} {ts0 : List Int} {s : StopD} (h : SoonT x st sn ts0) (hs : StopOk x s) : SoonT x (stepStop x st s) (soonStop x sn s) ts0 := by
  have hw := timeAt_bd gd st.node (1 + s.sat)
  have hw0 := timeAt_bd gd 0 (1 + s.sat)
  have hl := h.inv.len
  have key : ∃ f arcs, (stepStop x st s).d = ⟨st.d.fr ++ [f], st.d.arcs ++ arcs, addAtt st.d.att s.sat.toNat st.d.fr.length⟩ ∧ SoonI x ⟨st.d.fr ++ [f], st.d.arcs ++ arcs, st.d.att⟩ ((ts0 ++ sn.l) ++ [sn.now + timeAt x sn.node (1 + s.sat)]) sn.ready := by
    by_cases hlast : st.last < 0
    · obtain ⟨h1, h2⟩ := h.first hlast
      refine ⟨timeAt x 0 (1 + s.sat), [], ?_, h.inv.event (by simp) hw0 ?_ (by simp) (.inl ?_)⟩
      · simp only [stepStop, if_pos hlast, List.append_nil]
      · rw [h1, h2]; omega
      · rw [h1, h2]; omega
    · obtain ⟨h1, h2⟩ := h.next (by omega)
      have hb := h.inv.tsB st.last.toNat
      refine ⟨0, [⟨st.last.toNat, st.d.fr.length, timeAt x st.node (1 + s.sat)⟩], ?_, h.inv.event (fun a ha => ?_) (by omega) ?_ (fun a ha => ?_) (.inr ⟨_, List.mem_singleton.2 rfl, ?_⟩)⟩
      · simp only [stepStop, if_neg hlast]
      · rw [List.mem_singleton.1 ha]; exact ⟨h1, rfl, hw.1, by show timeAt x st.node (1 + s.sat) ≤ _; omega⟩
      · rw [h.node] at hw; omega
      · rw [List.mem_singleton.1 ha]
        show (ts0 ++ sn.l).getD st.last.toNat 0 + timeAt x st.node (1 + s.sat) ≤ _
        rw [h2, h.node]; exact Int.le_refl _
      · show _ = (ts0 ++ sn.l).getD st.last.toNat 0 + timeAt x st.node (1 + s.sat)
        rw [h2, h.node]
  obtain ⟨f, arcs, he, hi⟩ := key
  have ha := SoonI.att (s := s.sat) (n := st.d.fr.length) (v := sn.now + timeAt x sn.node (1 + s.sat)) hi hs.1 (by simp) (by rw [← hl, getD_snoc_len]) gd
  refine ⟨?_, rfl, fun hn => ?_, fun _ => ?_⟩
  · rw [he]
    simp only [soonStop, ← List.append_assoc]
    exact ha
  · exfalso
    simp only [stepStop] at hn
    omega
  · rw [he]
    simp only [stepStop, soonStop, ← List.append_assoc, Int.toNat_natCast]
    exact ⟨by simp, by rw [← hl, getD_snoc_len]⟩
theorem stops_inv {x : InstD} (gd : Good x) {ts0 : List Int} : ∀ (l : List StopD) (st : StT) (sn : SnT), (∀ s ∈ l, StopOk x s) → SoonT x st sn ts0 → SoonT x (l.foldl (stepStop x) st) (l.foldl (soonStop x) sn) ts0
  | [], _, _, _, h => h
  | s :: l, st, sn, hl, h => stops_inv gd l _ _ (fun t ht => hl t (List.mem_cons_of_mem _ ht)) (h.step gd (hl s List.mem_cons_self))
theorem truck_inv {x : InstD} (gd : Good x) {d : DrS} {a : SnA} {t : List StopD} (ht : ∀ s ∈ t, StopOk x s) (h : SoonI x d a.ts.flatten a.ready) : SoonI x (stepTruck x d t) (soonTruck x a t).ts.flatten (soonTruck x a t).ready := by
  have h0 : SoonT x ⟨d, -1, 0⟩ ⟨0, 0, a.ready, []⟩ a.ts.flatten := ⟨by rw [List.append_nil]; exact h, rfl, fun _ => ⟨rfl, rfl⟩, fun hh => absurd hh (by show ¬ ((0 : Int) ≤ -1); omega)⟩
  have h1 := (stops_inv gd t _ _ ht h0).inv
  have e : (soonTruck x a t).ts.flatten = a.ts.flatten ++ (t.foldl (soonStop x) ⟨0, 0, a.ready, []⟩).l := by
    simp only [soonTruck, soonTruckE, List.flatten_append, List.flatten_cons, List.flatten_nil, List.append_nil]
  rw [e]
  exact h1
theorem trucks_inv {x : InstD} (gd : Good x) : ∀ (l : List (List StopD)) (d : DrS) (a : SnA), (∀ t ∈ l, ∀ s ∈ t, StopOk x s) → SoonI x d a.ts.flatten a.ready → SoonI x (l.foldl (stepTruck x) d) (l.foldl (soonTruck x) a).ts.flatten (l.foldl (soonTruck x) a).ready
  | [], _, _, _, h => h
  | t :: l, d, a, hl, h => trucks_inv gd l _ _ (fun u hu => hl u (List.mem_cons_of_mem _ hu)) (truck_inv gd (hl t List.mem_cons_self) h)
theorem start_inv (x : InstD) : SoonI x (drStart x) [] (List.replicate x.sats.length 0) := by
  refine ⟨late_iff.2 ⟨rfl, fun j hj => absurd hj (by simp [drStart]), fun a ha => (by cases ha), fun j hj => absurd hj (by simp [drStart])⟩, (fun a ha => by cases ha), (fun f hf => by cases hf), fun i => by simp, by simp, by simp [drStart], fun s hs => ?_⟩
  have e1 : (drStart x).att.getD s [] = [] := by simp only [drStart, List.getD_eq_getElem?_getD, List.getElem?_replicate]; split <;> rfl
  have e2 : (List.replicate x.sats.length (0 : Int)).getD s 0 = 0 := by simp only [List.getD_eq_getElem?_getD, List.getElem?_replicate]; split <;> rfl
  rw [e1, e2]
  exact ⟨by omega, (fun n hn => by cases hn), .inl rfl⟩
structure SoonB (x : InstD) (st : StB) (sn : SnB) (ts0 ready : List Int) : Prop where
  inv : SoonI x st.d (ts0 ++ sn.starts) ready
  node : st.node = sn.node
  last : st.last < st.d.fr.length ∧ (ts0 ++ sn.starts).getD st.last 0 + st.stay = sn.now
  stay : 0 ≤ st.stay ∧ st.stay ≤ 1000000000
theorem SoonB.step {x : InstD} (gd : Good x) {st : StB} {sn : SnB} {ts0 ready : List Int} {c : Int} (h : SoonB x st sn ts0 ready) (hc : CustOk x c) : SoonB x (stepCust x st c) (soonCust x sn c) ts0 ready := by
  have hw := timeAt_bd gd st.node (1 + x.sats.length + c)
  have hb := custD_bd gd hc
  have hl := h.inv.len
  have h1 := h.last
  have h2 := h.stay
  have hi := h.inv.event (f := (custD x c).opn) (v := max (sn.now + timeAt x sn.node (1 + x.sats.length + c)) (custD x c).opn) (new := [⟨st.last, st.d.fr.length, st.stay + timeAt x st.node (1 + x.sats.length + c)⟩])
    (fun a ha => by rw [List.mem_singleton.1 ha]; exact ⟨h1.1, rfl, by show 0 ≤ st.stay + timeAt x st.node _; omega, by show st.stay + timeAt x st.node _ ≤ _; omega⟩) hb.1 (by omega)
    (fun a ha => by
      rw [List.mem_singleton.1 ha]
      show (ts0 ++ sn.starts).getD st.last 0 + (st.stay + timeAt x st.node _) ≤ _
      rw [h.node]; omega)
    (by
      rcases Int.le_total (sn.now + timeAt x sn.node (1 + x.sats.length + c)) (custD x c).opn with hle | hle
      · exact .inl (by omega)
      · refine .inr ⟨_, List.mem_singleton.2 rfl, ?_⟩
        show _ = (ts0 ++ sn.starts).getD st.last 0 + (st.stay + timeAt x st.node _)
        rw [h.node]; omega)
  refine ⟨?_, rfl, ⟨by simp [stepCust], ?_⟩, hb.2.2⟩
  · simp only [stepCust, soonCust, ← List.append_assoc]
    exact hi
  · simp only [stepCust, soonCust, ← List.append_assoc]
    rw [← hl, getD_snoc_len]
theorem bcusts_inv {x : InstD} (gd : Good x) {ts0 ready : List Int} : ∀ (l : List Int) (st : StB) (sn : SnB), (∀ c ∈ l, CustOk x c) → SoonB x st sn ts0 ready → SoonB x (l.foldl (stepCust x) st) (l.foldl (soonCust x) sn) ts0 ready
  | [], _, _, _, h => h
  | s :: l, st, sn, hl, h => bcusts_inv gd l _ _ (fun t ht => hl t (List.mem_cons_of_mem _ ht)) (h.step gd (hl s List.mem_cons_self))
theorem bike_inv {x : InstD} (gd : Good x) {d : DrS} {ts ready : List Int} {b : BikeD} (hb : BikeOk x b) (h : SoonI x d ts ready) : SoonI x (stepBikeG x d b) (ts ++ flatR (soonBike x ready b)) ready := by
  have hl := h.len
  obtain ⟨r1, r2, r3⟩ := h.rdy b.sat.toNat (by have := hb.1; omega)
  have hnat : ((b.sat.toNat : Nat) : Int) = b.sat := Int.toNat_of_nonneg hb.1.1
  rw [hnat] at r2 r3
  have hh := hold_bd gd b.sat
  have hi := h.event (f := 0) (v := ready.getD b.sat.toNat 0) (new := holdArcs x d b (d.att.getD b.sat.toNat []).length)
    (fun a ha => by
      unfold holdArcs at ha
      rw [List.take_length] at ha
      obtain ⟨n, hn, rfl⟩ := List.mem_map.1 ha
      exact ⟨(r2 n hn).1, rfl, hh.1, by show holdOf x b.sat ≤ _; omega⟩) (by omega) r1
    (fun a ha => by
      unfold holdArcs at ha
      rw [List.take_length] at ha
      obtain ⟨n, hn, rfl⟩ := List.mem_map.1 ha
      exact (r2 n hn).2)
    (by
      rcases r3 with r3 | ⟨n, hn, r3⟩
      · exact .inl r3
      · refine .inr ⟨⟨n, d.fr.length, holdOf x b.sat⟩, ?_, r3⟩
        unfold holdArcs
        rw [List.take_length]
        exact List.mem_map.2 ⟨n, hn, rfl⟩)
  have h0 : SoonB x (bikeStart x d b) ⟨ready.getD b.sat.toNat 0, 1 + b.sat, []⟩ (ts ++ [ready.getD b.sat.toNat 0]) ready := by
    refine ⟨by rw [List.append_nil]; exact hi, rfl, ⟨by simp [bikeStart], ?_⟩, by simp [bikeStart]⟩
    simp only [bikeStart, List.append_nil]
    rw [← hl, getD_snoc_len]; omega
  have h1 := bcusts_inv gd b.stops _ _ hb.2.2 h0
  have hw := timeAt_bd gd (b.stops.foldl (stepCust x) (bikeStart x d b)).node (1 + b.sat)
  have hs := h1.stay
  have hn := h1.node
  have hla := h1.last
  have hge := h1.inv.tsB (b.stops.foldl (stepCust x) (bikeStart x d b)).last
  generalize hE : b.stops.foldl (stepCust x) (bikeStart x d b) = E at *
  have hS : soonBikeE x ready b = b.stops.foldl (soonCust x) ⟨ready.getD b.sat.toNat 0, 1 + b.sat, []⟩ := rfl
  rw [← hS] at h1 hn hla
  have hfin : (soonBikeE x ready b).now + timeAt x (soonBikeE x ready b).node (1 + b.sat) = ((ts ++ [ready.getD b.sat.toNat 0]) ++ (soonBikeE x ready b).starts).getD E.last 0 + (E.stay + timeAt x E.node (1 + b.sat)) := by rw [hn]; omega
  have h2 := h1.inv.event (f := 0) (v := (soonBikeE x ready b).now + timeAt x (soonBikeE x ready b).node (1 + b.sat)) (new := [⟨E.last, E.d.fr.length, E.stay + timeAt x E.node (1 + b.sat)⟩])
    (fun a ha => by rw [List.mem_singleton.1 ha]; exact ⟨hla.1, rfl, by show 0 ≤ E.stay + timeAt x _ _; omega, by show E.stay + timeAt x _ _ ≤ _; omega⟩) (by omega)
    (by rw [hfin]; have := h1.inv.tsB E.last; omega)
    (fun a ha => by
      rw [List.mem_singleton.1 ha]
      exact Int.le_of_eq hfin.symm)
    (.inr ⟨_, List.mem_singleton.2 rfl, hfin⟩)
  have e : ts ++ flatR (soonBike x ready b) = ((ts ++ [ready.getD b.sat.toNat 0]) ++ (b.stops.foldl (soonCust x) ⟨ready.getD b.sat.toNat 0, 1 + b.sat, []⟩).starts) ++ [(soonBikeE x ready b).now + timeAt x (soonBikeE x ready b).node (1 + b.sat)] := by
    simp only [flatR, soonBike, soonBikeE, List.append_assoc, List.cons_append, List.nil_append]
  rw [e, ← hS]
  show SoonI x (bikeEnd x (b.stops.foldl (stepCust x) (bikeStart x d b)) b) _ _
  rw [hE]
  exact h2
theorem bikes_inv {x : InstD} (gd : Good x) {ready : List Int} : ∀ (l : List BikeD) (d : DrS) (ts : List Int), (∀ b ∈ l, BikeOk x b) → SoonI x d ts ready → SoonI x (l.foldl (stepBikeG x) d) (ts ++ (l.map (soonBike x ready)).flatMap flatR) ready
  | [], _, _, _, h => by simpa using h
  | b :: l, d, ts, hl, h => by
    rw [List.foldl_cons, List.map_cons, List.flatMap_cons, ← List.append_assoc]
    exact bikes_inv gd l _ _ (fun u hu => hl u (List.mem_cons_of_mem _ hu)) (bike_inv gd (hl b List.mem_cons_self) h)
/-- The soonest times are the least ones of what clock.draft makes. -/
theorem soon_inv {x : InstD} {p : PlanD} (hok : PlanOk x p) : SoonI x (drAll x p) (flatT (soonD x p)) (soonTrucks x p.trucks).ready :=
  bikes_inv (good_of hok.inst) p.bikes _ _ hok.bike (trucks_inv (good_of hok.inst) p.trucks _ _ (fun t ht => (hok.truck t ht).2) (start_inv x))
end Go.Proofs.Ytafhjfkdlmijdaa
/- How great a plan that may be is, and so what clock.draft makes of it. No program in sight. -/
namespace Go.Proofs.Ytafhjfkdlmijdaa
open Go.RowKit

theorem bit_or (m k i : Nat) : (m ||| 2 ^ k).testBit i = (m.testBit i || decide (k = i)) := by
  rw [Nat.testBit_or, Nat.testBit_two_pow]
theorem stops_nodup {x : InstD} : ∀ (l : List StopD) (m : Nat) (left : Int) (r : Nat × Int), l.foldl (stopSt x) (some (m, left)) = some r → (l.map fun s => s.sat.toNat).Nodup ∧ ∀ s ∈ l, m.testBit s.sat.toNat = false
  | [], _, _, _, _ => ⟨List.nodup_nil, fun s hs => by cases hs⟩
  | a :: l, m, left, r, h => by
    rw [List.foldl_cons] at h
    cases hb : stopBad x m a
    · rw [stopSt_ok hb] at h
      obtain ⟨h1, h2⟩ := stops_nodup l _ _ r h
      have hm : m.testBit a.sat.toNat = false := by
        simp only [stopBad, Bool.or_eq_false_iff] at hb; exact hb.1.1.2
      refine ⟨?_, fun s hs => ?_⟩
      · rw [List.map_cons, List.nodup_cons]
        refine ⟨fun hin => ?_, h1⟩
        obtain ⟨s, hs, e⟩ := List.mem_map.1 hin
        have := h2 s hs
        rw [bit_or, Bool.or_eq_false_iff] at this
        exact absurd e.symm (by simpa using this.2)
      · rcases List.mem_cons.1 hs with rfl | hs
        · exact hm
        · have := h2 s hs
          rw [bit_or, Bool.or_eq_false_iff] at this
          exact this.1
    · rw [stopSt_bad hb, stops_none] at h; cases h
theorem custs_nodup {x : InstD} : ∀ (l : List Int) (m : Nat) (left : Int) (r : Nat × Int), l.foldl (custSt x) (some (m, left)) = some r → (l.map Int.toNat).Nodup ∧ (∀ s ∈ l, m.testBit s.toNat = false) ∧ (∀ i, r.1.testBit i = false → m.testBit i = false) ∧ ∀ s ∈ l, r.1.testBit s.toNat = true
  | [], m, left, r, h => by
    cases h
    exact ⟨List.nodup_nil, (fun s hs => by cases hs), fun _ h => h, fun s hs => by cases hs⟩
  | a :: l, m, left, r, h => by
    rw [List.foldl_cons] at h
    cases hb : custBad x m a
    · rw [custSt_ok hb] at h
      obtain ⟨h1, h2, h3, h4⟩ := custs_nodup l _ _ r h
      have hm : m.testBit a.toNat = false := by
        simp only [custBad, Bool.or_eq_false_iff] at hb; exact hb.2
      refine ⟨?_, fun s hs => ?_, fun i hi => ?_, fun s hs => ?_⟩
      · rw [List.map_cons, List.nodup_cons]
        refine ⟨fun hin => ?_, h1⟩
        obtain ⟨s, hs, e⟩ := List.mem_map.1 hin
        have := h2 s hs
        rw [bit_or, Bool.or_eq_false_iff] at this
        exact absurd e.symm (by simpa using this.2)
      · rcases List.mem_cons.1 hs with rfl | hs
        · exact hm
        · have := h2 s hs
          rw [bit_or, Bool.or_eq_false_iff] at this
          exact this.1
      · have := h3 i hi
        rw [bit_or, Bool.or_eq_false_iff] at this
        exact this.1
      · rcases List.mem_cons.1 hs with rfl | hs
        · cases hr : r.1.testBit s.toNat
          · have := h3 _ hr
            rw [bit_or, Bool.or_eq_false_iff] at this
            exact absurd this.2 (by simp)
          · rfl
        · exact h4 s hs
    · rw [custSt_bad hb, custs_none] at h; cases h
theorem bikeGo_nodup {x : InstD} : ∀ (l : List BikeD) (m : Nat) (d : Bool), (bikeGo x l m d).1 = true → ((l.flatMap BikeD.stops).map Int.toNat).Nodup ∧ ∀ b ∈ l, ∀ c ∈ b.stops, m.testBit c.toNat = false
  | [], _, _, _ => ⟨List.nodup_nil, fun b hb => by cases hb⟩
  | a :: l, m, d, h => by
    cases ha : bikeBad x a
    case true => rw [bikeGo_bad ha] at h; cases h
    cases hs : bikeSt x m a.stops with
    | none => rw [bikeGo_none hs] at h; cases h
    | some q =>
      obtain ⟨m', left⟩ := q
      rw [bikeGo_ok ha hs] at h
      obtain ⟨h1, h2, h3, h4⟩ := custs_nodup _ _ _ _ hs
      obtain ⟨g1, g2⟩ := bikeGo_nodup l _ _ h
      refine ⟨?_, fun b hb c hc => ?_⟩
      · rw [List.flatMap_cons, List.map_append, List.nodup_append]
        refine ⟨h1, g1, fun i hi j hj e => ?_⟩
        obtain ⟨c, hc, rfl⟩ := List.mem_map.1 hi
        obtain ⟨c', hc', rfl⟩ := List.mem_map.1 hj
        obtain ⟨b, hb, hc'⟩ := List.mem_flatMap.1 hc'
        have e1 := h4 c hc
        have e2 := g2 b hb c' hc'
        rw [e] at e1
        simp only at e1 e2
        rw [e1] at e2; cases e2
      · rcases List.mem_cons.1 hb with rfl | hb
        · exact h2 c hc
        · exact h3 _ (g2 b hb c hc)
theorem truckGo_len {x : InstD} : ∀ (l : List (List StopD)) (r d : Bool), (truckGo x l r d).1 = true → ∀ t ∈ l, (t.map fun s => s.sat.toNat).Nodup
  | [], _, _, _, t, ht => by cases ht
  | a :: l, r, d, h, t, ht => by
    cases ha : truckSt x a with
    | none => rw [truckGo_bad ha] at h; cases h
    | some q =>
      obtain ⟨m, left⟩ := q
      rw [truckGo_ok ha] at h
      rcases List.mem_cons.1 ht with rfl | ht
      · exact (stops_nodup _ _ _ _ ha).1
      · exact truckGo_len l _ _ h t ht
theorem sum_le_mul (l : List Nat) (n : Nat) (h : ∀ v ∈ l, v ≤ n) : l.sum ≤ l.length * n := by
  induction l with
  | nil => simp
  | cons a l ih =>
    have h1 := h a List.mem_cons_self
    have h2 := ih fun v hv => h v (List.mem_cons_of_mem _ hv)
    rw [List.sum_cons, List.length_cons, Nat.add_mul, Nat.one_mul]; omega
theorem len_le_sum (l : List Nat) (h : ∀ v ∈ l, 1 ≤ v) : l.length ≤ l.sum := by
  induction l with
  | nil => simp
  | cons a l ih =>
    have h1 := h a List.mem_cons_self
    have h2 := ih fun v hv => h v (List.mem_cons_of_mem _ hv)
    rw [List.sum_cons, List.length_cons]; omega
structure PlanBd (x : InstD) (p : PlanD) : Prop where
  ok : PlanOk x p
  tl : p.trucks.length ≤ 60
  t : tstopsUp p.trucks p.trucks.length ≤ 720
  t1 : ∀ t ∈ p.trucks, t.length ≤ 12
  b : p.bikes.length ≤ 6
  s : stopsUp p.bikes p.bikes.length ≤ 6
theorem planBd_of {x : InstD} {p : PlanD} (h : planCheck x p = 0) (hn : x.custs.length ≤ 6) : PlanBd x p := by
  have hok := planOk_of h
  have gd := good_of hok.inst
  have h2 : (trucksB x p.trucks).1 = true ∧ (bikesB x p.bikes).1 = true := by
    unfold planCheck at h
    rw [if_neg (by simpa using hok.inst)] at h
    split at h
    · cases h
    split at h
    · cases h
    rename_i h2
    simpa using h2
  have ht1 : ∀ t ∈ p.trucks, t.length ≤ 12 := fun t ht => by
    have h3 := truckGo_len _ _ _ h2.1 t ht
    have h4 := nodup_lt_len h3 (n := x.sats.length) fun i hi => by
      obtain ⟨s, hs, rfl⟩ := List.mem_map.1 hi
      have := ((hok.truck t ht).2 s hs).1; omega
    rw [List.length_map] at h4
    have := gd.sats; omega
  have htl : p.trucks.length ≤ 60 := by have := hok.many; have := gd.tmany; omega
  have hs : stopsUp p.bikes p.bikes.length ≤ 6 := by
    have h3 := (bikeGo_nodup _ _ _ h2.2).1
    have h4 := nodup_lt_len h3 (n := x.custs.length) fun i hi => by
      obtain ⟨c, hc, rfl⟩ := List.mem_map.1 hi
      obtain ⟨b, hb, hc⟩ := List.mem_flatMap.1 hc
      have := (hok.bike b hb).2.2 c hc; unfold CustOk at this; omega
    rw [List.length_map, List.length_flatMap] at h4
    unfold stopsUp
    rw [List.take_length]; omega
  refine ⟨hok, htl, ?_, ht1, ?_, hs⟩
  · unfold tstopsUp
    rw [List.take_length]
    have := sum_le_mul (p.trucks.map List.length) 12 fun v hv => by
      obtain ⟨t, ht, rfl⟩ := List.mem_map.1 hv; exact ht1 t ht
    rw [List.length_map] at this; omega
  · have := len_le_sum (p.bikes.map fun b => b.stops.length) fun v hv => by
      obtain ⟨b, hb, rfl⟩ := List.mem_map.1 hv; exact (hok.bike b hb).2.1
    unfold stopsUp at hs
    rw [List.take_length] at hs
    rw [List.length_map] at this; omega
theorem PlanBd.fr {x : InstD} {p : PlanD} (h : PlanBd x p) : (drAll x p).fr.length = tstopsUp p.trucks p.trucks.length + stopsUp p.bikes p.bikes.length + 2 * p.bikes.length ∧ (drAll x p).arcs.length ≤ 20000 := by
  have gd := good_of h.ok.inst
  have h1 := trucks_ok (fun t ht => (h.ok.truck t ht).2) p.trucks.length (Nat.le_refl _)
  obtain ⟨m, hm, h2⟩ := bikes_ok gd h.ok.bike h1 p.bikes.length (Nat.le_refl _)
  rw [List.take_length, List.take_length] at h2
  have h3 : DrOk x (drAll x p) _ _ := h2
  refine ⟨h3.frL, Nat.le_trans h3.arL (Nat.le_trans hm ?_)⟩
  have hb := h.b
  have ht := h.t
  have hs := h.s
  have h5 : evUp (tstopsUp p.trucks p.trucks.length) p.bikes p.bikes.length ≤ 738 := by unfold evUp; omega
  exact Nat.le_trans (Nat.mul_le_mul h5 (show p.bikes.length + 1 ≤ 7 by omega)) (by decide)
theorem PlanBd.graph {x : InstD} {p : PlanD} (h : PlanBd x p) : GGood ⟨(drAll x p).fr.length, (drAll x p).arcs⟩ := by
  have hb := h.b
  have ht := h.t
  have hs := h.s
  exact ⟨by show (drAll x p).fr.length ≤ 1000; rw [h.fr.1]; omega, h.fr.2, (soon_inv h.ok).arc⟩
/-- What order.Late answers on what clock.draft makes is the soonest times. -/
theorem PlanBd.late {x : InstD} {p : PlanD} (h : PlanBd x p) {d : List Int} (hd : LateOf ⟨(drAll x p).fr.length, (drAll x p).arcs⟩ (drAll x p).fr d) : d = flatT (soonD x p) :=
  LateOf.unique (fun a ha => ⟨((soon_inv h.ok).arc a ha).1, ((soon_inv h.ok).arc a ha).2.1⟩) hd (soon_inv h.ok).late
end Go.Proofs.Ytafhjfkdlmijdaa
/- Times as data lie in a world; clock.Check in plain words. -/
namespace Go.Proofs.Ytafhjfkdlmijdaa
open Go.RowKit

def rideS : Shape RideD where
  sz := 3
  rep := fun w F x cs => ∃ v, cs = [.int .i64 x.out, v, .int .i64 x.back] ∧ wf64 x.out ∧ wf64 x.back ∧ (sliceS intS).rep w F x.starts [v]
  len := by rintro w F x cs ⟨v, rfl, _⟩; rfl
  keep := by rintro w w' F x cs ⟨v, rfl, h1, h1', h2⟩ ha; exact ⟨v, rfl, h1, h1', (sliceS intS).keep h2 ha⟩
  weak := by rintro w F G x cs ⟨v, rfl, h1, h1', h2⟩ ha; exact ⟨v, rfl, h1, h1', (sliceS intS).weak h2 ha⟩
  lt := by rintro w F x cs ⟨v, rfl, h1, h1', h2⟩; exact ⟨v, rfl, h1, h1', (sliceS intS).lt h2⟩
def ridesS : Shape (List RideD) := sliceS rideS
def timesS : Shape TimesD where
  sz := 2
  rep := fun w F x cs => ∃ t b, cs = [t, b] ∧ rowsS.rep w F x.trucks [t] ∧ ridesS.rep w F x.bikes [b]
  len := by rintro w F x cs ⟨t, b, rfl, _⟩; rfl
  keep := by rintro w w' F x cs ⟨t, b, rfl, h1, h2⟩ ha; exact ⟨t, b, rfl, rowsS.keep h1 ha, ridesS.keep h2 ha⟩
  weak := by rintro w F G x cs ⟨t, b, rfl, h1, h2⟩ ha; exact ⟨t, b, rfl, rowsS.weak h1 ha, ridesS.weak h2 ha⟩
  lt := by rintro w F x cs ⟨t, b, rfl, h1, h2⟩; exact ⟨t, b, rfl, rowsS.lt h1, ridesS.lt h2⟩
theorem rides_open {w : World} {F : Nat → Prop} {xs : List RideD} {cs : List Value} (h : ridesS.rep w F xs cs) :
    ∃ (a : Option Addr) (b off c : Nat), cs = [.slice a xs.length c] ∧ xs.length ≤ c ∧ c ≤ 9223372036854775807 ∧ (0 < xs.length → a = some ⟨b, off, none⟩) ∧ (0 < xs.length → F b) ∧
      ∀ k (h : k < xs.length), ∃ v, w.cell? ⟨b, off + k * 3, none⟩ = some (.int .i64 xs[k].out) ∧ w.cell? ⟨b, off + k * 3 + 1, none⟩ = some v ∧ w.cell? ⟨b, off + k * 3 + 2, none⟩ = some (.int .i64 xs[k].back) ∧ wf64 xs[k].out ∧ wf64 xs[k].back ∧ (sliceS intS).rep w F xs[k].starts [v] := by
  obtain ⟨a, b, off, c, rfl, h1, h2, h3, h4⟩ := h
  refine ⟨a, b, off, c, rfl, h1, h2, fun h => (h3 h).1, fun h => (h3 h).2, fun k hk => ?_⟩
  obtain ⟨es, ⟨v, rfl, hw, hw', hr⟩, hc⟩ := h4 k hk
  have e0 := hc 0 (by decide)
  have e1 := hc 1 (by decide)
  have e2 := hc 2 (by decide)
  exact ⟨v, by simpa [rideS] using e0, by simpa [rideS] using e1, by simpa [rideS] using e2, hw, hw', hr⟩

/-- A truck, so far as it is gone through. -/
structure TkS where
  now : Int
  node : Int
  ready : List Int
def betw (a f t : Int) : Bool := decide (f ≤ a) && decide (a ≤ t)
def tkStep (x : InstD) (st : TkS) (s : StopD) (v : Int) : Option TkS :=
  if betw v (st.now + timeAt x st.node (1 + s.sat)) x.fin = true then some ⟨v, 1 + s.sat, st.ready.set s.sat.toNat (max (st.ready.getD s.sat.toNat 0) (v + holdOf x s.sat))⟩ else none
def truckUp (x : InstD) (t : List StopD) (l ready : List Int) : Nat → Option TkS
  | 0 => some ⟨0, 0, ready⟩
  | j + 1 => (truckUp x t l ready j).bind fun st => tkStep x st (t.getD j ⟨0, 0⟩) (l.getD j 0)
theorem truckUp_none {x : InstD} {t : List StopD} {l ready : List Int} {j : Nat} (h : truckUp x t l ready j = none) : ∀ m, truckUp x t l ready (j + m) = none
  | 0 => h
  | m + 1 => by rw [← Nat.add_assoc]; simp only [truckUp, truckUp_none h m, Option.bind_none]
/-- clock.truck: when all satellites are ready behind it, if it can be. -/
def truckC (x : InstD) (t : List StopD) (l ready : List Int) : Option (List Int) :=
  (truckUp x t l ready t.length).bind fun st => if st.now + timeAt x st.node 0 ≤ x.fin then some st.ready else none
def trucksUp (x : InstD) (p : PlanD) (t : TimesD) : Nat → Option (List Int)
  | 0 => some (List.replicate x.sats.length 0)
  | k + 1 => (trucksUp x p t k).bind fun r => truckC x (p.trucks.getD k []) (t.trucks.getD k []) r
theorem trucksUp_none {x : InstD} {p : PlanD} {t : TimesD} {j : Nat} (h : trucksUp x p t j = none) : ∀ m, trucksUp x p t (j + m) = none
  | 0 => h
  | m + 1 => by rw [← Nat.add_assoc]; simp only [trucksUp, trucksUp_none h m, Option.bind_none]
structure BkS where
  now : Int
  node : Int
def bkStep (x : InstD) (st : BkS) (c v : Int) : Option BkS :=
  if betw v (max (custD x c).opn (st.now + timeAt x st.node (1 + x.sats.length + c))) (min (custD x c).cls x.fin) = true then some ⟨v + (custD x c).stay, 1 + x.sats.length + c⟩ else none
def bikeUp (x : InstD) (b : BikeD) (r : RideD) : Nat → Option BkS
  | 0 => some ⟨r.out, 1 + b.sat⟩
  | j + 1 => (bikeUp x b r j).bind fun st => bkStep x st (b.stops.getD j 0) (r.starts.getD j 0)
theorem bikeUp_none {x : InstD} {b : BikeD} {r : RideD} {j : Nat} (h : bikeUp x b r j = none) : ∀ m, bikeUp x b r (j + m) = none
  | 0 => h
  | m + 1 => by rw [← Nat.add_assoc]; simp only [bikeUp, bikeUp_none h m, Option.bind_none]
/-- clock.bike: can it be? -/
def bikeC (x : InstD) (b : BikeD) (r : RideD) (ready : List Int) : Bool :=
  betw r.out (ready.getD b.sat.toNat 0) x.fin && match bikeUp x b r b.stops.length with
    | none => false
    | some st => betw r.back (st.now + timeAt x st.node (1 + b.sat)) x.fin
def rideAt (t : TimesD) (k : Nat) : RideD := t.bikes.getD k ⟨0, [], 0⟩
def bikesUp (x : InstD) (p : PlanD) (t : TimesD) (ready : List Int) (k : Nat) : Bool := (List.range k).all fun i => bikeC x (p.bikes.getD i ⟨0, []⟩) (rideAt t i) ready
def fitsT (p : PlanD) (t : TimesD) (k : Nat) : Bool := (List.range k).all fun i => decide ((t.trucks.getD i []).length = (p.trucks.getD i []).length)
def fitsB (p : PlanD) (t : TimesD) (k : Nat) : Bool := (List.range k).all fun i => decide ((rideAt t i).starts.length = (p.bikes.getD i ⟨0, []⟩).stops.length)
def fitsD (p : PlanD) (t : TimesD) : Bool := (decide (t.trucks.length = p.trucks.length) && decide (t.bikes.length = p.bikes.length)) && (fitsT p t p.trucks.length && fitsB p t p.bikes.length)
/-- What holds of times, of a plan that may be, with as many of them. -/
def canC (x : InstD) (p : PlanD) (t : TimesD) : Bool := match trucksUp x p t p.trucks.length with
  | none => false
  | some r => bikesUp x p t r p.bikes.length
/-- clock.Check -/
def clockCheck (x : InstD) (p : PlanD) (t : TimesD) : Int :=
  if planCheck x p ≠ 0 then planCheck x p else if fitsD p t = false then 4 else if canC x p t = false then 12 else 0
theorem all_succ (f : Nat → Bool) (k : Nat) : (List.range (k + 1)).all f = ((List.range k).all f && f k) := by
  rw [List.range_succ, List.all_append]; simp
end Go.Proofs.Ytafhjfkdlmijdaa
/- clock.between and clock.fits. -/
namespace Go.Proofs.Ytafhjfkdlmijdaa
open Go.RowKit

theorem between_c {w : World} (a f t : Int) :
    Calls Try.prog 100 #[.int .i64 a, .int .i64 f, .int .i64 t] w fun e w' => e = .returned (.bool (betw a f t)) ∧ Below w.heap.size w w' := by
  go_enter Try.func100, Try.ntmps100
  by_cases h1 : f ≤ a
  · have h1' : a ≥ f := h1
    go_wp2
    go_ret
    refine ⟨?_, Below.refl _ _⟩
    simp [betw, h1]
  · have h1' : ¬ (a ≥ f) := h1
    go_wp2
    go_ret
    refine ⟨?_, Below.refl _ _⟩
    unfold betw
    rw [decide_eq_false (by omega)]; rfl

theorem sz_ride : ∀ w, (sizeOf 85).run Try.prog w = .ok 3 w := fun w => by kernel_rfl
/-- Two arguments laid down, and nothing else changed. -/
structure FSt (w0 : World) (e1 e2 : TypeId) (ps ts : List Value) (w : World) : Prop where
  bel : Below w0.heap.size w0 w
  one : Row w w0.heap.size e1 ps
  two : Row w (w0.heap.size + 1) e2 ts
theorem FSt.below {w0 w w' : World} {e1 e2 : TypeId} {ps ts : List Value} (h : FSt w0 e1 e2 ps ts w) (hb : Below w.heap.size w w') : FSt w0 e1 e2 ps ts w' := ⟨below_step h.bel hb, h.one.below hb, h.two.below hb⟩
theorem FSt.start (w0 : World) (e1 e2 : TypeId) (ps ts : List Value) : FSt w0 e1 e2 ps ts ((w0.alloc (.cells ps.toArray e1)).alloc (.cells ts.toArray e2)) := by
  have h1 := (Row.new (w := w0) (g := w0.heap.size) (e := e1) (cs := ps) rfl).alloc (.cells ts.toArray e2)
  have h2 := Row.new (w := w0.alloc (.cells ps.toArray e1)) (e := e2) (cs := ts) rfl
  rw [show (w0.alloc (.cells ps.toArray e1)).heap.size = w0.heap.size + 1 by simp] at h2
  exact ⟨((Below.refl _ _).alloc (Nat.le_refl _) _).alloc (by simp) _, h1, h2⟩
theorem FSt.alloc {w0 w : World} {e1 e2 : TypeId} {ps ts : List Value} (h : FSt w0 e1 e2 ps ts w) (b : Obj) : FSt w0 e1 e2 ps ts (w.alloc b) := h.below ((Below.refl _ _).alloc (Nat.le_refl _) b)
theorem FSt.drewN {w0 w : World} {e1 e2 : TypeId} {ps ts : List Value} (h : FSt w0 e1 e2 ps ts w) (n : Nat) : FSt w0 e1 e2 ps ts (w.drewN n) := h.below (below_drewN (Below.refl _ _) n)
set_option maxRecDepth 100000 in
set_option maxHeartbeats 1600000 in
theorem fits_c {w : World} {F G : Nat → Prop} {p : PlanD} {t : TimesD} {ps ts : List Value} (hp : planS.rep w F p ps) (ht : timesS.rep w G t ts) (hl1 : t.trucks.length = p.trucks.length) (hl2 : t.bikes.length = p.bikes.length) (hT : p.trucks.length ≤ 60) (hB : p.bikes.length ≤ 60)
    (hT1 : ∀ t ∈ p.trucks, t.length ≤ 60) (hB1 : ∀ b ∈ p.bikes, b.stops.length ≤ 60) :
    Calls Try.prog 75 #[.agg ps.toArray, .agg ts.toArray] w fun e w' => e = .returned (.bool (fitsT p t p.trucks.length && fitsB p t p.bikes.length)) ∧ Below w.heap.size w w' := by
  obtain ⟨tv, bv, rfl, h3, h4⟩ := hp
  obtain ⟨a2, b2, off2, c2, hs2, hlc2, hc2, ha2, -, hcell2⟩ := trucks_open h3
  obtain rfl := List.cons.inj hs2 |>.1
  obtain ⟨a4, b4, off4, c4, hs4, hlc4, hc4, ha4, -, hcell4⟩ := bikes_open h4
  obtain rfl := List.cons.inj hs4 |>.1
  obtain ⟨tv, bv, rfl, h5, h6⟩ := ht
  obtain ⟨a5, b5, off5, c5, hs5, hlc5, hc5, ha5, -, hcell5⟩ := rows_open h5
  obtain rfl := List.cons.inj hs5 |>.1
  obtain ⟨a6, b6, off6, c6, hs6, hlc6, hc6, ha6, -, hcell6⟩ := rides_open h6
  obtain rfl := List.cons.inj hs6 |>.1
  clear hs2 hs4 hs5 hs6 h3 h4 h5 h6
  rw [hl1] at hlc5 ha5
  rw [hl2] at hlc6 ha6
  have HCELL2 := hid hcell2
  have HCELL4 := hid hcell4
  have HCELL5 := hid hcell5
  have HCELL6 := hid hcell6
  have HL1 := hid hl1
  have HL2 := hid hl2
  have HT1 := hid hT1
  have HB1 := hid hB1
  rw [hl1, hl2]
  have hs0 := FSt.start w 46 54 [.slice a2 p.trucks.length c2, .slice a4 p.bikes.length c4] [.slice a5 p.trucks.length c5, .slice a6 p.bikes.length c6]
  obtain ⟨p0, p1⟩ := row2 hs0.one
  obtain ⟨t0, t1⟩ := row2 hs0.two
  clear hcell2 hcell4 hcell5 hcell6 hl1 hl2 hT1 hB1
  go_enter Try.func75, Try.ntmps75
  go_upto_region 1 with fail
  generalize (w.alloc (.cells #[.slice a2 p.trucks.length c2, .slice a4 p.bikes.length c4] 46)).alloc (.cells #[.slice a5 p.trucks.length c5, .slice a6 p.bikes.length c6] 54) = wz at hs0 p0 p1 t0 t1 ⊢
  have HS0 := hid hs0
  clear hs0
  go_wp2
  go_loopw [5, 29] (fun ov kv wr => ∃ k : Nat, k ≤ p.trucks.length ∧ kv = .int .i64 k ∧ ov = .bool (fitsT p t k) ∧ FSt w 46 54 [.slice a2 p.trucks.length c2, .slice a4 p.bikes.length c4] [.slice a5 p.trucks.length c5, .slice a6 p.bikes.length c6] wr) (fun _ kv _ => p.trucks.length - (intOf kv).toNat)
  case atStart => exact ⟨0, Nat.zero_le _, rfl, rfl, HS0.out⟩
  case round =>
    clear p0 p1 t0 t1 HS0
    obtain ⟨k, hk, rfl, rfl, hst⟩ := hrel
    obtain ⟨wo, rfl⟩ : ∃ wo : World, wo = wr := ⟨_, rfl⟩
    have HST := hid hst
    obtain ⟨p0, p1⟩ := row2 hst.one
    obtain ⟨t0, t1⟩ := row2 hst.two
    by_cases hlt : k < p.trucks.length
    · have hx := idx_at1 (c := c2) Try.underlying39 sz_truck (ha2 (by omega)) hlt
      have hx5 := idx_at1 (c := c5) Try.underlying31 sz_row (ha5 (by omega)) hlt
      obtain ⟨sv, g0, hr⟩ := HCELL2.out k hlt
      obtain ⟨a3, b3, off3, c3, hs3, hl3, hc3, -, -, -, -⟩ := stops_open hr
      obtain rfl := List.cons.inj hs3 |>.1
      obtain ⟨sv, g1, hr⟩ := HCELL5.out k (by rw [HL1.out]; exact hlt)
      obtain ⟨a7, b7, off7, c7, hs7, hl7, hc7, -, -, -, -⟩ := ints_open hr
      obtain rfl := List.cons.inj hs7 |>.1
      have g0 := below_cell hst.bel g0
      have g1 := below_cell hst.bel g1
      have htl := HT1.out _ (List.getElem_mem hlt)
      have HF := hid (show fitsT p t (k + 1) = (fitsT p t k && decide ((t.trucks[k]'(by rw [HL1.out]; exact hlt)).length = p.trucks[k].length)) from by
        unfold fitsT
        rw [all_succ, List.getD_eq_getElem?_getD, List.getD_eq_getElem?_getD, List.getElem?_eq_getElem hlt, List.getElem?_eq_getElem (by rw [HL1.out]; exact hlt)]
        rfl)
      obtain ⟨n1, hn1⟩ : ∃ n, n = (t.trucks[k]'(by rw [HL1.out]; exact hlt)).length := ⟨_, rfl⟩
      obtain ⟨n2, hn2⟩ : ∃ n, n = p.trucks[k].length := ⟨_, rfl⟩
      rw [← hn1, ← hn2] at HF
      rw [← hn1] at g1 hl7
      rw [← hn2] at g0 hl3 htl
      obtain ⟨ok, hok⟩ : ∃ b, b = fitsT p t k := ⟨_, rfl⟩
      rw [← hok] at HF ⊢
      have hal : Below wo.heap.size wo (wo.alloc (.cells #[.slice a3 n2 c3] 108)) := (Below.refl _ _).alloc (Nat.le_refl _) _
      have q0 := below_cell hal t0
      have q1 := below_cell hal g1
      have q2 := (Row.new (w := wo) (g := wo.heap.size) (e := 108) (cs := [.slice a3 n2 c3]) rfl).cell (j := 0) (by simp)
      simp only [List.getElem_cons_zero] at q2
      have HS1 := hid (HST.out.below hal)
      obtain ⟨X, hX⟩ : ∃ X, X = wo.heap.size := ⟨_, rfl⟩
      rw [← hX] at q2
      clear hs3 hs7 hr hn1 hn2 hok hst hal
      go_upto_region 5 with fail
      rw [← hX]
      generalize wo.alloc (.cells #[.slice a3 n2 c3] 108) = wq at HS1 q0 q1 q2 ⊢
      clear hX p0 p1 t0 t1 g0 g1
      cases ok
      · go_wp2
        go_quiet (fail)
        go_wp2
        go_roundw
        case rel => exact ⟨k + 1, by omega, by go_num, by rw [HF.out]; rfl, HS1.out.drewN _⟩
        case measure => simp [intOf]; omega
      · go_wp2
        go_quiet (fail)
        go_wp2
        go_roundw
        case rel => exact ⟨k + 1, by omega, by go_num, by rw [HF.out, Bool.true_and]; exact congrArg Value.bool (beq_ofNat _ _), HS1.out.drewN _⟩
        case measure => simp [intOf]; omega
    · obtain rfl : k = p.trucks.length := by omega
      obtain ⟨ot, hot⟩ : ∃ b, b = fitsT p t p.trucks.length := ⟨_, rfl⟩
      rw [← hot]
      go_wp2
      go_loopw [5, 51] (fun ov kv wr => ∃ k : Nat, k ≤ p.bikes.length ∧ kv = .int .i64 k ∧ ov = .bool (ot && fitsB p t k) ∧ FSt w 46 54 [.slice a2 p.trucks.length c2, .slice a4 p.bikes.length c4] [.slice a5 p.trucks.length c5, .slice a6 p.bikes.length c6] wr) (fun _ kv _ => p.bikes.length - (intOf kv).toNat)
      case atStart => exact ⟨0, Nat.zero_le _, rfl, by simp [fitsB], HST.out⟩
      case round =>
        clear p0 p1 t0 t1 HST hst
        obtain ⟨k, hk, rfl, rfl, hst⟩ := hrel
        obtain ⟨wo, rfl⟩ : ∃ wo : World, wo = wr := ⟨_, rfl⟩
        have HST := hid hst
        obtain ⟨p0, p1⟩ := row2 hst.one
        obtain ⟨t0, t1⟩ := row2 hst.two
        by_cases hlt : k < p.bikes.length
        · have hx := idx_at (c := c4) Try.underlying44 sz_bike (ha4 (by omega)) hlt
          have hx5 := idx_at (c := c6) Try.underlying52 sz_ride (ha6 (by omega)) hlt
          obtain ⟨sv, g0, g00, -, hr⟩ := HCELL4.out k hlt
          obtain ⟨a3, b3, off3, c3, hs3, hl3, hc3, -, -, -, -⟩ := ints_open hr
          obtain rfl := List.cons.inj hs3 |>.1
          obtain ⟨sv, -, g1, -, -, -, hr⟩ := HCELL6.out k (by rw [HL2.out]; exact hlt)
          obtain ⟨a7, b7, off7, c7, hs7, hl7, hc7, -, -, -, -⟩ := ints_open hr
          obtain rfl := List.cons.inj hs7 |>.1
          have g0 := below_cell hst.bel g0
          have g00 := below_cell hst.bel g00
          have g1 := below_cell hst.bel g1
          have htl := HB1.out _ (List.getElem_mem hlt)
          have HF := hid (show fitsB p t (k + 1) = (fitsB p t k && decide ((t.bikes[k]'(by rw [HL2.out]; exact hlt)).starts.length = p.bikes[k].stops.length)) from by
            unfold fitsB rideAt
            rw [all_succ, List.getD_eq_getElem?_getD, List.getD_eq_getElem?_getD, List.getElem?_eq_getElem hlt, List.getElem?_eq_getElem (by rw [HL2.out]; exact hlt)]
            rfl)
          obtain ⟨n1, hn1⟩ : ∃ n, n = (t.bikes[k]'(by rw [HL2.out]; exact hlt)).starts.length := ⟨_, rfl⟩
          obtain ⟨n2, hn2⟩ : ∃ n, n = p.bikes[k].stops.length := ⟨_, rfl⟩
          obtain ⟨sa, hsa⟩ : ∃ n, n = p.bikes[k].sat := ⟨_, rfl⟩
          rw [← hn1, ← hn2] at HF
          rw [← hn1] at g1 hl7
          rw [← hn2] at g00 hl3 htl
          rw [← hsa] at g0
          have HFN := hid (show ∀ ok, ok = (ot && fitsB p t k) → (ot && fitsB p t (k + 1)) = (ok && decide (n1 = n2)) from fun ok h => by rw [h, HF.out, Bool.and_assoc])
          obtain ⟨ok, hok⟩ : ∃ b, b = (ot && fitsB p t k) := ⟨_, rfl⟩
          rw [← hok]
          have HF2 := hid (HFN.out ok hok)
          have hal : Below wo.heap.size wo (wo.alloc (.cells #[.int .i64 sa, .slice a3 n2 c3] 128)) := (Below.refl _ _).alloc (Nat.le_refl _) _
          have q0 := below_cell hal t1
          have q1 := below_cell hal g1
          have q2 := (Row.new (w := wo) (g := wo.heap.size) (e := 128) (cs := [.int .i64 sa, .slice a3 n2 c3]) rfl).cell (j := 1) (by simp)
          simp only [List.getElem_cons_succ, List.getElem_cons_zero] at q2
          have HS1 := hid (HST.out.below hal)
          obtain ⟨X, hX⟩ : ∃ X, X = wo.heap.size := ⟨_, rfl⟩
          rw [← hX] at q2
          clear hs3 hs7 hr hn1 hn2 hok hst hal hsa HF HFN
          go_upto_region 10 with fail
          rw [← hX]
          generalize wo.alloc (.cells #[.int .i64 sa, .slice a3 n2 c3] 128) = wq at HS1 q0 q1 q2 ⊢
          clear hX p0 p1 t0 t1 g0 g00 g1
          cases ok
          · go_wp2
            go_quiet (fail)
            go_wp2
            go_roundw
            case rel => exact ⟨k + 1, by omega, by go_num, by rw [HF2.out]; rfl, HS1.out.drewN _⟩
            case measure => simp [intOf]; omega
          · go_wp2
            go_quiet (fail)
            go_wp2
            go_roundw
            case rel => exact ⟨k + 1, by omega, by go_num, by rw [HF2.out, Bool.true_and]; exact congrArg Value.bool (beq_ofNat _ _), HS1.out.drewN _⟩
            case measure => simp [intOf]; omega
        · obtain rfl : k = p.bikes.length := by omega
          go_wp2
          go_ret
          exact ⟨by rw [hot]; rfl, HST.out.bel⟩
end Go.Proofs.Ytafhjfkdlmijdaa
