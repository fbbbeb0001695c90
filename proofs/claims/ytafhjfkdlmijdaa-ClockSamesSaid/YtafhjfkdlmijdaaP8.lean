/- Texts of the proof, joined: HaulFits, CanD, TimesOwn, More, Open, Open2, Law, Open3. -/
import Derived.BigQuiet
import Derived.Deep.DeepCutAuto
import Derived.Test.YtafhjfkdlmijdaaProg
import Derived.Deep.Slices
import Derived.OpenShut
import Derived.Test.YtafhjfkdlmijdaaRows
import Derived.ProofKit
import Derived.Test.YtafhjfkdlmijdaaCode
set_option linter.all false

namespace Go.Proofs.Ytafhjfkdlmijdaa
open Go.RowKit
structure CnS where
 ok : Bool
 now : Int
 node : Int
def cnStep (x : InstD) (st : CnS) (s : StopD) (v : Int) : CnS := ⟨st.ok && (decide (st.now ≤ v) && (decide (timeAt x st.node (1 + s.sat) ≤ v - st.now) && decide (v ≤ x.fin))), v, 1 + s.sat⟩
def cnUp (x : InstD) (t : List StopD) (l : List Int) (ok : Bool) : Nat → CnS
 | 0 => ⟨ok, 0, 0⟩
 | j + 1 => cnStep x (cnUp x t l ok j) (t.getD j ⟨0, 0⟩) (l.getD j 0)
def cnEnd (x : InstD) (st : CnS) : Bool := st.ok && (decide (st.now ≤ x.fin) && decide (st.now + timeAt x st.node 0 ≤ x.fin))
def cnTruck (x : InstD) (t : List StopD) (l : List Int) (ok : Bool) : Bool := cnEnd x (cnUp x t l ok t.length)
def cnTrucks (x : InstD) (p : PlanD) (t : TimesD) : Nat → Bool
 | 0 => true
 | k + 1 => cnTruck x (p.trucks.getD k []) (t.trucks.getD k []) (cnTrucks x p t k)
def waitStop (x : InstD) (sat out : Int) (s : StopD) (v : Int) : Bool := decide (s.sat ≠ sat) || decide (v + holdOf x sat ≤ out)
def waitStops (x : InstD) (sat out : Int) (t : List StopD) (l : List Int) (ok : Bool) : Nat → Bool
 | 0 => ok
 | j + 1 => waitStops x sat out t l ok j && waitStop x sat out (t.getD j ⟨0, 0⟩) (l.getD j 0)
def waitTrucks (x : InstD) (p : PlanD) (t : TimesD) (sat out : Int) (ok : Bool) : Nat → Bool
 | 0 => ok
 | k + 1 => waitStops x sat out (p.trucks.getD k []) (t.trucks.getD k []) (waitTrucks x p t sat out ok k) (p.trucks.getD k []).length
def cbGood (x : InstD) (st : BkS) (c v : Int) : Bool := decide ((custD x c).opn ≤ v) && (decide (v ≤ (custD x c).cls) && (decide (v ≤ x.fin) && decide (timeAt x st.node (1 + x.sats.length + c) ≤ v - st.now)))
def cbStep (x : InstD) (st : BkS) (c v : Int) : BkS := ⟨v + (custD x c).stay, 1 + x.sats.length + c⟩
def cbUp (x : InstD) (b : BikeD) (r : RideD) (ok : Bool) : Nat → Option BkS
 | 0 => some ⟨r.out, 1 + b.sat⟩
 | j + 1 => (cbUp x b r ok j).bind fun st => if (ok && cbGood x st (b.stops.getD j 0) (r.starts.getD j 0)) = true then some (cbStep x st (b.stops.getD j 0) (r.starts.getD j 0)) else none
def cbEnd (x : InstD) (b : BikeD) (r : RideD) (st : BkS) (ok : Bool) : Bool := ok && (decide (r.back ≤ x.fin) && (decide (st.now ≤ r.back) && decide (timeAt x st.node (1 + b.sat) ≤ r.back - st.now)))
def cbOk (x : InstD) (p : PlanD) (t : TimesD) (b : BikeD) (r : RideD) (ok : Bool) : Bool := waitTrucks x p t b.sat r.out (ok && (decide (0 ≤ r.out) && decide (r.out ≤ x.fin))) p.trucks.length
def cbBikes (x : InstD) (p : PlanD) (t : TimesD) : Nat → Option Bool
 | 0 => some true
 | k + 1 => (cbBikes x p t k).bind fun ok =>
  (cbUp x (p.bikes.getD k ⟨0, []⟩) (rideAt t k) (cbOk x p t (p.bikes.getD k ⟨0, []⟩) (rideAt t k) ok) (p.bikes.getD k ⟨0, []⟩).stops.length).map fun st =>
   cbEnd x (p.bikes.getD k ⟨0, []⟩) (rideAt t k) st (cbOk x p t (p.bikes.getD k ⟨0, []⟩) (rideAt t k) ok)
def canL (x : InstD) (p : PlanD) (t : TimesD) : Bool := cnTrucks x p t p.trucks.length && match cbBikes x p t p.bikes.length with
 | none => false
 | some b => b
structure TkRel (x : InstD) (t : List StopD) (l ready : List Int) (j : Nat) (st : TkS) : Prop where
 now : st.now = (cnUp x t l true j).now
 node : st.node = (cnUp x t l true j).node
 ok : (cnUp x t l true j).ok = true
 lo : 0 ≤ st.now
 len : st.ready.length = ready.length
 rdy : ∀ s, s < ready.length → ∀ v, st.ready.getD s 0 ≤ v ↔ ready.getD s 0 ≤ v ∧ ∀ i, i < j → (t.getD i ⟨0, 0⟩).sat = s → l.getD i 0 + holdOf x s ≤ v
theorem getD_mem {α : Type} {l : List α} {k : Nat} (h : k < l.length) (z : α) : l.getD k z ∈ l := by
 rw [List.getD_eq_getElem?_getD, List.getElem?_eq_getElem h]; exact List.getElem_mem h
end Go.Proofs.Ytafhjfkdlmijdaa
namespace Go.Proofs.Ytafhjfkdlmijdaa
open Go.RowKit
structure IOwn (TR TI : Nat) (w : World) (B : Nat) (v : Value) (out : List (List Int)) (vs : List Value) : Prop where
 own : w.ownsRow B TR 1 v out.length vs
 len : vs.length = out.length
 rows : ∀ i (h : i < out.length) (h' : i < vs.length), w.ownsRow B TI 1 vs[i] out[i].length (out[i].map intV)
section
variable {TR TI : Nat} {w w' : World} {B : Nat} {v v' u : Value} {out : List (List Int)} {vs : List Value}
theorem IOwn.nil (TR TI : Nat) (w : World) (B : Nat) : IOwn TR TI w B (.slice none 0 0) [] [] :=
 ⟨World.ownsRow_nil _ _ _ _, rfl, fun _ h => absurd h (Nat.not_lt_zero _)⟩
theorem IOwn.below (h : IOwn TR TI w B v out vs) (hb : Below w.heap.size w w') : IOwn TR TI w' B v out vs :=
 ⟨owns_below h.own hb, h.len, fun i h1 h2 => owns_below (h.rows i h1 h2) hb⟩
theorem IOwn.blockLt (h : IOwn TR TI w B v out vs) : ∀ i (hi : i < vs.length) b, vs[i].ownBlock = some b → B ≤ b ∧ b < w.heap.size := fun i hi b hb =>
 (h.rows i (by rw [← h.len]; exact hi) hi).lt b hb
theorem IOwn.keptSet {TP p j : Nat} {cs : List Value} (h : IOwn TR TI w B v out vs) (hr : Row w p TP cs) (h1 : TP ≠ TR) (h2 : TP ≠ TI) : IOwn TR TI (w.setCell ⟨p, j, none⟩ u) B v out vs :=
 ⟨owns_setApart h.own hr h1 j u, h.len, fun i k1 k2 => owns_setApart (h.rows i k1 k2) hr h2 j u⟩
theorem IOwn.mono {B' : Nat} (h : IOwn TR TI w B v out vs) (hb : B' ≤ B) : IOwn TR TI w B' v out vs :=
 ⟨owns_mono h.own hb, h.len, fun i h1 h2 => owns_mono (h.rows i h1 h2) hb⟩
theorem IOwn.keptOwn {T k n B' : Nat} {x : Value} {xs : List Value} (h : IOwn TR TI w B v out vs) (ho : w.ownsRow B' T k x n xs) (hg : w.grownBy w' x.ownBlock) (h1 : TR ≠ T) (h2 : TI ≠ T) : IOwn TR TI w' B v out vs :=
 ⟨h.own.kept hg (own_type h.own ho h1), h.len, fun i k1 k2 => (h.rows i k1 k2).kept hg (own_type (h.rows i k1 k2) ho h2)⟩
theorem IOwn.push {t : List Int} (h : IOwn TR TI w B v out vs) (hne : TI ≠ TR) (hg : w.grownBy w' v.ownBlock) (ho : w'.ownsRow B TR 1 v' (out.length + 1) (vs ++ [u])) (hu : w.ownsRow B TI 1 u t.length (t.map intV)) : IOwn TR TI w' B v' (out ++ [t]) (vs ++ [u]) := by
 refine ⟨by rw [List.length_append]; exact ho, by simp [h.len], fun i h1 h2 => ?_⟩
 by_cases hl : i < out.length
 ·have hl' : i < vs.length := by rw [h.len]; exact hl
  rw [List.getElem_append_left hl', List.getElem_append_left hl]
  exact (h.rows i hl hl').kept hg (own_type (h.rows i hl hl') h.own hne)
 ·have : i = out.length := by simp at h1; omega
  subst this
  have e1 : (vs ++ [u])[out.length]'h2 = u := by rw [List.getElem_append_right (by rw [h.len]; exact Nat.le_refl _)]; simp [h.len]
  have e2 : (out ++ [t])[out.length]'h1 = t := by rw [List.getElem_append_right (Nat.le_refl _)]; simp
  rw [e1, e2]
  exact hu.kept hg (own_type hu h.own hne)
theorem IOwn.rep (h : IOwn TR TI w B v out vs) (hw : ∀ t ∈ out, ∀ s ∈ t, wf64 s) : rowsS.rep w (fun b => B ≤ b) out [v] := by
 have hr : ∀ i (h1 : i < out.length) (h2 : i < vs.length), (sliceS intS).rep w (fun b => B ≤ b) out[i] [vs[i]] := fun i h1 h2 => owns_ints (h.rows i h1 h2) (hw _ (List.getElem_mem h1))
 rcases h.own.2 with ⟨rfl, hn⟩ | ⟨g, cap, cur, rfl, hg, hh, hn1, hc, hsz, ht⟩
 ·have : out = [] := List.eq_nil_of_length_eq_zero hn
  subst this
  exact nil_rep _ _ _
 ·have hR : Row w g TR vs := ⟨cur, cur.toList.drop (out.length * 1), hh, by rw [← ht, List.take_append_drop]⟩
  refine lit_rep (S := sliceS intS) (T := TR) (vs.map fun v => [v]) (by simp [h.len]) (fun v hv => by obtain ⟨u, _, rfl⟩ := List.mem_map.1 hv; rfl) (fun i h1 h2 => ?_) ?_ hn1 hc hg
  ·rw [List.getElem_map]; exact hr i h1 _
  ·have : (vs.map fun v => [v]).flatten = vs := by
    clear hR ht hr h
    induction vs with
    | nil => rfl
    | cons a l ih => rw [List.map_cons, List.flatten_cons, ih]; rfl
   rw [this]; exact hR
end
theorem ROwn.blockLt {TR TI : Nat} {w : World} {B : Nat} {v : Value} {out : List RideD} {vs : List Value} (h : ROwn TR TI w B v out vs) : ∀ i (hi : i < vs.length) b, vs[i].ownBlock = some b → B ≤ b ∧ b < w.heap.size := fun i hi b hb =>
 (h.rows i (by rw [← h.len]; exact hi) hi).lt b hb
theorem ROwn.mono {TR TI : Nat} {w : World} {B B' : Nat} {v : Value} {out : List RideD} {vs : List Value} (h : ROwn TR TI w B v out vs) (hb : B' ≤ B) : ROwn TR TI w B' v out vs :=
 ⟨owns_mono h.own hb, h.len, fun i h1 h2 => owns_mono (h.rows i h1 h2) hb⟩
def Sep (vs : List Value) : Prop := vs.Pairwise fun a b => a.ownBlock = none ∨ a.ownBlock ≠ b.ownBlock
theorem Sep.nil : Sep [] := List.Pairwise.nil
theorem Sep.push {vs : List Value} {u : Value} {n : Nat} (h : Sep vs) (hv : ∀ a ∈ vs, ∀ b, a.ownBlock = some b → b < n) (hu : ∀ b, u.ownBlock = some b → n ≤ b) : Sep (vs ++ [u]) := by
 refine List.pairwise_append.2 ⟨h, List.pairwise_singleton _ _, fun a ha b hb => ?_⟩
 obtain rfl := List.mem_singleton.1 hb
 cases e : a.ownBlock with
 | none => exact .inl rfl
 | some k => exact .inr fun e' => by have := hv a ha k e; have := hu k e'.symm; omega
structure SoonOk (x : InstD) (p : PlanD) : Prop where
 good : Good x
 tl : p.trucks.length ≤ 100000
 t1 : ∀ t ∈ p.trucks, t.length ≤ 100000 ∧ ∀ s ∈ t, 0 ≤ s.sat ∧ s.sat < x.sats.length
 bl : p.bikes.length ≤ 100000
 b1 : ∀ b ∈ p.bikes, b.stops.length ≤ 100000 ∧ (0 ≤ b.sat ∧ b.sat < x.sats.length) ∧ ∀ c ∈ b.stops, CustOk x c
structure SnTB (x : InstD) (st : SnT) : Prop where
 now : 0 ≤ st.now ∧ st.now ≤ st.l.length * 1000000000
 node : 0 ≤ st.node ∧ st.node < nodes x
 len : st.ready.length = x.sats.length
 rdy : ∀ v ∈ st.ready, 0 ≤ v ∧ v ≤ 200000000000000
 l : ∀ v ∈ st.l, 0 ≤ v ∧ v ≤ st.l.length * 1000000000
theorem SnTB.get {x : InstD} {st : SnT} (h : SnTB x st) (i : Nat) : 0 ≤ st.ready.getD i 0 ∧ st.ready.getD i 0 ≤ 200000000000000 := by
 rw [List.getD_eq_getElem?_getD]
 by_cases e : i < st.ready.length
 ·rw [List.getElem?_eq_getElem e]; exact h.rdy _ (List.getElem_mem e)
 ·rw [List.getElem?_eq_none (by omega)]; simp
theorem SnTB.step {x : InstD} (gd : Good x) {st : SnT} {s : StopD} (h : SnTB x st) (hl : st.l.length ≤ 100000) (hs : 0 ≤ s.sat ∧ s.sat < x.sats.length) : SnTB x (soonStop x st s) := by
 have h1 := h.now
 have h2 := timeAt_bd gd st.node (1 + s.sat)
 have h3 := hold_bd gd s.sat
 have h4 := h.get s.sat.toNat
 have hlen : (soonStop x st s).l.length = st.l.length + 1 := by simp [soonStop]
 refine ⟨?_, ?_, ?_, fun v hv => ?_, fun v hv => ?_⟩
 ·rw [hlen]; show 0 ≤ st.now + _ ∧ st.now + _ ≤ _; push_cast; omega
 ·show 0 ≤ 1 + s.sat ∧ 1 + s.sat < (nodes x : Int); unfold nodes; omega
 ·show (st.ready.set _ _).length = _; rw [List.length_set]; exact h.len
 ·rcases List.mem_or_eq_of_mem_set hv with hv | rfl
  ·exact h.rdy _ hv
  ·omega
 ·rw [hlen]
  rcases List.mem_append.1 (show v ∈ st.l ++ [st.now + timeAt x st.node (1 + s.sat)] from hv) with hv | hv
  ·have := h.l v hv; push_cast; omega
  ·obtain rfl := List.mem_singleton.1 hv
   push_cast; omega
theorem soonStop_up {x : InstD} (gd : Good x) {t : List StopD} {st : SnT} (h : SnTB x st) (hl : st.l = []) (ht : t.length ≤ 100000 ∧ ∀ s ∈ t, 0 ≤ s.sat ∧ s.sat < x.sats.length) : ∀ j, j ≤ t.length → SnTB x ((t.take j).foldl (soonStop x) st) ∧ ((t.take j).foldl (soonStop x) st).l.length = j
 | 0, _ => ⟨h, by simp [hl]⟩
 | j + 1, hj => by
  obtain ⟨h1, h2⟩ := soonStop_up gd h hl ht j (by omega)
  rw [take_last (show j < t.length by omega), List.foldl_append]
  exact ⟨h1.step gd (by omega) (ht.2 _ (List.getElem_mem _)), by simp [soonStop, h2]⟩
structure SnAB (x : InstD) (a : SnA) : Prop where
 len : a.ready.length = x.sats.length
 rdy : ∀ v ∈ a.ready, 0 ≤ v ∧ v ≤ 200000000000000
 ts : ∀ l ∈ a.ts, ∀ v ∈ l, 0 ≤ v ∧ v ≤ 200000000000000
theorem SnAB.start (x : InstD) (a : SnA) (h : SnAB x a) : SnTB x ⟨0, 0, a.ready, []⟩ :=
 ⟨⟨Int.le_refl _, by simp⟩, ⟨Int.le_refl _, by show (0 : Int) < (nodes x : Int); unfold nodes; omega⟩, h.len, h.rdy, fun v hv => by cases hv⟩
theorem soonTruck_up {x : InstD} {p : PlanD} (h : SoonOk x p) : ∀ k, k ≤ p.trucks.length → SnAB x (soonTrucks x (p.trucks.take k)) ∧ (soonTrucks x (p.trucks.take k)).ts.length = k
 | 0, _ => ⟨⟨List.length_replicate, fun v hv => by rw [List.eq_of_mem_replicate hv]; omega, fun l hl => by cases hl⟩, rfl⟩
 | k + 1, hk => by
  obtain ⟨h1, h2⟩ := soonTruck_up h k (by omega)
  have ht := h.t1 _ (List.getElem_mem (show k < p.trucks.length by omega))
  obtain ⟨g1, g2⟩ := soonStop_up h.good (h1.start x _) rfl ht _ (Nat.le_refl _)
  rw [List.take_length] at g1 g2
  have e : soonTrucks x (p.trucks.take (k + 1)) = soonTruck x (soonTrucks x (p.trucks.take k)) p.trucks[k] := by
   unfold soonTrucks
   rw [take_last (show k < p.trucks.length by omega), List.foldl_append]; rfl
  rw [e]
  refine ⟨⟨g1.len, g1.rdy, fun l hl v hv => ?_⟩, by simp [soonTruck, h2]⟩
  rcases List.mem_append.1 hl with hl | hl
  ·exact h1.ts l hl v hv
  ·obtain rfl := List.mem_singleton.1 hl
   have := g1.l v hv
   rw [g2] at this
   have := ht.1
   omega
structure SnBB (x : InstD) (st : SnB) : Prop where
 now : 0 ≤ st.now ∧ st.now ≤ 300000000000000 + st.starts.length * 3000000000
 node : 0 ≤ st.node ∧ st.node < nodes x
 l : ∀ v ∈ st.starts, 0 ≤ v ∧ v ≤ 300000000000000 + st.starts.length * 3000000000
theorem SnBB.step {x : InstD} (gd : Good x) {st : SnB} {c : Int} (h : SnBB x st) (hl : st.starts.length ≤ 100000) (hc : CustOk x c) : SnBB x (soonCust x st c) := by
 have h1 := h.now
 have h2 := timeAt_bd gd st.node (1 + x.sats.length + c)
 have h3 := custD_bd gd hc
 have hlen : (soonCust x st c).starts.length = st.starts.length + 1 := by simp [soonCust]
 refine ⟨?_, ?_, fun v hv => ?_⟩
 ·rw [hlen]; show 0 ≤ max _ _ + _ ∧ max _ _ + _ ≤ _; push_cast; omega
 ·show 0 ≤ 1 + (x.sats.length : Int) + c ∧ 1 + (x.sats.length : Int) + c < (nodes x : Int); unfold nodes CustOk at *; omega
 ·rw [hlen]
  rcases List.mem_append.1 (show v ∈ st.starts ++ [max (st.now + timeAt x st.node (1 + x.sats.length + c)) (custD x c).opn] from hv) with hv | hv
  ·have := h.l v hv; push_cast; omega
  ·obtain rfl := List.mem_singleton.1 hv
   push_cast; omega
theorem soonCust_up {x : InstD} (gd : Good x) {t : List Int} {st : SnB} (h : SnBB x st) (hl : st.starts = []) (ht : t.length ≤ 100000 ∧ ∀ c ∈ t, CustOk x c) : ∀ j, j ≤ t.length → SnBB x ((t.take j).foldl (soonCust x) st) ∧ ((t.take j).foldl (soonCust x) st).starts.length = j
 | 0, _ => ⟨h, by simp [hl]⟩
 | j + 1, hj => by
  obtain ⟨h1, h2⟩ := soonCust_up gd h hl ht j (by omega)
  rw [take_last (show j < t.length by omega), List.foldl_append]
  exact ⟨h1.step gd (by omega) (ht.2 _ (List.getElem_mem _)), by simp [soonCust, h2]⟩
theorem soonB_start {x : InstD} {ready : List Int} {b : BikeD} (hl : ready.length = x.sats.length) (hr : ∀ v ∈ ready, 0 ≤ v ∧ v ≤ 200000000000000) (hb : 0 ≤ b.sat ∧ b.sat < x.sats.length) : SnBB x ⟨ready.getD b.sat.toNat 0, 1 + b.sat, []⟩ := by
 have h1 : b.sat.toNat < ready.length := by omega
 have h2 := hr _ (getD_mem h1 0)
 exact ⟨by show 0 ≤ ready.getD b.sat.toNat 0 ∧ ready.getD b.sat.toNat 0 ≤ _; omega, by show 0 ≤ 1 + b.sat ∧ 1 + b.sat < (nodes x : Int); unfold nodes; omega, fun v hv => by cases hv⟩
theorem soon_wf {x : InstD} {p : PlanD} (h : SoonOk x p) : (∀ t ∈ (soonD x p).trucks, ∀ v ∈ t, 0 ≤ v ∧ v ≤ 1000000000000000) ∧ ∀ r ∈ (soonD x p).bikes, (0 ≤ r.out ∧ r.out ≤ 1000000000000000) ∧ (0 ≤ r.back ∧ r.back ≤ 1000000000000000) ∧ ∀ v ∈ r.starts, 0 ≤ v ∧ v ≤ 1000000000000000 := by
 have hT := (soonTruck_up h p.trucks.length (Nat.le_refl _)).1
 rw [List.take_length] at hT
 refine ⟨fun t ht v hv => by have := hT.ts t ht v hv; omega, fun r hr => ?_⟩
 obtain ⟨b, hb, rfl⟩ := List.mem_map.1 (show r ∈ p.bikes.map (soonBike x (soonTrucks x p.trucks).ready) from hr)
 obtain ⟨h1, h2, h3⟩ := h.b1 b hb
 have hs := soonB_start (b := b) hT.len hT.rdy h2
 obtain ⟨g1, g2⟩ := soonCust_up h.good hs rfl ⟨h1, h3⟩ _ (Nat.le_refl _)
 rw [List.take_length] at g1 g2
 have g3 := g1.now
 have g4 := hs.now
 have g5 := timeAt_bd h.good (b.stops.foldl (soonCust x) ⟨(soonTrucks x p.trucks).ready.getD b.sat.toNat 0, 1 + b.sat, []⟩).node (1 + b.sat)
 rw [g2] at g3
 refine ⟨?_, ?_, fun v hv => ?_⟩
 ·show 0 ≤ (soonTrucks x p.trucks).ready.getD b.sat.toNat 0 ∧ (soonTrucks x p.trucks).ready.getD b.sat.toNat 0 ≤ _
  simp only [List.length_nil] at g4; omega
 ·show 0 ≤ _ + timeAt x _ _ ∧ _ + timeAt x _ _ ≤ _
  unfold soonBikeE; omega
 ·have := g1.l v hv
  rw [g2] at this; omega
end Go.Proofs.Ytafhjfkdlmijdaa
namespace Go.Proofs.Ytafhjfkdlmijdaa
open Go.RowKit
def addAt (l : List Int) (n : Int) : Int := if l.length = 0 then 0 else l.getD (n.toNat % l.length) 0
theorem sz_i8 : ∀ w, (sizeOf 77).run Try.prog w = .ok 1 w := fun w => by kernel_rfl
set_option maxRecDepth 100000 in
set_option maxHeartbeats 800000 in
theorem more_c {w : World} {gn gs b off c : Nat} {a : Option Addr} {x n : Int} {l : List Int} (R : Row w gn 3 [.int .i64 n]) (hs : w.cell? ⟨gs, 0, none⟩ = some (.slice a l.length c)) (hne : gs ≠ gn) (hbn : b ≠ gn) (ha : 0 < l.length → a = some ⟨b, off, none⟩)
  (hl : ∀ k (h : k < l.length), w.cell? ⟨b, off + k, none⟩ = some (.int .i8 l[k]) ∧ -128 ≤ l[k] ∧ l[k] ≤ 127) (hn : 0 ≤ n ∧ n ≤ 1000000000000) (hx : -10000000000000000 ≤ x ∧ x ≤ 10000000000000000) (hll : l.length ≤ 9223372036854775807) :
  Calls Try.prog 78 #[.int .i64 x, .pointer (some ⟨gn, 0, none⟩), .pointer (some ⟨gs, 0, none⟩)] w fun e w' => e = .returned (.int .i64 (x + addAt l n)) ∧ Below (w.setCell ⟨gn, 0, none⟩ (.int .i64 (n + 1))).heap.size (w.setCell ⟨gn, 0, none⟩ (.int .i64 (n + 1))) w' := by
 have c0 := R.cell (j := 0) (by simp)
 have f0 := R.frozen 0
 simp only [List.getElem_cons_zero] at c0
 have R1 := R.set (j := 0) (by simp) (.int .i64 (n + 1))
 have d0 := R1.cell (j := 0) (by simp)
 simp only [List.set_cons_zero, List.getElem_cons_zero] at d0
 have hs1 : (w.setCell ⟨gn, 0, none⟩ (.int .i64 (n + 1))).cell? ⟨gs, 0, none⟩ = some (.slice a l.length c) := by
  rw [World.cell?_of_block (Below.heap_setCell _ _ _ _ hne)]; exact hs
 have hl1 : ∀ k (h : k < l.length), (w.setCell ⟨gn, 0, none⟩ (.int .i64 (n + 1))).cell? ⟨b, off + k, none⟩ = some (.int .i8 l[k]) := fun k h => by
  rw [World.cell?_of_block (Below.heap_setCell _ _ _ _ hbn)]; exact (hl k h).1
 have HL := hid hl
 have HA := hid ha
 clear hl ha R R1 hs
 go_enter Try.func78, Try.ntmps78
 go_upto_region 2 with fail
 generalize hw1 : w.setCell ⟨gn, 0, none⟩ (.int .i64 (n + 1)) = w1 at d0 hs1 hl1 ⊢
 have HW := hid hw1
 clear hw1
 clear c0 f0
 by_cases hz : l.length = 0
 ·have HZ := hid hz
  have hb : decide ((l.length : Int) = 0) = true := decide_eq_true (by omega)
  go_wp2
  go_ret
  exact ⟨ret_int (by unfold addAt; rw [if_pos HZ.out, Int.add_zero]), by rw [HW.out]; exact Below.refl _ _⟩
 ·have hb : decide ((l.length : Int) = 0) = false := decide_eq_false (by omega)
  obtain ⟨k, hk⟩ : ∃ k, k = n.toNat % l.length := ⟨_, rfl⟩
  have hkl : k < l.length := by rw [hk]; exact Nat.mod_lt _ (by omega)
  have hrem : n % (l.length : Int) = (k : Int) := by
   obtain ⟨m, rfl⟩ := Int.eq_ofNat_of_zero_le hn.1
   rw [hk]; rfl
  have he := HA.out (by omega)
  subst he
  have ia : ∀ w, (Instr.indexAt 92 (.slice (some ⟨b, off, none⟩) l.length c) (.int .i64 (n % (l.length : Int)))).run Try.prog w = .ok (.pointer (some ⟨b, off + k, none⟩)) w := fun w => by rw [hrem]; exact idx_at1 (c := c) Try.underlying92 sz_i8 (a := some ⟨b, off, none⟩) rfl hkl w
  have hc := hl1 k hkl
  have hbd := (HL.out k hkl).2
  have HADD := hid (show addAt l n = l[k] from by unfold addAt; rw [if_neg hz, ← hk, List.getD_eq_getElem?_getD, List.getElem?_eq_getElem hkl]; rfl)
  generalize l[k] = q at hc hbd HADD
  clear hrem hk
  go_wp2_with fail
  have zd : ∀ e : At (Old w1), _ := fun e => e.cell d0
  have zs : ∀ e : At (Old w1), _ := fun e => e.cell hs1
  have zc : ∀ e : At (Old w1), _ := fun e => e.cell hc
  refine wp_region_mix (Old w1) [] [([0, 1, 2, 3, 4, 5, 6, 7, 8, 9, 10, 11, 12], 13, false)] (by kernel_rfl) (by kernel_rfl) (fun _ _ d _ _ h => by cases d <;> exact h) (Old.drew _) ?_
  simp only [mixOf, List.map_cons, List.map_nil, Array.getD_eq_getD_getElem?, List.getElem?_toArray, List.getElem?_cons_succ, List.getElem?_cons_zero, Option.getD_some, wpMix]
  repeat (go_big_quiet_step (fail))
  refine wpQuiet_nil ?_
  go_wp2_with fail
  refine ⟨Old.drew _, ?_⟩
  go_wp2
  go_ret
  exact ⟨ret_int (by rw [HADD.out]), by rw [HW.out]; exact Old.drew _⟩
end Go.Proofs.Ytafhjfkdlmijdaa
namespace Go.Proofs.Ytafhjfkdlmijdaa
open Go.RowKit
def Opens {α : Type} (P : Program) (t : TypeId) (S : Shape α) : Prop :=
 ∀ (H : Type) (enc : TypeId × Value → H) (w : World) (base : Nat) (spare : Nat → Bool) (held : Bool) (fuel : Nat) (cs : List Value) (x : DataW H × List MemPlace), DataW.trod enc P w base spare held fuel t cs = some x → ∃ y, S.rep w (fun _ => True) y cs
theorem opens_i64 {P : Program} {t : TypeId} (ht : P.underlying t = some (.int .i64)) : Opens P t intS := by
 intro H enc w base spare held fuel cs x h
 cases fuel with
 | zero => simp [DataW.trod] at h
 | succ n =>
  unfold DataW.trod at h
  rw [ht] at h
  split at h <;> simp_all
  rename_i k2 m e
  obtain ⟨⟨_, hw⟩, -⟩ := h
  subst e
  refine ⟨m, rfl, ?_⟩
  simpa [Lit.wf, IntKind.min, IntKind.max, IntKind.signed, IntKind.bits, wf64] using hw
theorem opens_u8 {P : Program} {t : TypeId} (ht : P.underlying t = some (.int .u8)) : Opens P t u8S := by
 intro H enc w base spare held fuel cs x h
 cases fuel with
 | zero => simp [DataW.trod] at h
 | succ n =>
  unfold DataW.trod at h
  rw [ht] at h
  split at h <;> simp_all
  rename_i k2 m e
  obtain ⟨⟨_, hw⟩, -⟩ := h
  subst e
  refine ⟨m, rfl, ?_⟩
  simpa [Lit.wf, IntKind.min, IntKind.max, IntKind.signed, IntKind.bits, wf64] using hw
def boolS : Shape Bool := plainS 1 (fun x cs => cs = [.bool x]) (by rintro x cs rfl; rfl)
theorem opens_bool {P : Program} {t : TypeId} (ht : P.underlying t = some .bool) : Opens P t boolS := by
 intro H enc w base spare held fuel cs x h
 cases fuel with
 | zero => simp [DataW.trod] at h
 | succ n =>
  unfold DataW.trod at h
  rw [ht] at h
  split at h
  all_goals first | exact ⟨_, rfl⟩ | simp_all
theorem list_of {α : Type} {p : Nat → α → Prop} : ∀ (n : Nat), (∀ i, i < n → ∃ x, p i x) → ∃ xs : List α, xs.length = n ∧ ∀ i (h : i < xs.length), p i xs[i]
 | 0, _ => ⟨[], rfl, fun _ h => absurd h (Nat.not_lt_zero _)⟩
 | n + 1, h => by
  obtain ⟨xs, hl, hx⟩ := list_of n fun i hi => h i (by omega)
  obtain ⟨x, hp⟩ := h n (by omega)
  refine ⟨xs ++ [x], by simp [hl], fun i hi => ?_⟩
  by_cases hlt : i < xs.length
  ·rw [List.getElem_append_left hlt]; exact hx i hlt
  ·have : i = n := by simp at hi; omega
   subst this
   rw [List.getElem_append_right (by omega)]
   simpa [hl] using hp
theorem spot_none {w : World} {a : Addr} {v : Value} (h : w.cell? a = some v) : a.spot = none := by
 unfold World.cell? at h
 split at h
 ·split at h
  ·cases h
  ·rename_i hs; simpa using hs
 ·cases h
theorem opens_slice {α : Type} {P : Program} {t e : TypeId} {S : Shape α} {h0 : 0 < S.sz} (ht : P.underlying t = some (.slice e)) (hc : P.cellsOf e = S.sz) (he : Opens P e S) : Opens P t (sliceS S h0) := by
 intro H enc w base spare held fuel cs x h
 rcases Deep.open_slice ht h with ⟨rfl, -⟩ | ⟨a, len, cap, m, n, D, Pl, rfl, -, hl, hm, hmm, -, hx⟩
 ·exact ⟨[], none, 0, 0, 0, rfl, Nat.le_refl _, Nat.zero_le _, fun h => absurd h (Nat.not_lt_zero _), fun i h => absurd h (Nat.not_lt_zero _)⟩
 ·have hlm : len ≤ m := by rw [hmm]; split <;> omega
  obtain ⟨xs, hxl, hxs⟩ := list_of (p := fun i y => ∃ es, S.rep w (fun _ => True) y es ∧ ∀ j, j < S.sz → w.cell? ((a.add (i * S.sz)).add j) = es[j]?) len (fun i hi => by
   obtain ⟨cs', h1, h2⟩ := hx i (by omega)
   obtain ⟨y, hy⟩ := he _ _ _ _ _ _ _ _ _ h2
   rw [hc] at h1
   obtain ⟨_, _, h3⟩ := World.cells?_some h1
   exact ⟨y, cs', hy, h3⟩)
  obtain ⟨b, off, spot⟩ := a
  subst hxl
  have hsp : 0 < xs.length → spot = none := fun hpos => by
   obtain ⟨es, hr, hce⟩ := hxs 0 hpos
   have hle := S.len hr
   have := hce 0 h0
   rw [List.getElem?_eq_getElem (by omega), Nat.zero_mul] at this
   simpa [Addr.add] using spot_none this
  refine ⟨xs, some ⟨b, off, spot⟩, b, off, cap, rfl, hl, hm, fun hpos => ⟨by rw [hsp hpos], trivial⟩, fun i hi => ?_⟩
  obtain rfl := hsp (by omega)
  obtain ⟨es, hr, hce⟩ := hxs i hi
  refine ⟨es, hr, fun j hj => ?_⟩
  rw [← hce j hj]
  congr 1
  by_cases e1 : i * S.sz = 0 <;> by_cases e2 : j = 0 <;> simp [Addr.add, e1, e2]
theorem trod_at {P : Program} {t : TypeId} {fs : Array Field} {H : Type} {enc : TypeId × Value → H} {w : World} {base : Nat} {spare : Nat → Bool} {held : Bool} {fuel : Nat} {cs : List Value} {x : DataW H × List MemPlace}
  (ht : P.underlying t = some (.struct fs)) (h : DataW.trod enc P w base spare held fuel t cs = some x) (i ft o k : Nat) (hf : (fs[i]?).map (fun f => (f.type, f.offset)) = some (ft, o)) (hk : P.cellsOf ft = k) :
  ∃ n y, DataW.trod enc P w base spare held n ft ((cs.drop o).take k) = some y := by
 obtain ⟨xs, n, -, -, -, hl, hx⟩ := DataW.trod_struct ht h
 obtain ⟨f, hf1, hf2⟩ := Option.map_eq_some_iff.1 hf
 simp only [Prod.mk.injEq] at hf2
 obtain ⟨rfl, rfl⟩ := hf2
 have h1 := hx i f hf1
 have hi : i < xs.length := by
  rw [hl]
  exact (Array.getElem?_eq_some_iff.1 hf1).1
 rw [List.getElem?_eq_getElem hi, hk] at h1
 exact ⟨n, _, h1⟩
theorem trod_len {P : Program} {t : TypeId} {fs : Array Field} {H : Type} {enc : TypeId × Value → H} {w : World} {base : Nat} {spare : Nat → Bool} {held : Bool} {fuel : Nat} {cs : List Value} {x : DataW H × List MemPlace}
  (ht : P.underlying t = some (.struct fs)) (h : DataW.trod enc P w base spare held fuel t cs = some x) : cs.length = P.cellsOf t := by
 obtain ⟨xs, n, -, -, hl, -⟩ := DataW.trod_struct ht h
 exact hl
theorem co_u8 : Try.prog.cellsOf 5 = 1 := by kernel_rfl
theorem co_i64 : Try.prog.cellsOf 2 = 1 := by kernel_rfl
theorem co_bool : Try.prog.cellsOf 4 = 1 := by kernel_rfl
theorem op_u8 : Opens Try.prog 5 u8S := opens_u8 Try.underlying5
theorem op_i64 : Opens Try.prog 2 intS := opens_i64 Try.underlying2
theorem op_bool : Opens Try.prog 4 boolS := opens_bool Try.underlying4
theorem op_bytes : Opens Try.prog 24 bytesS := opens_slice (S := u8S) Try.underlying24 co_u8 op_u8
theorem op_ints64 : Opens Try.prog 34 (sliceS intS) := opens_slice (S := intS) Try.underlying34 co_i64 op_i64
theorem op_rows : Opens Try.prog 31 rowsS := opens_slice (S := sliceS intS) Try.underlying31 (by kernel_rfl) op_ints64
theorem op_lsat : Opens Try.prog 103 lsatS := by
 intro H enc w base spare held fuel cs x h
 have hl : cs.length = 2 := (trod_len Try.underlying103 h).trans (by kernel_rfl)
 match cs, hl with
 | [v0, v1], _ =>
  obtain ⟨n0, y0, f0⟩ := trod_at Try.underlying103 h 0 5 0 1 rfl co_u8
  obtain ⟨n1, y1, f1⟩ := trod_at Try.underlying103 h 1 5 1 1 rfl co_u8
  obtain ⟨a0, e0, w0⟩ := op_u8 _ _ _ _ _ _ _ _ _ f0
  obtain ⟨a1, e1, w1⟩ := op_u8 _ _ _ _ _ _ _ _ _ f1
  simp at e0 e1
  subst e0; subst e1
  exact ⟨⟨a0, a1⟩, rfl, w0, w1⟩
theorem op_lwho : Opens Try.prog 110 lwhoS := by
 intro H enc w base spare held fuel cs x h
 have hl : cs.length = 4 := (trod_len Try.underlying110 h).trans (by kernel_rfl)
 match cs, hl with
 | [v0, v1, v2, v3], _ =>
  obtain ⟨n0, y0, f0⟩ := trod_at Try.underlying110 h 0 5 0 1 rfl co_u8
  obtain ⟨n1, y1, f1⟩ := trod_at Try.underlying110 h 1 5 1 1 rfl co_u8
  obtain ⟨n2, y2, f2⟩ := trod_at Try.underlying110 h 2 5 2 1 rfl co_u8
  obtain ⟨n3, y3, f3⟩ := trod_at Try.underlying110 h 3 5 3 1 rfl co_u8
  obtain ⟨a0, e0, w0⟩ := op_u8 _ _ _ _ _ _ _ _ _ f0
  obtain ⟨a1, e1, w1⟩ := op_u8 _ _ _ _ _ _ _ _ _ f1
  obtain ⟨a2, e2, w2⟩ := op_u8 _ _ _ _ _ _ _ _ _ f2
  obtain ⟨a3, e3, w3⟩ := op_u8 _ _ _ _ _ _ _ _ _ f3
  simp at e0 e1 e2 e3
  subst e0; subst e1; subst e2; subst e3
  exact ⟨⟨a0, a1, a2, a3⟩, rfl, w0, w1, w2, w3⟩
theorem op_lsats : Opens Try.prog 22 lsatsS := opens_slice (S := lsatS) Try.underlying22 (by kernel_rfl) op_lsat
theorem op_lwhos : Opens Try.prog 23 lwhosS := opens_slice (S := lwhoS) Try.underlying23 (by kernel_rfl) op_lwho
theorem op_small : Opens Try.prog 26 smallS := by
 intro H enc w base spare held fuel cs x h
 have hl : cs.length = 11 := (trod_len Try.underlying26 h).trans (by kernel_rfl)
 match cs, hl with
 | [v0, v1, v2, v3, v4, v5, v6, v7, v8, v9, v10], _ =>
  obtain ⟨_, _, f0⟩ := trod_at Try.underlying26 h 0 5 0 1 rfl co_u8
  obtain ⟨_, _, f1⟩ := trod_at Try.underlying26 h 1 5 1 1 rfl co_u8
  obtain ⟨_, _, f2⟩ := trod_at Try.underlying26 h 2 5 2 1 rfl co_u8
  obtain ⟨_, _, f3⟩ := trod_at Try.underlying26 h 3 5 3 1 rfl co_u8
  obtain ⟨_, _, f4⟩ := trod_at Try.underlying26 h 4 5 4 1 rfl co_u8
  obtain ⟨_, _, f5⟩ := trod_at Try.underlying26 h 5 22 5 1 rfl (by kernel_rfl)
  obtain ⟨_, _, f6⟩ := trod_at Try.underlying26 h 6 23 6 1 rfl (by kernel_rfl)
  obtain ⟨_, _, f7⟩ := trod_at Try.underlying26 h 7 24 7 1 rfl (by kernel_rfl)
  obtain ⟨_, _, f8⟩ := trod_at Try.underlying26 h 8 24 8 1 rfl (by kernel_rfl)
  obtain ⟨_, _, f9⟩ := trod_at Try.underlying26 h 9 4 9 1 rfl co_bool
  obtain ⟨_, _, f10⟩ := trod_at Try.underlying26 h 10 4 10 1 rfl co_bool
  obtain ⟨a0, e0, w0⟩ := op_u8 _ _ _ _ _ _ _ _ _ f0
  obtain ⟨a1, e1, w1⟩ := op_u8 _ _ _ _ _ _ _ _ _ f1
  obtain ⟨a2, e2, w2⟩ := op_u8 _ _ _ _ _ _ _ _ _ f2
  obtain ⟨a3, e3, w3⟩ := op_u8 _ _ _ _ _ _ _ _ _ f3
  obtain ⟨a4, e4, w4⟩ := op_u8 _ _ _ _ _ _ _ _ _ f4
  obtain ⟨a5, r5⟩ := op_lsats _ _ _ _ _ _ _ _ _ f5
  obtain ⟨a6, r6⟩ := op_lwhos _ _ _ _ _ _ _ _ _ f6
  obtain ⟨a7, r7⟩ := op_bytes _ _ _ _ _ _ _ _ _ f7
  obtain ⟨a8, r8⟩ := op_bytes _ _ _ _ _ _ _ _ _ f8
  obtain ⟨a9, e9⟩ := op_bool _ _ _ _ _ _ _ _ _ f9
  obtain ⟨a10, e10⟩ := op_bool _ _ _ _ _ _ _ _ _ f10
  simp [boolS, plainS] at e0 e1 e2 e3 e4 e9 e10
  subst e0; subst e1; subst e2; subst e3; subst e4; subst e9; subst e10
  exact ⟨⟨a0, a1, a2, a3, a4, a5, a6, a7, a8, a9, a10⟩, v5, v6, v7, v8, rfl, ⟨w0, w1, w2, w3, w4⟩, r5, r6, r7, r8⟩
theorem arg_struct {P : Program} {w : World} {r : Reach} {base : Nat} {t : TypeId} {fs : Array Field} {v : Value} (ht : P.underlying t = some (.struct fs)) (h : Value.okWide P w r base t v) : ∃ cs : List Value, v = .agg cs.toArray ∧ v.cells.toList = cs := by
 unfold Value.okWide at h
 rw [ht] at h
 obtain ⟨cs, rfl, -⟩ := h
 exact ⟨cs.toList, by simp, by simp [Value.cells]⟩
end Go.Proofs.Ytafhjfkdlmijdaa
namespace Go.Proofs.Ytafhjfkdlmijdaa
open Go.RowKit Go.ChangeShapes
def i8S : Shape Int := plainS 1 (fun x cs => cs = [.int .i8 x] ∧ (-128 ≤ x ∧ x ≤ 127)) (by rintro x cs ⟨rfl, _⟩; rfl)
theorem opens_i8 {P : Program} {t : TypeId} (ht : P.underlying t = some (.int .i8)) : Opens P t i8S := by
 intro H enc w base spare held fuel cs x h
 cases fuel with
 | zero => simp [DataW.trod] at h
 | succ n =>
  unfold DataW.trod at h
  rw [ht] at h
  split at h <;> simp_all
  rename_i k2 m e
  obtain ⟨⟨_, hw⟩, -⟩ := h
  subst e
  refine ⟨m, rfl, ?_⟩
  simpa [Lit.wf, IntKind.min, IntKind.max, IntKind.signed, IntKind.bits] using hw
theorem op_i8 : Opens Try.prog 77 i8S := opens_i8 Try.underlying77
theorem op_wish : Opens Try.prog 72 wishS := by
 intro H enc w base spare held fuel cs x h
 have hl : cs.length = 3 := (trod_len Try.underlying72 h).trans (by kernel_rfl)
 match cs, hl with
 | [v0, v1, v2], _ =>
  obtain ⟨_, _, f0⟩ := trod_at Try.underlying72 h 0 24 0 1 rfl (by kernel_rfl)
  obtain ⟨_, _, f1⟩ := trod_at Try.underlying72 h 1 24 1 1 rfl (by kernel_rfl)
  obtain ⟨_, _, f2⟩ := trod_at Try.underlying72 h 2 24 2 1 rfl (by kernel_rfl)
  obtain ⟨a0, r0⟩ := op_bytes _ _ _ _ _ _ _ _ _ f0
  obtain ⟨a1, r1⟩ := op_bytes _ _ _ _ _ _ _ _ _ f1
  obtain ⟨a2, r2⟩ := op_bytes _ _ _ _ _ _ _ _ _ f2
  exact ⟨⟨a0, a1, a2⟩, v0, v1, v2, rfl, r0, r1, r2⟩
section
variable {H : Type} {enc : TypeId × Value → H} {P : Program} {w : World} {base : Nat} {spare : Nat → Bool} {held : Bool}
theorem trodAll_five {t t' t'' t3 t4 : TypeId} {args : Array Value} {ds : List (DataW H)} {ps : List MemPlace} (h : DataW.TrodAll enc P w base spare held [t, t', t'', t3, t4] args.toList ds ps) :
  ∃ v v' v'' v3 v4 d d' d'' d3 d4 p p' p'' p3 p4, args = #[v, v', v'', v3, v4] ∧ ds = [d, d', d'', d3, d4] ∧ ps = p ++ p' ++ p'' ++ p3 ++ p4 ∧ DataW.Trod enc P w base spare held t v d p ∧ DataW.Trod enc P w base spare held t' v' d' p' ∧ DataW.Trod enc P w base spare held t'' v'' d'' p'' ∧ DataW.Trod enc P w base spare held t3 v3 d3 p3 ∧ DataW.Trod enc P w base spare held t4 v4 d4 p4 := by
 obtain ⟨v, vs, d, ds', p, q, hargs, rfl, rfl, hd, h1⟩ := trodAll_cons h
 obtain ⟨v', vs', d', ds'', p', q', rfl, rfl, rfl, hd', h2⟩ := trodAll_cons h1
 obtain ⟨v'', vs'', d'', ds''', p'', q'', rfl, rfl, rfl, hd'', h3⟩ := trodAll_cons h2
 obtain ⟨v3, vs3, d3, ds3, p3, q3, rfl, rfl, rfl, hd3, h4⟩ := trodAll_cons h3
 obtain ⟨v4, vs4, d4, ds4, p4, q4, rfl, rfl, rfl, hd4, h5⟩ := trodAll_cons h4
 obtain ⟨rfl, rfl, rfl⟩ := trodAll_nil h5
 exact ⟨v, v', v'', v3, v4, d, d', d'', d3, d4, p, p', p'', p3, p4, by cases args; simp_all, rfl, by simp, hd, hd', hd'', hd3, hd4⟩
end
end Go.Proofs.Ytafhjfkdlmijdaa
namespace Go.Proofs.Ytafhjfkdlmijdaa
open Go.RowKit Go.WideShapes Go.ChangeShapes
theorem Try.own : ownKnob Try.prog.godebug = none := by kernel_rfl
theorem Try.laid : laidOutB Try.prog = true := by kernel_rfl
section
variable {H : Type} {enc : TypeId × Value → H} {P : Program}
theorem trodAll_stays (hl : laidOutB P = true) {W W' : World} (hb : Below W.heap.size W W') {sp : Nat → Bool} : ∀ (ts : List TypeId) (vs : List Value) (ds : List (DataW H)) (ps : List MemPlace), DataW.TrodAll enc P W 0 (fun _ => true) true ts vs ds ps →
  (∀ t ∈ ts, P.readableRec t = true ∧ t < P.types.size) → (∀ x ∈ ps, x.block < W.heap.size) → (∀ x ∈ ps, sp x.block = true) → DataW.TrodAll enc P W' 0 sp true ts vs ds ps
 | [], [], [], _, h, _, _, _ => h
 | t :: ts, v :: vs, d :: ds, ps, h, ht, hlt, hsp => by
  obtain ⟨p, q, h1, h2, rfl⟩ := h
  exact ⟨p, q, WideElems.Trod_stays hl (ht t (List.mem_cons_self ..)).1 (ht t (List.mem_cons_self ..)).2 h1 (fun x hx => hb.same (hlt x (List.mem_append_left _ hx))) (fun x hx => hsp x (List.mem_append_left _ hx)),
   trodAll_stays hl hb ts vs ds q h2 (fun t h => ht t (List.mem_cons_of_mem _ h)) (fun x hx => hlt x (List.mem_append_right _ hx)) (fun x hx => hsp x (List.mem_append_right _ hx)), rfl⟩
 | [], _ :: _, _, _, h, _, _, _ => h.elim
 | [], [], _ :: _, _, h, _, _, _ => h.elim
 | _ :: _, [], _, _, h, _, _, _ => h.elim
 | _ :: _, _ :: _, [], _, h, _, _, _ => h.elim
theorem law_post {f : Func} {s : ChangeSpec} {fresh handsOn again : Bool} {W W' : World} {args : Array Value} {ds gs : List (DataW H)} {before : List MemPlace} {bt : TypeId} (hl : laidOutB P = true)
  (hW : DataW.Whole enc P f.params.toList s.vars false W args.toList ds gs before) (hv : s.vars = []) (hs : s.fn H (ds ++ gs) = { results := [.lit (.bool true)], args := ds }) (hr : f.resultTypes = #[bt]) (hbt : P.underlying bt = some .bool)
  (ht : ∀ t ∈ f.params.toList, P.readableRec t = true ∧ t < P.types.size) (hb : Below W.heap.size W W') : s.post enc P f false fresh handsOn again W args (.bool true) W' := by
 have hlt : ∀ p ∈ before, p.block < W.heap.size := fun p hp => hW.lt p hp
 have hW2 := hW
 obtain ⟨pa, pv, hA, hV, rfl, hz, -⟩ := hW2
 have hpv : pv = [] := by
  rw [hv] at hV
  cases gs with
  | nil => exact hV
  | cons g gs => exact hV.elim
 have hgs : gs = [] := by
  rw [hv] at hV
  cases gs with
  | nil => rfl
  | cons g gs => exact hV.elim
 subst hpv
 have hres : ∀ (b : Nat) (sp : Nat → Bool) (hd : Bool), DataW.TrodAll enc P W' b sp hd f.resultTypes.toList ((Value.bool true).resultList f.resultTypes.size) (s.fn H (ds ++ gs)).results [] := fun b sp hd => by
  rw [hs, hr]
  exact trodAll_mk1 (shut_bool hbt _)
 have hargs : ∀ sp : Nat → Bool, (∀ p ∈ pa ++ [], sp p.block = true) → DataW.TrodAll enc P W' 0 sp true f.params.toList args.toList (s.fn H (ds ++ gs)).args pa := fun sp hsp => by
  rw [hs]
  exact trodAll_stays hl hb _ _ _ _ hA ht (fun x hx => hlt x (List.mem_append_left _ hx)) (fun x hx => hsp x (List.mem_append_left _ hx))
 have hvars : ∀ sp : Nat → Bool, DataW.TrodVars enc P W' sp s.vars (s.fn H (ds ++ gs)).vars [] := fun sp => by
  rw [hs, hv]; rfl
 refine ⟨ds, gs, pa ++ [], [], pa, [], hW, hres _ _ _, hargs _ (fun p hp => by simpa using hlt p hp), hvars _, World.keptBut_mono (fun p hp => ⟨hp, ?_⟩) (hb.frame (· ∈ pa ++ [])), fun _ => ?_⟩
 ·rw [List.append_nil] at hp
  exact Or.inr (.inl hp)
 ·refine ⟨ok_one hr rfl (okWide_bool_mk hbt _), _, _, ([] ++ pa) ++ [], ⟨[] ++ pa, [], trodAll_append (hargs _ (fun _ _ => rfl)) (hres _ _ _), hvars _, rfl, ?_, ?_⟩, ?_⟩
  ·intro b off hp
   have hin : MemPlace.cell b off ∈ pa ++ [] := by simpa using hp
   rw [hb.frozen (hlt _ hin)]
   exact hz b off hin
  ·intro ha; cases ha
  ·intro p hp _
   simpa using hp
end
end Go.Proofs.Ytafhjfkdlmijdaa
namespace Go.Proofs.Ytafhjfkdlmijdaa
open Go.RowKit
theorem op_ride : Opens Try.prog 85 rideS := by
 intro H enc w base spare held fuel cs x h
 have hl : cs.length = 3 := (trod_len Try.underlying85 h).trans (by kernel_rfl)
 match cs, hl with
 | [v0, v1, v2], _ =>
  obtain ⟨n0, y0, f0⟩ := trod_at Try.underlying85 h 0 2 0 1 rfl co_i64
  obtain ⟨n1, y1, f1⟩ := trod_at Try.underlying85 h 1 34 1 1 rfl (by kernel_rfl)
  obtain ⟨n2, y2, f2⟩ := trod_at Try.underlying85 h 2 2 2 1 rfl co_i64
  obtain ⟨a0, e0, w0⟩ := op_i64 _ _ _ _ _ _ _ _ _ f0
  obtain ⟨a1, r1⟩ := op_ints64 _ _ _ _ _ _ _ _ _ f1
  obtain ⟨a2, e2, w2⟩ := op_i64 _ _ _ _ _ _ _ _ _ f2
  simp at e0 e2
  subst e0; subst e2
  exact ⟨⟨a0, a1, a2⟩, v1, rfl, w0, w2, r1⟩
theorem op_rides : Opens Try.prog 52 ridesS := opens_slice (S := rideS) Try.underlying52 (by kernel_rfl) op_ride
theorem op_times : Opens Try.prog 54 timesS := by
 intro H enc w base spare held fuel cs x h
 have hl : cs.length = 2 := (trod_len Try.underlying54 h).trans (by kernel_rfl)
 match cs, hl with
 | [v0, v1], _ =>
  obtain ⟨_, _, f0⟩ := trod_at Try.underlying54 h 0 31 0 1 rfl (by kernel_rfl)
  obtain ⟨_, _, f1⟩ := trod_at Try.underlying54 h 1 52 1 1 rfl (by kernel_rfl)
  obtain ⟨a0, r0⟩ := op_rows _ _ _ _ _ _ _ _ _ f0
  obtain ⟨a1, r1⟩ := op_rides _ _ _ _ _ _ _ _ _ f1
  exact ⟨⟨a0, a1⟩, v0, v1, rfl, r0, r1⟩
end Go.Proofs.Ytafhjfkdlmijdaa
