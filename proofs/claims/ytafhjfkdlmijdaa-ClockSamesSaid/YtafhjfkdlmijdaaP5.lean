/- Texts of the proof, joined: PlanBd, ClockD, One, Awake17, ClockF. -/
import Derived.Test.YtafhjfkdlmijdaaMake
import Derived.Test.YtafhjfkdlmijdaaDraftW
set_option linter.all false
namespace Go.Proofs.Ytafhjfkdlmijdaa
open Go.RowKit
theorem bit_or (m k i : Nat) : (m ||| 2 ^ k).testBit i = (m.testBit i || decide (k = i)) := by
 rw [Nat.testBit_or, Nat.testBit_two_pow]
theorem stops_nodup {x : InstD} : ∀ (l : List StopD) (m : Nat) (left : Int) (r : Nat × Int), l.foldl (stopSt x) (some (m, left)) = some r → (l.map fun s => s.sat.toNat).Nodup ∧ ∀ s ∈ l, m.testBit s.sat.toNat = false
 | [], _, _, _, _ => ⟨List.nodup_nil, fun s hs => by cases hs⟩
 | a :: l, m, left, r, h => by
  rw [List.foldl_cons] at h
  cases hb : stopBad x m a
  ·rw [stopSt_ok hb] at h
   obtain ⟨h1, h2⟩ := stops_nodup l _ _ r h
   have hm : m.testBit a.sat.toNat = false := by
    simp only [stopBad, Bool.or_eq_false_iff] at hb; exact hb.1.1.2
   refine ⟨?_, fun s hs => ?_⟩
   ·rw [List.map_cons, List.nodup_cons]
    refine ⟨fun hin => ?_, h1⟩
    obtain ⟨s, hs, e⟩ := List.mem_map.1 hin
    have := h2 s hs
    rw [bit_or, Bool.or_eq_false_iff] at this
    exact absurd e.symm (by simpa using this.2)
   ·rcases List.mem_cons.1 hs with rfl | hs
    ·exact hm
    ·have := h2 s hs
     rw [bit_or, Bool.or_eq_false_iff] at this
     exact this.1
  ·rw [stopSt_bad hb, stops_none] at h; cases h
theorem custs_nodup {x : InstD} : ∀ (l : List Int) (m : Nat) (left : Int) (r : Nat × Int), l.foldl (custSt x) (some (m, left)) = some r → (l.map Int.toNat).Nodup ∧ (∀ s ∈ l, m.testBit s.toNat = false) ∧ (∀ i, r.1.testBit i = false → m.testBit i = false) ∧ ∀ s ∈ l, r.1.testBit s.toNat = true
 | [], m, left, r, h => by
  cases h
  exact ⟨List.nodup_nil, (fun s hs => by cases hs), fun _ h => h, fun s hs => by cases hs⟩
 | a :: l, m, left, r, h => by
  rw [List.foldl_cons] at h
  cases hb : custBad x m a
  ·rw [custSt_ok hb] at h
   obtain ⟨h1, h2, h3, h4⟩ := custs_nodup l _ _ r h
   have hm : m.testBit a.toNat = false := by
    simp only [custBad, Bool.or_eq_false_iff] at hb; exact hb.2
   refine ⟨?_, fun s hs => ?_, fun i hi => ?_, fun s hs => ?_⟩
   ·rw [List.map_cons, List.nodup_cons]
    refine ⟨fun hin => ?_, h1⟩
    obtain ⟨s, hs, e⟩ := List.mem_map.1 hin
    have := h2 s hs
    rw [bit_or, Bool.or_eq_false_iff] at this
    exact absurd e.symm (by simpa using this.2)
   ·rcases List.mem_cons.1 hs with rfl | hs
    ·exact hm
    ·have := h2 s hs
     rw [bit_or, Bool.or_eq_false_iff] at this
     exact this.1
   ·have := h3 i hi
    rw [bit_or, Bool.or_eq_false_iff] at this
    exact this.1
   ·rcases List.mem_cons.1 hs with rfl | hs
    ·cases hr : r.1.testBit s.toNat
     ·have := h3 _ hr
      rw [bit_or, Bool.or_eq_false_iff] at this
      exact absurd this.2 (by simp)
     ·rfl
    ·exact h4 s hs
  ·rw [custSt_bad hb, custs_none] at h; cases h
theorem bikeGo_nodup {x : InstD} : ∀ (l : List BikeD) (m : Nat) (d : Bool), (bikeGo x l m d).1 = true → ((l.flatMap BikeD.stops).map Int.toNat).Nodup ∧ ∀ b ∈ l, ∀ c ∈ b.stops, m.testBit c.toNat = false
 | [], _, _, _ => ⟨List.nodup_nil, fun b hb => by cases hb⟩
 | a :: l, m, d, h => by
  cases ha : bikeBad x a
  case true => rw [bikeGo_bad ha] at h; cases h
  cases hs : bikeSt x m a.stops with
  | none => rw [bikeGo_none hs] at h; cases h
  | some q =>
   obtain ⟨m', left⟩ := q
   rw [bikeGo_ok ha hs] at h
   obtain ⟨h1, h2, h3, h4⟩ := custs_nodup _ _ _ _ hs
   obtain ⟨g1, g2⟩ := bikeGo_nodup l _ _ h
   refine ⟨?_, fun b hb c hc => ?_⟩
   ·rw [List.flatMap_cons, List.map_append, List.nodup_append]
    refine ⟨h1, g1, fun i hi j hj e => ?_⟩
    obtain ⟨c, hc, rfl⟩ := List.mem_map.1 hi
    obtain ⟨c', hc', rfl⟩ := List.mem_map.1 hj
    obtain ⟨b, hb, hc'⟩ := List.mem_flatMap.1 hc'
    have e1 := h4 c hc
    have e2 := g2 b hb c' hc'
    rw [e] at e1
    simp only at e1 e2
    rw [e1] at e2; cases e2
   ·rcases List.mem_cons.1 hb with rfl | hb
    ·exact h2 c hc
    ·exact h3 _ (g2 b hb c hc)
theorem truckGo_len {x : InstD} : ∀ (l : List (List StopD)) (r d : Bool), (truckGo x l r d).1 = true → ∀ t ∈ l, (t.map fun s => s.sat.toNat).Nodup
 | [], _, _, _, t, ht => by cases ht
 | a :: l, r, d, h, t, ht => by
  cases ha : truckSt x a with
  | none => rw [truckGo_bad ha] at h; cases h
  | some q =>
   obtain ⟨m, left⟩ := q
   rw [truckGo_ok ha] at h
   rcases List.mem_cons.1 ht with rfl | ht
   ·exact (stops_nodup _ _ _ _ ha).1
   ·exact truckGo_len l _ _ h t ht
theorem sum_le_mul (l : List Nat) (n : Nat) (h : ∀ v ∈ l, v ≤ n) : l.sum ≤ l.length * n := by
 induction l with
 | nil => simp
 | cons a l ih =>
  have h1 := h a List.mem_cons_self
  have h2 := ih fun v hv => h v (List.mem_cons_of_mem _ hv)
  rw [List.sum_cons, List.length_cons, Nat.add_mul, Nat.one_mul]; omega
theorem len_le_sum (l : List Nat) (h : ∀ v ∈ l, 1 ≤ v) : l.length ≤ l.sum := by
 induction l with
 | nil => simp
 | cons a l ih =>
  have h1 := h a List.mem_cons_self
  have h2 := ih fun v hv => h v (List.mem_cons_of_mem _ hv)
  rw [List.sum_cons, List.length_cons]; omega
structure PlanBd (x : InstD) (p : PlanD) : Prop where
 ok : PlanOk x p
 tl : p.trucks.length ≤ 60
 t : tstopsUp p.trucks p.trucks.length ≤ 720
 t1 : ∀ t ∈ p.trucks, t.length ≤ 12
 b : p.bikes.length ≤ 6
 s : stopsUp p.bikes p.bikes.length ≤ 6
theorem planBd_of {x : InstD} {p : PlanD} (h : planCheck x p = 0) (hn : x.custs.length ≤ 6) : PlanBd x p := by
 have hok := planOk_of h
 have gd := good_of hok.inst
 have h2 : (trucksB x p.trucks).1 = true ∧ (bikesB x p.bikes).1 = true := by
  unfold planCheck at h
  rw [if_neg (by simpa using hok.inst)] at h
  split at h
  ·cases h
  split at h
  ·cases h
  rename_i h2
  simpa using h2
 have ht1 : ∀ t ∈ p.trucks, t.length ≤ 12 := fun t ht => by
  have h3 := truckGo_len _ _ _ h2.1 t ht
  have h4 := nodup_lt_len h3 (n := x.sats.length) fun i hi => by
   obtain ⟨s, hs, rfl⟩ := List.mem_map.1 hi
   have := ((hok.truck t ht).2 s hs).1; omega
  rw [List.length_map] at h4
  have := gd.sats; omega
 have htl : p.trucks.length ≤ 60 := by have := hok.many; have := gd.tmany; omega
 have hs : stopsUp p.bikes p.bikes.length ≤ 6 := by
  have h3 := (bikeGo_nodup _ _ _ h2.2).1
  have h4 := nodup_lt_len h3 (n := x.custs.length) fun i hi => by
   obtain ⟨c, hc, rfl⟩ := List.mem_map.1 hi
   obtain ⟨b, hb, hc⟩ := List.mem_flatMap.1 hc
   have := (hok.bike b hb).2.2 c hc; unfold CustOk at this; omega
  rw [List.length_map, List.length_flatMap] at h4
  unfold stopsUp
  rw [List.take_length]; omega
 refine ⟨hok, htl, ?_, ht1, ?_, hs⟩
 ·unfold tstopsUp
  rw [List.take_length]
  have := sum_le_mul (p.trucks.map List.length) 12 fun v hv => by
   obtain ⟨t, ht, rfl⟩ := List.mem_map.1 hv; exact ht1 t ht
  rw [List.length_map] at this; omega
 ·have := len_le_sum (p.bikes.map fun b => b.stops.length) fun v hv => by
   obtain ⟨b, hb, rfl⟩ := List.mem_map.1 hv; exact (hok.bike b hb).2.1
  unfold stopsUp at hs
  rw [List.take_length] at hs
  rw [List.length_map] at this; omega
theorem PlanBd.fr {x : InstD} {p : PlanD} (h : PlanBd x p) : (drAll x p).fr.length = tstopsUp p.trucks p.trucks.length + stopsUp p.bikes p.bikes.length + 2 * p.bikes.length ∧ (drAll x p).arcs.length ≤ 20000 := by
 have gd := good_of h.ok.inst
 have h1 := trucks_ok (fun t ht => (h.ok.truck t ht).2) p.trucks.length (Nat.le_refl _)
 obtain ⟨m, hm, h2⟩ := bikes_ok gd h.ok.bike h1 p.bikes.length (Nat.le_refl _)
 rw [List.take_length, List.take_length] at h2
 have h3 : DrOk x (drAll x p) _ _ := h2
 refine ⟨h3.frL, Nat.le_trans h3.arL (Nat.le_trans hm ?_)⟩
 have hb := h.b
 have ht := h.t
 have hs := h.s
 have h5 : evUp (tstopsUp p.trucks p.trucks.length) p.bikes p.bikes.length ≤ 738 := by unfold evUp; omega
 exact Nat.le_trans (Nat.mul_le_mul h5 (show p.bikes.length + 1 ≤ 7 by omega)) (by decide)
theorem PlanBd.graph {x : InstD} {p : PlanD} (h : PlanBd x p) : GGood ⟨(drAll x p).fr.length, (drAll x p).arcs⟩ := by
 have hb := h.b
 have ht := h.t
 have hs := h.s
 exact ⟨by show (drAll x p).fr.length ≤ 1000; rw [h.fr.1]; omega, h.fr.2, (soon_inv h.ok).arc⟩
theorem PlanBd.late {x : InstD} {p : PlanD} (h : PlanBd x p) {d : List Int} (hd : LateOf ⟨(drAll x p).fr.length, (drAll x p).arcs⟩ (drAll x p).fr d) : d = flatT (soonD x p) :=
 LateOf.unique (fun a ha => ⟨((soon_inv h.ok).arc a ha).1, ((soon_inv h.ok).arc a ha).2.1⟩) hd (soon_inv h.ok).late
end Go.Proofs.Ytafhjfkdlmijdaa
namespace Go.Proofs.Ytafhjfkdlmijdaa
open Go.RowKit
def rideS : Shape RideD where
 sz := 3
 rep := fun w F x cs => ∃ v, cs = [.int .i64 x.out, v, .int .i64 x.back] ∧ wf64 x.out ∧ wf64 x.back ∧ (sliceS intS).rep w F x.starts [v]
 len := by rintro w F x cs ⟨v, rfl, _⟩; rfl
 keep := by rintro w w' F x cs ⟨v, rfl, h1, h1', h2⟩ ha; exact ⟨v, rfl, h1, h1', (sliceS intS).keep h2 ha⟩
 weak := by rintro w F G x cs ⟨v, rfl, h1, h1', h2⟩ ha; exact ⟨v, rfl, h1, h1', (sliceS intS).weak h2 ha⟩
 lt := by rintro w F x cs ⟨v, rfl, h1, h1', h2⟩; exact ⟨v, rfl, h1, h1', (sliceS intS).lt h2⟩
def ridesS : Shape (List RideD) := sliceS rideS
def timesS : Shape TimesD where
 sz := 2
 rep := fun w F x cs => ∃ t b, cs = [t, b] ∧ rowsS.rep w F x.trucks [t] ∧ ridesS.rep w F x.bikes [b]
 len := by rintro w F x cs ⟨t, b, rfl, _⟩; rfl
 keep := by rintro w w' F x cs ⟨t, b, rfl, h1, h2⟩ ha; exact ⟨t, b, rfl, rowsS.keep h1 ha, ridesS.keep h2 ha⟩
 weak := by rintro w F G x cs ⟨t, b, rfl, h1, h2⟩ ha; exact ⟨t, b, rfl, rowsS.weak h1 ha, ridesS.weak h2 ha⟩
 lt := by rintro w F x cs ⟨t, b, rfl, h1, h2⟩; exact ⟨t, b, rfl, rowsS.lt h1, ridesS.lt h2⟩
theorem rides_open {w : World} {F : Nat → Prop} {xs : List RideD} {cs : List Value} (h : ridesS.rep w F xs cs) :
  ∃ (a : Option Addr) (b off c : Nat), cs = [.slice a xs.length c] ∧ xs.length ≤ c ∧ c ≤ 9223372036854775807 ∧ (0 < xs.length → a = some ⟨b, off, none⟩) ∧ (0 < xs.length → F b) ∧
   ∀ k (h : k < xs.length), ∃ v, w.cell? ⟨b, off + k * 3, none⟩ = some (.int .i64 xs[k].out) ∧ w.cell? ⟨b, off + k * 3 + 1, none⟩ = some v ∧ w.cell? ⟨b, off + k * 3 + 2, none⟩ = some (.int .i64 xs[k].back) ∧ wf64 xs[k].out ∧ wf64 xs[k].back ∧ (sliceS intS).rep w F xs[k].starts [v] := by
 obtain ⟨a, b, off, c, rfl, h1, h2, h3, h4⟩ := h
 refine ⟨a, b, off, c, rfl, h1, h2, fun h => (h3 h).1, fun h => (h3 h).2, fun k hk => ?_⟩
 obtain ⟨es, ⟨v, rfl, hw, hw', hr⟩, hc⟩ := h4 k hk
 have e0 := hc 0 (by decide)
 have e1 := hc 1 (by decide)
 have e2 := hc 2 (by decide)
 exact ⟨v, by simpa [rideS] using e0, by simpa [rideS] using e1, by simpa [rideS] using e2, hw, hw', hr⟩
structure TkS where
 now : Int
 node : Int
 ready : List Int
def betw (a f t : Int) : Bool := decide (f ≤ a) && decide (a ≤ t)
def tkStep (x : InstD) (st : TkS) (s : StopD) (v : Int) : Option TkS :=
 if betw v (st.now + timeAt x st.node (1 + s.sat)) x.fin = true then some ⟨v, 1 + s.sat, st.ready.set s.sat.toNat (max (st.ready.getD s.sat.toNat 0) (v + holdOf x s.sat))⟩ else none
def truckUp (x : InstD) (t : List StopD) (l ready : List Int) : Nat → Option TkS
 | 0 => some ⟨0, 0, ready⟩
 | j + 1 => (truckUp x t l ready j).bind fun st => tkStep x st (t.getD j ⟨0, 0⟩) (l.getD j 0)
theorem truckUp_none {x : InstD} {t : List StopD} {l ready : List Int} {j : Nat} (h : truckUp x t l ready j = none) : ∀ m, truckUp x t l ready (j + m) = none
 | 0 => h
 | m + 1 => by rw [← Nat.add_assoc]; simp only [truckUp, truckUp_none h m, Option.bind_none]
def truckC (x : InstD) (t : List StopD) (l ready : List Int) : Option (List Int) :=
 (truckUp x t l ready t.length).bind fun st => if st.now + timeAt x st.node 0 ≤ x.fin then some st.ready else none
def trucksUp (x : InstD) (p : PlanD) (t : TimesD) : Nat → Option (List Int)
 | 0 => some (List.replicate x.sats.length 0)
 | k + 1 => (trucksUp x p t k).bind fun r => truckC x (p.trucks.getD k []) (t.trucks.getD k []) r
theorem trucksUp_none {x : InstD} {p : PlanD} {t : TimesD} {j : Nat} (h : trucksUp x p t j = none) : ∀ m, trucksUp x p t (j + m) = none
 | 0 => h
 | m + 1 => by rw [← Nat.add_assoc]; simp only [trucksUp, trucksUp_none h m, Option.bind_none]
structure BkS where
 now : Int
 node : Int
def bkStep (x : InstD) (st : BkS) (c v : Int) : Option BkS :=
 if betw v (max (custD x c).opn (st.now + timeAt x st.node (1 + x.sats.length + c))) (min (custD x c).cls x.fin) = true then some ⟨v + (custD x c).stay, 1 + x.sats.length + c⟩ else none
def bikeUp (x : InstD) (b : BikeD) (r : RideD) : Nat → Option BkS
 | 0 => some ⟨r.out, 1 + b.sat⟩
 | j + 1 => (bikeUp x b r j).bind fun st => bkStep x st (b.stops.getD j 0) (r.starts.getD j 0)
theorem bikeUp_none {x : InstD} {b : BikeD} {r : RideD} {j : Nat} (h : bikeUp x b r j = none) : ∀ m, bikeUp x b r (j + m) = none
 | 0 => h
 | m + 1 => by rw [← Nat.add_assoc]; simp only [bikeUp, bikeUp_none h m, Option.bind_none]
def bikeC (x : InstD) (b : BikeD) (r : RideD) (ready : List Int) : Bool :=
 betw r.out (ready.getD b.sat.toNat 0) x.fin && match bikeUp x b r b.stops.length with
  | none => false
  | some st => betw r.back (st.now + timeAt x st.node (1 + b.sat)) x.fin
def rideAt (t : TimesD) (k : Nat) : RideD := t.bikes.getD k ⟨0, [], 0⟩
def bikesUp (x : InstD) (p : PlanD) (t : TimesD) (ready : List Int) (k : Nat) : Bool := (List.range k).all fun i => bikeC x (p.bikes.getD i ⟨0, []⟩) (rideAt t i) ready
def fitsT (p : PlanD) (t : TimesD) (k : Nat) : Bool := (List.range k).all fun i => decide ((t.trucks.getD i []).length = (p.trucks.getD i []).length)
def fitsB (p : PlanD) (t : TimesD) (k : Nat) : Bool := (List.range k).all fun i => decide ((rideAt t i).starts.length = (p.bikes.getD i ⟨0, []⟩).stops.length)
def fitsD (p : PlanD) (t : TimesD) : Bool := (decide (t.trucks.length = p.trucks.length) && decide (t.bikes.length = p.bikes.length)) && (fitsT p t p.trucks.length && fitsB p t p.bikes.length)
def canC (x : InstD) (p : PlanD) (t : TimesD) : Bool := match trucksUp x p t p.trucks.length with
 | none => false
 | some r => bikesUp x p t r p.bikes.length
def clockCheck (x : InstD) (p : PlanD) (t : TimesD) : Int :=
 if planCheck x p ≠ 0 then planCheck x p else if fitsD p t = false then 4 else if canC x p t = false then 12 else 0
theorem all_succ (f : Nat → Bool) (k : Nat) : (List.range (k + 1)).all f = ((List.range k).all f && f k) := by
 rw [List.range_succ, List.all_append]; simp
end Go.Proofs.Ytafhjfkdlmijdaa
namespace Go.Proofs.Ytafhjfkdlmijdaa
open Go.RowKit
def smallZ : SmallD := ⟨0, 0, 0, 0, 0, [], [], [], [], false, false⟩
theorem smallZ_rep (w : World) : smallS.rep w (fun _ => False) smallZ [.int .u8 0, .int .u8 0, .int .u8 0, .int .u8 0, .int .u8 0, .slice none 0 0, .slice none 0 0, .slice none 0 0, .slice none 0 0, .bool false, .bool false] := by
 have h0 : ∀ {α : Type} (S : Shape α), sliceRep S w (fun _ => False) [] [.slice none 0 0] := fun S => ⟨none, 0, 0, 0, rfl, Nat.le_refl _, Nat.zero_le _, fun h => absurd h (Nat.not_lt_zero _), fun i h => absurd h (Nat.not_lt_zero _)⟩
 exact ⟨_, _, _, _, rfl, by unfold wf8 smallZ; decide, h0 _, h0 _, h0 _, h0 _⟩
theorem one_c (w : World) : Calls Try.prog 61 #[] w fun e w' => ∃ ds, e = .returned (.agg ds.toArray) ∧ InstOwn 38 112 34 2 w' w.heap.size (makeD smallZ) ds ∧ Below w.heap.size w w' := by
 have hz := smallZ_rep
 go_enter Try.func61, Try.ntmps61
 go_wp2_with (go_at_call 16; refine (make_c (hz _)).mono ?_; rintro e w1 ⟨ds, rfl, hi, hb⟩; obtain ⟨gs, cs1, gc, cc1, gco, cco, gti, cti, rfl⟩ := hi.lit; have R := (Row.new (w := w) (e := 33) (cs := [.int .i64 0, .int .i64 0, .int .i64 0, .int .i64 0, .int .i64 0, .slice none 0 0, .slice none 0 0, .slice none 0 0, .slice none 0 0]) rfl).below hb; obtain ⟨r0, r1, r2, r3, r4, r5, r6, r7, r8⟩ := row9 R; obtain ⟨f0, f1, f2, f3, f4, f5, f6, f7, f8⟩ := frozen9 R)
 refine bodyPost_ret (v := .agg #[.int .i64 (makeD smallZ).fin, .int .i64 (makeD smallZ).tmany, .int .i64 (makeD smallZ).troom, .int .i64 (makeD smallZ).bmany, .int .i64 (makeD smallZ).broom, .slice (some ⟨gs, 0, none⟩) (makeD smallZ).sats.length cs1, .slice (some ⟨gc, 0, none⟩) (makeD smallZ).custs.length cc1, .slice (some ⟨gco, 0, none⟩) (makeD smallZ).cost.length cco, .slice (some ⟨gti, 0, none⟩) (makeD smallZ).time.length cti]) (by simp [results, Try.results61, go_sem, r0, r1, r2, r3, r4, r5, r6, r7, r8]) rfl ⟨_, rfl, ?_, ?_⟩
 ·refine InstOwn.keepOn (w := w1) (TX := 33) ?_ (fun b e cs hR he => ?_) (by decide) (by decide) (by decide) (by decide)
  ·exact hi.mono (by simp)
  ·have n1 : b ≠ w.heap.size := hR.ne R he
   iterate 9 (rw [Below.heap_setCell _ _ _ _ (by exact n1)])
 ·iterate 9 (refine Below.setCell ?_ (by exact Nat.le_refl _) _)
  exact ((Below.refl _ _).alloc (Nat.le_refl _) _).trans (hb.mono (by simp))
end Go.Proofs.Ytafhjfkdlmijdaa
namespace Go.Proofs.Ytafhjfkdlmijdaa
open Go.RowKit
def instZ : InstD := ⟨40, 1, 5, 1, 3, [⟨60, 2⟩], [⟨2, 5, 90, 1⟩], [[0, 0, 0], [0, 0, 0], [0, 0, 0]], [[0, 0, 0], [0, 0, 0], [0, 0, 0]]⟩
theorem instZ_eq : makeD smallZ = instZ := by decide
def inst17 : InstD := (instZ.putCost 0 1 5).putCost 1 2 7
def plan17 : PlanD := ⟨[[⟨0, 2⟩]], [⟨0, [0]⟩]⟩
theorem wf17 : InstWf inst17 := by
 unfold InstWf wf64 inst17 instZ InstD.putCost setAt maxLen; simp
theorem check17 : planCheck inst17 plan17 = 0 := by decide +kernel
theorem cost17 : costOf inst17 plan17 = 12 := by decide +kernel
theorem check17e : planCheck inst17 ⟨[], []⟩ = 8 := by decide +kernel
theorem inst17_ok : inst17.custs.length ≤ 6 := by decide
theorem planE_rep (w : World) : planS.rep w (fun _ => True) ⟨[], []⟩ [.slice none 0 0, .slice none 0 0] :=
 ⟨_, _, rfl, ⟨none, 0, 0, 0, rfl, Nat.le_refl _, Nat.zero_le _, fun h => absurd h (Nat.not_lt_zero _), fun i h => absurd h (Nat.not_lt_zero _)⟩, ⟨none, 0, 0, 0, rfl, Nat.le_refl _, Nat.zero_le _, fun h => absurd h (Nat.not_lt_zero _), fun i h => absurd h (Nat.not_lt_zero _)⟩⟩
theorem planOne_rep {w : World} {h1 h2 h3 h4 : Nat} {s l b c : Int} {T1 T2 T3 T4 : TypeId} (r1 : Row w h1 T1 [.int .i64 s, .int .i64 l]) (r2 : Row w h2 T2 [.slice (some ⟨h1, 0, none⟩) 1 1]) (r3 : Row w h3 T3 [.int .i64 c]) (r4 : Row w h4 T4 [.int .i64 b, .slice (some ⟨h3, 0, none⟩) 1 1])
  (w1 : wf64 s) (w2 : wf64 l) (w3 : wf64 b) (w4 : wf64 c) : planS.rep w (fun _ => True) ⟨[[⟨s, l⟩]], [⟨b, [c]⟩]⟩ [.slice (some ⟨h2, 0, none⟩) 1 1, .slice (some ⟨h4, 0, none⟩) 1 1] := by
 have e1 : (sliceS stopS).rep w (fun _ => True) [⟨s, l⟩] [.slice (some ⟨h1, 0, none⟩) 1 1] := lit1 (S := stopS) ⟨rfl, w1, w2⟩ r1 trivial
 have e2 : trucksS.rep w (fun _ => True) [[⟨s, l⟩]] [.slice (some ⟨h2, 0, none⟩) 1 1] := lit1 (S := sliceS stopS) e1 r2 trivial
 have e3 : (sliceS intS).rep w (fun _ => True) [c] [.slice (some ⟨h3, 0, none⟩) 1 1] := lit1 (S := intS) ⟨rfl, w4⟩ r3 trivial
 have e4 : bikesS.rep w (fun _ => True) [⟨b, [c]⟩] [.slice (some ⟨h4, 0, none⟩) 1 1] := lit1 (S := bikeS) ⟨_, rfl, w3, e3⟩ r4 trivial
 exact ⟨_, _, rfl, e2, e4⟩
set_option maxRecDepth 100000 in
set_option maxHeartbeats 3200000 in
theorem awake17_c (w : World) : Calls Try.prog 48 #[] w fun e w' => e = .returned (.bool true) ∧ Below w.heap.size w w' := by
 go_enter Try.func48, Try.ntmps48
 go_wp2_with fail
 refine (one_c _).mono ?_
 rintro e w1 ⟨ds, rfl, hi, hb⟩
 rw [instZ_eq] at hi
 obtain ⟨gs, cs1, gc, cc1, gco, cco, rco, gti, cti, rti, I⟩ := hi.at
 obtain rfl := I.lit
 clear hi
 have R0 := Row.new (w := w1) (e := 33) (cs := [.int .i64 instZ.fin, .int .i64 instZ.tmany, .int .i64 instZ.troom, .int .i64 instZ.bmany, .int .i64 instZ.broom, .slice (some ⟨gs, 0, none⟩) instZ.sats.length cs1, .slice (some ⟨gc, 0, none⟩) instZ.custs.length cc1, .slice (some ⟨gco, 0, none⟩) instZ.cost.length cco, .slice (some ⟨gti, 0, none⟩) instZ.time.length cti]) rfl
 have hob : Old w1 (w1.alloc (.cells ([.int .i64 instZ.fin, .int .i64 instZ.tmany, .int .i64 instZ.troom, .int .i64 instZ.bmany, .int .i64 instZ.broom, .slice (some ⟨gs, 0, none⟩) instZ.sats.length cs1, .slice (some ⟨gc, 0, none⟩) instZ.custs.length cc1, .slice (some ⟨gco, 0, none⟩) instZ.cost.length cco, .slice (some ⟨gti, 0, none⟩) instZ.time.length cti]).toArray 33)) := (Below.refl _ _).alloc (Nat.le_refl _) _
 have I0 := I.below hob
 have hB0 := below_step hb hob
 have hzb := hb.size
 clear hob I hb
 go_upto_region 2 with fail
 generalize hwq : w1.alloc (.cells _ 33) = wq at *
 clear hwq
 go_cut [] (fun wx => InstAt 38 112 34 2 wx w.heap.size inst17 ([.int .i64 instZ.fin, .int .i64 instZ.tmany, .int .i64 instZ.troom, .int .i64 instZ.bmany, .int .i64 instZ.broom, .slice (some ⟨gs, 0, none⟩) instZ.sats.length cs1, .slice (some ⟨gc, 0, none⟩) instZ.custs.length cc1, .slice (some ⟨gco, 0, none⟩) instZ.cost.length cco, .slice (some ⟨gti, 0, none⟩) instZ.time.length cti]) gs cs1 gc cc1 gco cco rco gti cti rti ∧ Row wx w1.heap.size 33 ([.int .i64 instZ.fin, .int .i64 instZ.tmany, .int .i64 instZ.troom, .int .i64 instZ.bmany, .int .i64 instZ.broom, .slice (some ⟨gs, 0, none⟩) instZ.sats.length cs1, .slice (some ⟨gc, 0, none⟩) instZ.custs.length cc1, .slice (some ⟨gco, 0, none⟩) instZ.cost.length cco, .slice (some ⟨gti, 0, none⟩) instZ.time.length cti]) ∧ Below w.heap.size w wx)
 case first =>
  obtain ⟨c0, r0, l0, m0⟩ := I0.costs.row (i := 0) (by decide)
  obtain ⟨c1, r1, l1, m1⟩ := I0.costs.row (i := 1) (by decide)
  have hne := I0.costs.apart (i := 0) (i' := 1) (by decide) (by decide) (by decide)
  have I2 := (I0.setCost (i := 0) (j := 1) (by decide) (by decide) (by decide) (by decide) (by decide) 5)
  have I3 := (I2.setCost (i := 1) (j := 2) (by decide) (by decide) (by decide) (by decide) (by decide) 7)
  have hr0 := R0.ne r0 (by decide)
  have hr1 := R0.ne r1 (by decide)
  generalize hx0 : rco.getD 0 0 = x0 at *
  generalize hx1 : rco.getD 1 0 = x1 at *
  clear hx0 hx1 m0 m1
  have R3 := hid ((R0.setOther (a := ⟨x0, 1, none⟩) hr0 (intV 5)).setOther (a := ⟨x1, 2, none⟩) hr1 (intV 7))
  have hB3 := hid ((hB0.setCell (p := ⟨x0, 1, none⟩) l0 (intV 5)).setCell (p := ⟨x1, 2, none⟩) l1 (intV 7))
  have HI3 := hid I3
  have d0 := r0.cell (j := 1) (by decide)
  have d1 := r1.cell (j := 2) (by decide)
  have f0 := r0.frozen 1
  have f1 := r1.frozen 2
  have hx0 : ∀ w, (Instr.indexAt 31 (.slice (some ⟨gco, 0, none⟩) instZ.cost.length cco) (.int .i64 0)).run Try.prog w = .ok (.pointer (some ⟨gco, 0, none⟩)) w := idx_at1 Try.underlying31 sz_row rfl (k := 0) (by decide)
  have hx1 : ∀ w, (Instr.indexAt 31 (.slice (some ⟨gco, 0, none⟩) instZ.cost.length cco) (.int .i64 1)).run Try.prog w = .ok (.pointer (some ⟨gco, 1, none⟩)) w := idx_at1 Try.underlying31 sz_row rfl (k := 1) (by decide)
  have hx2 : ∀ w, (Instr.indexAt 34 (.slice (some ⟨x0, 0, none⟩) (instZ.cost.getD 0 []).length (instZ.cost.getD 0 []).length) (.int .i64 1)).run Try.prog w = .ok (.pointer (some ⟨x0, 1, none⟩)) w := idx_at1 Try.underlying34 sz_i64 rfl (k := 1) (by decide)
  have hx3 : ∀ w, (Instr.indexAt 34 (.slice (some ⟨x1, 0, none⟩) (instZ.cost.getD 1 []).length (instZ.cost.getD 1 []).length) (.int .i64 2)).run Try.prog w = .ok (.pointer (some ⟨x1, 2, none⟩)) w := idx_at1 Try.underlying34 sz_i64 rfl (k := 2) (by decide)
  clear I0 I2 I3 hr0 hr1 r0 r1 hB0
  obtain ⟨q0, q1, q2, q3, q4, q5, q6, q7, q8⟩ := row9 R0
  have z7 : ∀ e : At (Old wq), _ := fun e => e.cell q7
  have z9 : ∀ e : At (Old wq), _ := fun e => e.cell c0
  have z10 : ∀ e : At (Old wq), _ := fun e => e.cell c1
  refine wp_region_mix (Old wq) [9, 10, 11] [([0, 1, 2, 3, 4, 5, 6, 7], 8, false), ([], 9, true), ([], 10, true), ([], 11, true)] (by kernel_rfl) (by kernel_rfl) (fun _ _ d _ _ h => by cases d <;> exact h) (Old.drew _) ?_
  simp only [mixOf, List.map_cons, List.map_nil, Array.getD_eq_getD_getElem?, List.getElem?_toArray, List.getElem?_cons_succ, List.getElem?_cons_zero, Option.getD_some, wpMix]
  repeat (go_big_quiet_step (fail))
  refine wpQuiet_nil ?_
  go_wp2
  refine ⟨Old.drew _, wpQuiet_nil ?_⟩
  go_wp2
  refine wpQuiet_nil ?_
  go_wp2
  refine wpQuiet_nil ?_
  go_wp2
  go_meet
  exact ⟨HI3.out.drew, R3.out.drew, hB3.out.drew⟩
 case rest =>
  obtain ⟨I, R, hB⟩ := hcut
  obtain ⟨wq, rfl⟩ : ∃ wq : World, wq = wc := ⟨_, rfl⟩
  obtain ⟨W, hW, hold, r1, r2, r3, r4, r5, hz⟩ := allocs5 wq [.int .i64 0, .int .i64 2] [.slice (some ⟨wq.heap.size, 0, none⟩) 1 1] [.int .i64 0] [.int .i64 0, .slice (some ⟨wq.heap.size + 2, 0, none⟩) 1 1] [.slice (some ⟨wq.heap.size + 1, 0, none⟩) 1 1, .slice (some ⟨wq.heap.size + 3, 0, none⟩) 1 1] 105 108 3 128 46
  have HW := hid hW
  have R1 := R.below hold
  have hB1 := below_step hB hold
  have hI : instS.rep W (fun b => w.heap.size ≤ b) inst17 _ := (I.below hold).own.rep wf17
  have hP := planOne_rep (s := 0) (l := 2) (b := 0) (c := 0) r1 r2 r3 r4 (by unfold wf64; decide) (by unfold wf64; decide) (by unfold wf64; decide) (by unfold wf64; decide)
  have HI := hid hI
  have HP := hid hP
  obtain ⟨q0, q1, q2, q3, q4, q5, q6, q7, q8⟩ := row9 R
  have hzq := R.lt
  have hzq1 : w1.heap.size < wq.heap.size + 1 := by omega
  have hzq2 : w1.heap.size < wq.heap.size + 1 + 1 := by omega
  have hzq3 : w1.heap.size < wq.heap.size + 1 + 1 + 1 := by omega
  have hzq4 : w1.heap.size < wq.heap.size + 1 + 1 + 1 + 1 := by omega
  clear hW hold I R hB hI hP r1 r2 r3 r4
  go_wp2_with fail
  rw [show wq.heap.size + 1 + 1 + 1 = wq.heap.size + 3 from rfl, show wq.heap.size + 1 + 1 = wq.heap.size + 2 from rfl, ← HW.out]
  refine (cost_c HI.out HP.out (fun _ => inst17_ok) (by unfold PlanSmall; decide)).mono ?_
  rintro e w2 ⟨rfl, hb2⟩
  rw [show (⟨[[⟨0, 2⟩]], [⟨0, [0]⟩]⟩ : PlanD) = plan17 from rfl, cost17, check17]
  have R2 := R1.below hb2
  have P2 := r5.below hb2
  have hB2 := below_step hB1 hb2
  have HI2 := hid (instS.below HI.out hb2)
  have HP2 := hid (planS.below HP.out hb2)
  clear q0 q1 q2 q3 q4 q5 q6 q7 q8 HI HP R1 r5 hB1 hb2 HW
  obtain ⟨q0, q1, q2, q3, q4, q5, q6, q7, q8⟩ := row9 R2
  obtain ⟨p0, p1⟩ := row2 P2
  go_wp2_with fail
  refine (planCheck_c HI2.out HP2.out (fun _ => inst17_ok) (by unfold PlanSmall; decide)).mono ?_
  rintro e w3 ⟨rfl, hb3⟩
  rw [show (⟨[[⟨0, 2⟩]], [⟨0, [0]⟩]⟩ : PlanD) = plan17 from rfl, check17]
  have R3 := R2.below hb3
  have hB3 := below_step hB2 hb3
  have HI3 := hid (instS.below HI2.out hb3)
  clear q0 q1 q2 q3 q4 q5 q6 q7 q8 p0 p1 HI2 HP2 R2 P2 hB2 hb3
  obtain ⟨q0, q1, q2, q3, q4, q5, q6, q7, q8⟩ := row9 R3
  go_wp2_with fail
  refine (planCheck_c HI3.out (planE_rep _) (fun _ => inst17_ok) (by unfold PlanSmall; decide)).mono ?_
  rintro e w4 ⟨rfl, hb4⟩
  rw [check17e]
  go_wp2
  go_ret
  exact ⟨rfl, below_step hB3 hb4⟩
end Go.Proofs.Ytafhjfkdlmijdaa
namespace Go.Proofs.Ytafhjfkdlmijdaa
open Go.RowKit
theorem between_c {w : World} (a f t : Int) :
  Calls Try.prog 100 #[.int .i64 a, .int .i64 f, .int .i64 t] w fun e w' => e = .returned (.bool (betw a f t)) ∧ Below w.heap.size w w' := by
 go_enter Try.func100, Try.ntmps100
 by_cases h1 : f ≤ a
 ·have h1' : a ≥ f := h1
  go_wp2
  go_ret
  refine ⟨?_, Below.refl _ _⟩
  simp [betw, h1]
 ·have h1' : ¬ (a ≥ f) := h1
  go_wp2
  go_ret
  refine ⟨?_, Below.refl _ _⟩
  unfold betw
  rw [decide_eq_false (by omega)]; rfl
theorem sz_ride : ∀ w, (sizeOf 85).run Try.prog w = .ok 3 w := fun w => by kernel_rfl
structure FSt (w0 : World) (e1 e2 : TypeId) (ps ts : List Value) (w : World) : Prop where
 bel : Below w0.heap.size w0 w
 one : Row w w0.heap.size e1 ps
 two : Row w (w0.heap.size + 1) e2 ts
theorem FSt.below {w0 w w' : World} {e1 e2 : TypeId} {ps ts : List Value} (h : FSt w0 e1 e2 ps ts w) (hb : Below w.heap.size w w') : FSt w0 e1 e2 ps ts w' := ⟨below_step h.bel hb, h.one.below hb, h.two.below hb⟩
theorem FSt.start (w0 : World) (e1 e2 : TypeId) (ps ts : List Value) : FSt w0 e1 e2 ps ts ((w0.alloc (.cells ps.toArray e1)).alloc (.cells ts.toArray e2)) := by
 have h1 := (Row.new (w := w0) (g := w0.heap.size) (e := e1) (cs := ps) rfl).alloc (.cells ts.toArray e2)
 have h2 := Row.new (w := w0.alloc (.cells ps.toArray e1)) (e := e2) (cs := ts) rfl
 rw [show (w0.alloc (.cells ps.toArray e1)).heap.size = w0.heap.size + 1 by simp] at h2
 exact ⟨((Below.refl _ _).alloc (Nat.le_refl _) _).alloc (by simp) _, h1, h2⟩
theorem FSt.alloc {w0 w : World} {e1 e2 : TypeId} {ps ts : List Value} (h : FSt w0 e1 e2 ps ts w) (b : Obj) : FSt w0 e1 e2 ps ts (w.alloc b) := h.below ((Below.refl _ _).alloc (Nat.le_refl _) b)
theorem FSt.drewN {w0 w : World} {e1 e2 : TypeId} {ps ts : List Value} (h : FSt w0 e1 e2 ps ts w) (n : Nat) : FSt w0 e1 e2 ps ts (w.drewN n) := h.below (below_drewN (Below.refl _ _) n)
set_option maxRecDepth 100000 in
set_option maxHeartbeats 1600000 in
theorem fits_c {w : World} {F G : Nat → Prop} {p : PlanD} {t : TimesD} {ps ts : List Value} (hp : planS.rep w F p ps) (ht : timesS.rep w G t ts) (hl1 : t.trucks.length = p.trucks.length) (hl2 : t.bikes.length = p.bikes.length) (hT : p.trucks.length ≤ 60) (hB : p.bikes.length ≤ 60)
  (hT1 : ∀ t ∈ p.trucks, t.length ≤ 60) (hB1 : ∀ b ∈ p.bikes, b.stops.length ≤ 60) :
  Calls Try.prog 75 #[.agg ps.toArray, .agg ts.toArray] w fun e w' => e = .returned (.bool (fitsT p t p.trucks.length && fitsB p t p.bikes.length)) ∧ Below w.heap.size w w' := by
 obtain ⟨tv, bv, rfl, h3, h4⟩ := hp
 obtain ⟨a2, b2, off2, c2, hs2, hlc2, hc2, ha2, -, hcell2⟩ := trucks_open h3
 obtain rfl := List.cons.inj hs2 |>.1
 obtain ⟨a4, b4, off4, c4, hs4, hlc4, hc4, ha4, -, hcell4⟩ := bikes_open h4
 obtain rfl := List.cons.inj hs4 |>.1
 obtain ⟨tv, bv, rfl, h5, h6⟩ := ht
 obtain ⟨a5, b5, off5, c5, hs5, hlc5, hc5, ha5, -, hcell5⟩ := rows_open h5
 obtain rfl := List.cons.inj hs5 |>.1
 obtain ⟨a6, b6, off6, c6, hs6, hlc6, hc6, ha6, -, hcell6⟩ := rides_open h6
 obtain rfl := List.cons.inj hs6 |>.1
 clear hs2 hs4 hs5 hs6 h3 h4 h5 h6
 rw [hl1] at hlc5 ha5
 rw [hl2] at hlc6 ha6
 have HCELL2 := hid hcell2
 have HCELL4 := hid hcell4
 have HCELL5 := hid hcell5
 have HCELL6 := hid hcell6
 have HL1 := hid hl1
 have HL2 := hid hl2
 have HT1 := hid hT1
 have HB1 := hid hB1
 rw [hl1, hl2]
 have hs0 := FSt.start w 46 54 [.slice a2 p.trucks.length c2, .slice a4 p.bikes.length c4] [.slice a5 p.trucks.length c5, .slice a6 p.bikes.length c6]
 obtain ⟨p0, p1⟩ := row2 hs0.one
 obtain ⟨t0, t1⟩ := row2 hs0.two
 clear hcell2 hcell4 hcell5 hcell6 hl1 hl2 hT1 hB1
 go_enter Try.func75, Try.ntmps75
 go_upto_region 1 with fail
 generalize (w.alloc (.cells #[.slice a2 p.trucks.length c2, .slice a4 p.bikes.length c4] 46)).alloc (.cells #[.slice a5 p.trucks.length c5, .slice a6 p.bikes.length c6] 54) = wz at hs0 p0 p1 t0 t1 ⊢
 have HS0 := hid hs0
 clear hs0
 go_wp2
 go_loopw [5, 29] (fun ov kv wr => ∃ k : Nat, k ≤ p.trucks.length ∧ kv = .int .i64 k ∧ ov = .bool (fitsT p t k) ∧ FSt w 46 54 [.slice a2 p.trucks.length c2, .slice a4 p.bikes.length c4] [.slice a5 p.trucks.length c5, .slice a6 p.bikes.length c6] wr) (fun _ kv _ => p.trucks.length - (intOf kv).toNat)
 case atStart => exact ⟨0, Nat.zero_le _, rfl, rfl, HS0.out⟩
 case round =>
  clear p0 p1 t0 t1 HS0
  obtain ⟨k, hk, rfl, rfl, hst⟩ := hrel
  obtain ⟨wo, rfl⟩ : ∃ wo : World, wo = wr := ⟨_, rfl⟩
  have HST := hid hst
  obtain ⟨p0, p1⟩ := row2 hst.one
  obtain ⟨t0, t1⟩ := row2 hst.two
  by_cases hlt : k < p.trucks.length
  ·have hx := idx_at1 (c := c2) Try.underlying39 sz_truck (ha2 (by omega)) hlt
   have hx5 := idx_at1 (c := c5) Try.underlying31 sz_row (ha5 (by omega)) hlt
   obtain ⟨sv, g0, hr⟩ := HCELL2.out k hlt
   obtain ⟨a3, b3, off3, c3, hs3, hl3, hc3, -, -, -, -⟩ := stops_open hr
   obtain rfl := List.cons.inj hs3 |>.1
   obtain ⟨sv, g1, hr⟩ := HCELL5.out k (by rw [HL1.out]; exact hlt)
   obtain ⟨a7, b7, off7, c7, hs7, hl7, hc7, -, -, -, -⟩ := ints_open hr
   obtain rfl := List.cons.inj hs7 |>.1
   have g0 := below_cell hst.bel g0
   have g1 := below_cell hst.bel g1
   have htl := HT1.out _ (List.getElem_mem hlt)
   have HF := hid (show fitsT p t (k + 1) = (fitsT p t k && decide ((t.trucks[k]'(by rw [HL1.out]; exact hlt)).length = p.trucks[k].length)) from by
    unfold fitsT
    rw [all_succ, List.getD_eq_getElem?_getD, List.getD_eq_getElem?_getD, List.getElem?_eq_getElem hlt, List.getElem?_eq_getElem (by rw [HL1.out]; exact hlt)]
    rfl)
   obtain ⟨n1, hn1⟩ : ∃ n, n = (t.trucks[k]'(by rw [HL1.out]; exact hlt)).length := ⟨_, rfl⟩
   obtain ⟨n2, hn2⟩ : ∃ n, n = p.trucks[k].length := ⟨_, rfl⟩
   rw [← hn1, ← hn2] at HF
   rw [← hn1] at g1 hl7
   rw [← hn2] at g0 hl3 htl
   obtain ⟨ok, hok⟩ : ∃ b, b = fitsT p t k := ⟨_, rfl⟩
   rw [← hok] at HF ⊢
   have hal : Below wo.heap.size wo (wo.alloc (.cells #[.slice a3 n2 c3] 108)) := (Below.refl _ _).alloc (Nat.le_refl _) _
   have q0 := below_cell hal t0
   have q1 := below_cell hal g1
   have q2 := (Row.new (w := wo) (g := wo.heap.size) (e := 108) (cs := [.slice a3 n2 c3]) rfl).cell (j := 0) (by simp)
   simp only [List.getElem_cons_zero] at q2
   have HS1 := hid (HST.out.below hal)
   obtain ⟨X, hX⟩ : ∃ X, X = wo.heap.size := ⟨_, rfl⟩
   rw [← hX] at q2
   clear hs3 hs7 hr hn1 hn2 hok hst hal
   go_upto_region 5 with fail
   rw [← hX]
   generalize wo.alloc (.cells #[.slice a3 n2 c3] 108) = wq at HS1 q0 q1 q2 ⊢
   clear hX p0 p1 t0 t1 g0 g1
   cases ok
   ·go_wp2
    go_quiet (fail)
    go_wp2
    go_roundw
    case rel => exact ⟨k + 1, by omega, by go_num, by rw [HF.out]; rfl, HS1.out.drewN _⟩
    case measure => simp [intOf]; omega
   ·go_wp2
    go_quiet (fail)
    go_wp2
    go_roundw
    case rel => exact ⟨k + 1, by omega, by go_num, by rw [HF.out, Bool.true_and]; exact congrArg Value.bool (beq_ofNat _ _), HS1.out.drewN _⟩
    case measure => simp [intOf]; omega
  ·obtain rfl : k = p.trucks.length := by omega
   obtain ⟨ot, hot⟩ : ∃ b, b = fitsT p t p.trucks.length := ⟨_, rfl⟩
   rw [← hot]
   go_wp2
   go_loopw [5, 51] (fun ov kv wr => ∃ k : Nat, k ≤ p.bikes.length ∧ kv = .int .i64 k ∧ ov = .bool (ot && fitsB p t k) ∧ FSt w 46 54 [.slice a2 p.trucks.length c2, .slice a4 p.bikes.length c4] [.slice a5 p.trucks.length c5, .slice a6 p.bikes.length c6] wr) (fun _ kv _ => p.bikes.length - (intOf kv).toNat)
   case atStart => exact ⟨0, Nat.zero_le _, rfl, by simp [fitsB], HST.out⟩
   case round =>
    clear p0 p1 t0 t1 HST hst
    obtain ⟨k, hk, rfl, rfl, hst⟩ := hrel
    obtain ⟨wo, rfl⟩ : ∃ wo : World, wo = wr := ⟨_, rfl⟩
    have HST := hid hst
    obtain ⟨p0, p1⟩ := row2 hst.one
    obtain ⟨t0, t1⟩ := row2 hst.two
    by_cases hlt : k < p.bikes.length
    ·have hx := idx_at (c := c4) Try.underlying44 sz_bike (ha4 (by omega)) hlt
     have hx5 := idx_at (c := c6) Try.underlying52 sz_ride (ha6 (by omega)) hlt
     obtain ⟨sv, g0, g00, -, hr⟩ := HCELL4.out k hlt
     obtain ⟨a3, b3, off3, c3, hs3, hl3, hc3, -, -, -, -⟩ := ints_open hr
     obtain rfl := List.cons.inj hs3 |>.1
     obtain ⟨sv, -, g1, -, -, -, hr⟩ := HCELL6.out k (by rw [HL2.out]; exact hlt)
     obtain ⟨a7, b7, off7, c7, hs7, hl7, hc7, -, -, -, -⟩ := ints_open hr
     obtain rfl := List.cons.inj hs7 |>.1
     have g0 := below_cell hst.bel g0
     have g00 := below_cell hst.bel g00
     have g1 := below_cell hst.bel g1
     have htl := HB1.out _ (List.getElem_mem hlt)
     have HF := hid (show fitsB p t (k + 1) = (fitsB p t k && decide ((t.bikes[k]'(by rw [HL2.out]; exact hlt)).starts.length = p.bikes[k].stops.length)) from by
      unfold fitsB rideAt
      rw [all_succ, List.getD_eq_getElem?_getD, List.getD_eq_getElem?_getD, List.getElem?_eq_getElem hlt, List.getElem?_eq_getElem (by rw [HL2.out]; exact hlt)]
      rfl)
     obtain ⟨n1, hn1⟩ : ∃ n, n = (t.bikes[k]'(by rw [HL2.out]; exact hlt)).starts.length := ⟨_, rfl⟩
     obtain ⟨n2, hn2⟩ : ∃ n, n = p.bikes[k].stops.length := ⟨_, rfl⟩
     obtain ⟨sa, hsa⟩ : ∃ n, n = p.bikes[k].sat := ⟨_, rfl⟩
     rw [← hn1, ← hn2] at HF
     rw [← hn1] at g1 hl7
     rw [← hn2] at g00 hl3 htl
     rw [← hsa] at g0
     have HFN := hid (show ∀ ok, ok = (ot && fitsB p t k) → (ot && fitsB p t (k + 1)) = (ok && decide (n1 = n2)) from fun ok h => by rw [h, HF.out, Bool.and_assoc])
     obtain ⟨ok, hok⟩ : ∃ b, b = (ot && fitsB p t k) := ⟨_, rfl⟩
     rw [← hok]
     have HF2 := hid (HFN.out ok hok)
     have hal : Below wo.heap.size wo (wo.alloc (.cells #[.int .i64 sa, .slice a3 n2 c3] 128)) := (Below.refl _ _).alloc (Nat.le_refl _) _
     have q0 := below_cell hal t1
     have q1 := below_cell hal g1
     have q2 := (Row.new (w := wo) (g := wo.heap.size) (e := 128) (cs := [.int .i64 sa, .slice a3 n2 c3]) rfl).cell (j := 1) (by simp)
     simp only [List.getElem_cons_succ, List.getElem_cons_zero] at q2
     have HS1 := hid (HST.out.below hal)
     obtain ⟨X, hX⟩ : ∃ X, X = wo.heap.size := ⟨_, rfl⟩
     rw [← hX] at q2
     clear hs3 hs7 hr hn1 hn2 hok hst hal hsa HF HFN
     go_upto_region 10 with fail
     rw [← hX]
     generalize wo.alloc (.cells #[.int .i64 sa, .slice a3 n2 c3] 128) = wq at HS1 q0 q1 q2 ⊢
     clear hX p0 p1 t0 t1 g0 g00 g1
     cases ok
     ·go_wp2
      go_quiet (fail)
      go_wp2
      go_roundw
      case rel => exact ⟨k + 1, by omega, by go_num, by rw [HF2.out]; rfl, HS1.out.drewN _⟩
      case measure => simp [intOf]; omega
     ·go_wp2
      go_quiet (fail)
      go_wp2
      go_roundw
      case rel => exact ⟨k + 1, by omega, by go_num, by rw [HF2.out, Bool.true_and]; exact congrArg Value.bool (beq_ofNat _ _), HS1.out.drewN _⟩
      case measure => simp [intOf]; omega
    ·obtain rfl : k = p.bikes.length := by omega
     go_wp2
     go_ret
     exact ⟨by rw [hot]; rfl, HST.out.bel⟩
end Go.Proofs.Ytafhjfkdlmijdaa
