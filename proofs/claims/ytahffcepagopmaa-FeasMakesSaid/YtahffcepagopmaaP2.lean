/- Texts of the proof, joined: Drops, Set, Trucks, Bikes, Good, Check, Way, Nodes, Lit, Order, Graph. -/
import Derived.Laws.ShiftsVar
import Derived.Laws.BitsAllLaws
import Derived.Lib.BitFns
import Derived.Deep.DeepCutAuto
import Derived.Deep.QuietTactic
import Derived.BigQuiet
import Derived.Laws.OwnMore
import Derived.BigRegion
import Derived.Test.YtahffcepagopmaaP1
set_option linter.all false
namespace Go.Proofs.Ytahffcepagopmaa
open Go.RowKit
def addStop (out : List Int) (s : StopD) : List Int := out.set s.sat.toNat (out.getD s.sat.toNat 0 + s.load)
def addTruck (out : List Int) (t : List StopD) : List Int := t.foldl addStop out
def dropsD (x : InstD) (l : List (List StopD)) : List Int := l.foldl addTruck (List.replicate x.sats.length 0)
theorem addStop_len (out : List Int) (s : StopD) : (addStop out s).length = out.length := by unfold addStop; simp
theorem addStops_len (l : List StopD) : ∀ out : List Int, (l.foldl addStop out).length = out.length := by
 induction l with
 | nil => intro out; rfl
 | cons c l ih => intro out; rw [List.foldl_cons, ih, addStop_len]
theorem addTrucks_len (l : List (List StopD)) : ∀ out : List Int, (l.foldl addTruck out).length = out.length := by
 induction l with
 | nil => intro out; rfl
 | cons b l ih => intro out; rw [List.foldl_cons, ih]; exact addStops_len b out
def tstopsUp (l : List (List StopD)) (k : Nat) : Nat := ((l.take k).map List.length).sum
theorem tstopsUp_succ {l : List (List StopD)} {k : Nat} (h : k < l.length) : tstopsUp l (k + 1) = tstopsUp l k + l[k].length := by
 unfold tstopsUp; rw [List.take_succ_eq_append_getElem h, List.map_append, List.sum_append]; simp only [List.map_cons, List.map_nil, List.sum_cons, List.sum_nil, Nat.add_zero]
theorem tstopsUp_le {l : List (List StopD)} {k : Nat} : tstopsUp l k ≤ tstopsUp l l.length := by
 have h : l.map List.length = (l.take k).map List.length ++ (l.drop k).map List.length := by rw [← List.map_append, List.take_append_drop]
 unfold tstopsUp
 rw [List.take_length, h, List.sum_append]
 exact Nat.le_add_right _ _
def StopOk (x : InstD) (s : StopD) : Prop := (0 ≤ s.sat ∧ s.sat < x.sats.length) ∧ 1 ≤ s.load ∧ s.load ≤ 1000000000
set_option maxRecDepth 100000 in
set_option maxHeartbeats 1600000 in
theorem drops_c {w : World} {F G : Nat → Prop} {x : InstD} {p : PlanD} {cs ps : List Value} (h : instS.rep w F x cs) (hp : planS.rep w G p ps) (hn : x.sats.length ≤ 1000000)
  (hok : ∀ t ∈ p.trucks, ∀ s ∈ t, StopOk x s) (ht : tstopsUp p.trucks p.trucks.length ≤ 1000000) :
  Calls Try.prog 59 #[.agg ps.toArray, .agg cs.toArray] w fun e w' => ∃ g, e = .returned (.slice (some ⟨g, 0, none⟩) x.sats.length x.sats.length) ∧ Row w' g 2 ((dropsD x p.trucks).map intV) ∧ w.heap.size ≤ g ∧ Below w.heap.size w w' := by
 obtain ⟨s, c, co, ti, rfl, -, h1, h2, -, -⟩ := h
 obtain ⟨a, b, off, c1, hs, -, -, -, -, -, -⟩ := sats_open h1
 obtain rfl := List.cons.inj hs |>.1
 obtain ⟨tv, bv, rfl, h3, -⟩ := hp
 obtain ⟨a2, b2, off2, c2, hs2, hl2, hc2, ha2, -, hcell2⟩ := trucks_open h3
 obtain rfl := List.cons.inj hs2 |>.1
 clear hs hs2 h1 h2 h3
 obtain ⟨i0, hi, hz0, hz1, hz2⟩ := info_parts info_i64
 have hmk := make_ints Try.underlying65 hi hz0 hz1 hz2 (n := x.sats.length) hn
 clear hi hz0 hz1 hz2 i0
 go_enter Try.func59, Try.ntmps59
 go_wp2
 go_loopw [17] (fun i wr => ∃ (k : Nat) (out : List Int), k ≤ p.trucks.length ∧ i = .int .i64 k ∧ out = (p.trucks.take k).foldl addTruck (List.replicate x.sats.length 0) ∧ Small9 out (tstopsUp p.trucks k) ∧ Row wr (w.heap.size + 2) 2 (out.map intV) ∧
   Below w.heap.size w wr) (fun i _ => p.trucks.length - (intOf i).toNat)
 case atStart => exact ⟨0, _, Nat.zero_le _, rfl, rfl, Small9.zero _, by have := Row.make (w := (w.alloc (.cells #[.slice a2 p.trucks.length c2, bv] 44)).alloc (.cells #[.int .i64 x.fin, .int .i64 x.tmany, .int .i64 x.troom, .int .i64 x.bmany, .int .i64 x.broom, .slice a x.sats.length c1, c, co, ti] 39)) (n := x.sats.length) (e := 2); simpa using this, (((Below.refl _ _).alloc (Nat.le_refl _) _).alloc (by simp) _).alloc (by simp; omega) _⟩
 case round =>
  obtain ⟨k, out, hk, rfl, hout, hsm, hrow, hb⟩ := hrel
  obtain ⟨wo, rfl⟩ : ∃ wo : World, wo = wr := ⟨_, rfl⟩
  have HOUT := hid hout
  have HSM := hid hsm
  have HROW := hid hrow
  have hol : out.length = x.sats.length := by rw [hout, addTrucks_len]; simp
  have hz : w.heap.size + 2 < wo.heap.size := hrow.lt
  have hz0 : w.heap.size < wo.heap.size := by omega
  clear hout hsm hrow
  by_cases hlt : k < p.trucks.length
  ·have hx := idx_at1 (c := c2) Try.underlying41 sz_truck (ha2 (by omega)) hlt
   obtain ⟨sv, g0, hr⟩ := hcell2 k hlt
   obtain ⟨sp, hsp⟩ : ∃ sp, sp = p.trucks[k] := ⟨_, rfl⟩
   have hokk := hok _ (List.getElem_mem hlt)
   rw [← hsp] at hr hokk
   obtain ⟨a3, b3, off3, c3, hs3, hl3, hc3, ha3, -, hcell3, hwf3⟩ := stops_open hr
   obtain rfl := List.cons.inj hs3 |>.1
   have p0 := below_cell hb g0
   have hcnt := tstopsUp_succ hlt
   rw [← hsp] at hcnt
   have hcl := tstopsUp_le (l := p.trucks) (k := k + 1)
   have HCNT := hid hcnt
   have HB := hid (show p.trucks[k] = sp from hsp.symm)
   have HF := hid (foldl_take_succ addTruck (List.replicate x.sats.length 0) p.trucks k hlt)
   clear hcell2 ha2 hs3 hr g0 hsp hok
   have hsl : (sp.length : Int) ≤ 1000000 := by omega
   go_wp2
   go_loopw [24] (fun jj wx => ∃ (j : Nat) (o2 : List Int), j ≤ sp.length ∧ jj = .int .i64 j ∧ o2 = (sp.take j).foldl addStop out ∧ Small9 o2 (tstopsUp p.trucks k + j) ∧ Row wx (w.heap.size + 2) 2 (o2.map intV) ∧
     Below w.heap.size w wx ∧ wo.heap.size < wx.heap.size) (fun jj _ => sp.length - (intOf jj).toNat)
   case atStart => exact ⟨0, _, Nat.zero_le _, rfl, rfl, HSM.out, HROW.out.alloc _, hb.alloc hb.size _, by simp⟩
   case round =>
    obtain ⟨j, o2, hj, rfl, ho2, hs2, hr2, hb2, hzx⟩ := hrel
    obtain ⟨wi, rfl⟩ : ∃ wi : World, wi = wr := ⟨_, rfl⟩
    by_cases hjt : j < sp.length
    ·have hy := idx_at (c := c3) Try.underlying60 sz_stop (ha3 (by omega)) hjt
     have g3 := below_cell hb2 (hcell3 j hjt).1
     have g4 := below_cell hb2 (hcell3 j hjt).2
     have hst := hokk _ (List.getElem_mem hjt)
     obtain ⟨c, hc⟩ : ∃ c, c = sp[j] := ⟨_, rfl⟩
     rw [← hc] at g3 g4 hst
     obtain ⟨st, ld⟩ := c
     simp only [] at g3 g4
     have HC := hid hc
     have HTS := hid (foldl_take_succ addStop out sp j hjt)
     have HO2 := hid ho2
     have HS2 := hid hs2
     have HR2 := hid hr2
     have h2l : o2.length = x.sats.length := by rw [ho2, addStops_len, hol]
     obtain ⟨⟨e1, e2⟩, hld⟩ := hst
     simp only [] at e1 e2 hld
     clear hc ho2 hs2 hr2
     have his := idx_at1 (c := x.sats.length) Try.underlying65 sz_i64 (a := some ⟨w.heap.size + 2, 0, none⟩) rfl (k := st.toNat) (n := x.sats.length) (by omega)
     rw [Int.toNat_of_nonneg e1, Nat.zero_add] at his
     have hov := HS2.out.get (i := st.toNat) (by omega)
     have hoc := HR2.out.cell (j := st.toNat) (by rw [List.length_map]; omega)
     rw [List.getElem_map] at hoc
     have hof := HR2.out.frozen st.toNat
     obtain ⟨ov, hove⟩ : ∃ ov, ov = o2[st.toNat]'(by omega) := ⟨_, rfl⟩
     rw [← hove] at hov hoc
     unfold intV at hoc
     have HN := hid (show addStop o2 ⟨st, ld⟩ = o2.set st.toNat (ov + ld) from by
      show o2.set st.toNat (o2.getD st.toNat 0 + ld) = _
      rw [hove, List.getD_eq_getElem?_getD, List.getElem?_eq_getElem (by omega)]; rfl)
     have HSM2 := hid (HS2.out.add (i := st.toNat) hov (b := ld) ⟨by omega, by omega⟩)
     clear hove
     have hbd : 1000000000 * ((tstopsUp p.trucks k + j : Nat) : Int) ≤ 1000000000 * 1000000 := by omega
     have hzi : w.heap.size + 2 < wi.heap.size := by omega
     go_wp2
     generalize hwq : wi.alloc (.cells #[.int .i64 st, .int .i64 ld] 64) = wq
     have HWQ := hid hwq
     have hob : Old wi wq := by rw [← hwq]; exact (Below.refl _ _).alloc (Nat.le_refl _) _
     have k0 : wq.cell? ⟨wi.heap.size, 0, none⟩ = some (.int .i64 st) := by rw [← hwq]; simp
     have k1 : wq.cell? ⟨wi.heap.size, 1, none⟩ = some (.int .i64 ld) := by rw [← hwq]; simp
     have k2 := hob.cell' hoc
     have k3 := (HR2.out.below hob).frozen st.toNat
     have k4 := hb2.trans (hob.mono hb2.size)
     have HR3 := hid (HR2.out.below hob)
     have hsz : wi.heap.size < wq.heap.size := by rw [← hwq]; simp
     clear hwq hob hoc hof
     have z0 : ∀ e : At (Old wq), _ := fun e => e.cell k0
     have z1 : ∀ e : At (Old wq), _ := fun e => e.cell k1
     have z2 : ∀ e : At (Old wq), _ := fun e => e.cell k2
     refine wp_region_mix (Old wq) [9] [([0, 1, 2, 3, 4, 5, 6, 7], 8, false), ([], 9, true)] (by kernel_rfl) (by kernel_rfl) (fun _ _ d _ _ h => by cases d <;> exact h) (Old.drew _) ?_
     simp only [mixOf, List.map_cons, List.map_nil, Array.getD_eq_getD_getElem?, List.getElem?_toArray, List.getElem?_cons_succ, List.getElem?_cons_zero, Option.getD_some, wpMix]
     repeat (go_big_quiet_step (fail))
     refine wpQuiet_nil ?_
     go_wp2
     refine ⟨Old.drew _, wpQuiet_nil ?_⟩
     go_wp2
     go_roundw
     case rel =>
      have hr3 := HR3.out.drew.set (j := st.toNat) (by rw [List.length_map]; omega) (intV (ov + ld))
      rw [← List.map_set] at hr3
      refine ⟨j + 1, o2.set st.toNat (ov + ld), by omega, by go_num, by rw [HTS.out, ← HO2.out, ← HC.out, HN.out], HSM2.out, hr3, ?_, ?_⟩
      ·exact (k4.drew).setCell (by simp) _
      ·simp; omega
     case measure => simp [intOf]; omega
    ·have hjl : j = sp.length := by omega
     subst hjl
     go_wp2
     go_roundw
     case rel => exact ⟨k + 1, o2, by omega, by go_num, by rw [HF.out, HB.out, ← HOUT.out, ho2, List.take_length]; rfl, by rw [HCNT.out]; exact hs2, hr2, hb2⟩
     case measure => simp [intOf]; omega
  ·have hkl : k = p.trucks.length := by omega
   subst hkl
   have HL := hid (show dropsD x p.trucks = out from by rw [HOUT.out, List.take_length]; rfl)
   clear hcell2 ha2
   go_wp2
   go_ret
   exact ⟨_, rfl, by rw [HL.out]; exact HROW.out, by omega, hb⟩
end Go.Proofs.Ytahffcepagopmaa
namespace Go.Proofs.Ytahffcepagopmaa
open Go.RowKit
def setIn (i : Int) : Bool := decide (0 ≤ i) && decide (i < 64)
theorem in_c (i : Int) (w : World) : Calls Try.prog 86 #[.int .i64 i] w fun e w' => e = .returned (.bool (setIn i)) ∧ w' = w := by
 by_cases h1 : 0 ≤ i <;> by_cases h2 : i < 64
 all_goals
  go_enter Try.func86, Try.ntmps86
  go_wp2
  go_ret
  exact ⟨ret_bool (by simp [setIn]; omega), rfl⟩
theorem bit_has (m i : Nat) (hm : m < 18446744073709551616) : (bits BinOp.and IntKind.u64 ((m : Int) / 2 ^ i) 1 == 1) = m.testBit i := by
 have h1 : ((m : Int) / 2 ^ i) = ((m / 2 ^ i : Nat) : Int) := by simp
 have h2 : m / 2 ^ i < 18446744073709551616 := Nat.lt_of_le_of_lt (Nat.div_le_self _ _) hm
 rw [h1, show (1 : Int) = ((1 : Nat) : Int) from rfl, u64_and_nat _ _ h2 (by decide), nat_mask1, Nat.testBit_eq_decide_div_mod_eq]
 have h3 : m / 2 ^ i % 2 = 0 ∨ m / 2 ^ i % 2 = 1 := by omega
 rcases h3 with h3 | h3 <;> rw [h3] <;> rfl
theorem bit_with (m i : Nat) (hi : i < 64) (hm : m < 18446744073709551616) : bits BinOp.or IntKind.u64 (m : Int) (IntKind.u64.wrap (2 ^ i)) = ((m ||| 2 ^ i : Nat) : Int) := by
 have h2 : 2 ^ i < 18446744073709551616 := by
  have := Nat.pow_lt_pow_right (a := 2) (by decide) hi
  exact this
 have h1 : IntKind.u64.wrap (2 ^ i) = ((2 ^ i : Nat) : Int) := by
  rw [IntKind.wrap_u64, show ((2 : Int) ^ i) = ((2 ^ i : Nat) : Int) by simp]
  exact Int.emod_eq_of_lt (Int.natCast_nonneg _) (Int.ofNat_lt.2 h2)
 rw [h1, u64_or_nat _ _ hm h2]
theorem has_yes (m i : Nat) (hi : i < 64) (hm : m < 18446744073709551616) (w : World) : Calls Try.prog 75 #[.int .u64 (m : Int), .int .i64 (i : Int)] w fun e w' => e = .returned (.bool (m.testBit i)) ∧ w' = w := by
 have h1 := hid (show setIn (i : Int) = true from by simp [setIn]; omega)
 have h2 := hid (bit_has m i hm)
 clear hm
 go_enter Try.func75, Try.ntmps75
 go_wp2_with (go_at_call 86; refine (in_c _ _).mono ?_; rintro e w' ⟨rfl, rfl⟩; rw [h1.out])
 go_ret
 exact ⟨ret_bool h2.out, rfl⟩
theorem with_yes (m i : Nat) (hi : i < 64) (hm : m < 18446744073709551616) (w : World) : Calls Try.prog 76 #[.int .u64 (m : Int), .int .i64 (i : Int)] w fun e w' => e = .returned (.int .u64 ((m ||| 2 ^ i : Nat) : Int)) ∧ w' = w := by
 have h1 := hid (show setIn (i : Int) = true from by simp [setIn]; omega)
 have h2 := hid (bit_with m i hi hm)
 clear hm
 go_enter Try.func76, Try.ntmps76
 go_wp2_with (go_at_call 86; refine (in_c _ _).mono ?_; rintro e w' ⟨rfl, rfl⟩; rw [h1.out])
 go_ret
 exact ⟨ret_int h2.out, rfl⟩
theorem ones_c (m : Nat) (hm : m < 64) (w : World) : Calls Try.prog 87 #[.int .u64 (m : Int)] w fun e w' => e = .returned (.int .i64 (Lib.onesCount m : Nat)) ∧ w' = w := by
 go_enter Try.func87, Try.ntmps87
 go_wp2
 go_ret
 refine ⟨ret_int ?_, rfl⟩
 revert m
 decide +kernel
theorem len_c (m : Nat) (hm : m < 64) (w : World) : Calls Try.prog 77 #[.int .u64 (m : Int)] w fun e w' => e = .returned (.int .i64 (Lib.onesCount m : Nat)) ∧ w' = w := by
 go_enter Try.func77, Try.ntmps77
 go_wp2_with (go_at_call 87; refine (ones_c m hm _).mono ?_; rintro e w' ⟨rfl, rfl⟩)
 go_ret
 exact ⟨rfl, rfl⟩
end Go.Proofs.Ytahffcepagopmaa
namespace Go.Proofs.Ytahffcepagopmaa
open Go.RowKit
def stopBad (x : InstD) (m : Nat) (s : StopD) : Bool := decide (s.sat < 0) || decide ((x.sats.length : Int) ≤ s.sat) || m.testBit s.sat.toNat || decide (s.load < 1) || decide (1000000000 < s.load)
def stopSt (x : InstD) : Option (Nat × Int) → StopD → Option (Nat × Int)
 | none, _ => none
 | some (m, left), s => if stopBad x m s then none else some (m ||| 2 ^ s.sat.toNat, left - s.load)
def truckSt (x : InstD) (t : List StopD) : Option (Nat × Int) := t.foldl (stopSt x) (some (0, x.troom))
def truckGo (x : InstD) : List (List StopD) → Bool → Bool → Bool × Bool
 | [], r, l => (r, l)
 | t :: ts, r, l => match truckSt x t with
  | none => (false, l)
  | some (_, left) => truckGo x ts (r && decide (0 < t.length)) (l && decide (0 ≤ left))
def trucksB (x : InstD) (l : List (List StopD)) : Bool × Bool := truckGo x l true true
theorem stops_none (x : InstD) (l : List StopD) : l.foldl (stopSt x) none = none := by
 induction l with
 | nil => rfl
 | cons s l ih => exact ih
theorem or_lt64 {m i : Nat} (hm : m < 18446744073709551616) (hi : i < 64) : m ||| 2 ^ i < 18446744073709551616 :=
 Nat.or_lt_two_pow (n := 64) hm (Nat.pow_lt_pow_right (by decide) hi)
theorem stopSt_bad {x : InstD} {m : Nat} {left : Int} {s : StopD} (h : stopBad x m s = true) : stopSt x (some (m, left)) s = none := by simp [stopSt, h]
theorem stopSt_ok {x : InstD} {m : Nat} {left : Int} {s : StopD} (h : stopBad x m s = false) : stopSt x (some (m, left)) s = some (m ||| 2 ^ s.sat.toNat, left - s.load) := by simp [stopSt, h]
theorem truckGo_bad {x : InstD} {t : List StopD} {ts : List (List StopD)} {r l : Bool} (h : truckSt x t = none) : truckGo x (t :: ts) r l = (false, l) := by simp [truckGo, h]
theorem truckGo_ok {x : InstD} {t : List StopD} {ts : List (List StopD)} {r l : Bool} {m : Nat} {left : Int} (h : truckSt x t = some (m, left)) :
  truckGo x (t :: ts) r l = truckGo x ts (r && decide (0 < t.length)) (l && decide (0 ≤ left)) := by simp [truckGo, h]
set_option maxRecDepth 100000 in
set_option maxHeartbeats 1600000 in
theorem trucks_c {w : World} {F G : Nat → Prop} {x : InstD} {p : PlanD} {cs ps : List Value} (h : instS.rep w F x cs) (hp : planS.rep w G p ps) (hn : x.sats.length ≤ 64)
  (hr : 0 ≤ x.troom ∧ x.troom ≤ 1000000000) (ht : ∀ t ∈ p.trucks, t.length ≤ 1000000000) :
  Calls Try.prog 56 #[.agg ps.toArray, .agg cs.toArray] w fun e w' => e = .returned (.tuple #[.bool (trucksB x p.trucks).1, .bool (trucksB x p.trucks).2]) ∧ Below w.heap.size w w' := by
 obtain ⟨s, c, co, ti, rfl, -, h1, -, -, -⟩ := h
 obtain ⟨a, b, off, c1, hs, -, -, -, -, -, -⟩ := sats_open h1
 obtain rfl := List.cons.inj hs |>.1
 obtain ⟨tv, bv, rfl, h2, -⟩ := hp
 obtain ⟨a2, b2, off2, c2, hs2, hl2, hc2, ha2, -, hcell2⟩ := trucks_open h2
 obtain rfl := List.cons.inj hs2 |>.1
 clear hs hs2 h1 h2
 go_enter Try.func56, Try.ntmps56
 go_wp2
 go_loopw [4, 5, 15] (fun rr ll ii wr => ∃ (k : Nat) (r l : Bool), k ≤ p.trucks.length ∧ ii = .int .i64 k ∧ rr = .bool r ∧ ll = .bool l ∧ trucksB x p.trucks = truckGo x (p.trucks.drop k) r l ∧ Below w.heap.size w wr ∧
   wr.cell? ⟨w.heap.size + 1, 2, none⟩ = some (.int .i64 x.troom) ∧ wr.cell? ⟨w.heap.size + 1, 5, none⟩ = some (.slice a x.sats.length c1) ∧ w.heap.size + 1 < wr.heap.size) (fun _ _ i _ => p.trucks.length - (intOf i).toNat)
 case atStart => exact ⟨0, true, true, Nat.zero_le _, rfl, rfl, rfl, rfl, ((Below.refl _ _).alloc (Nat.le_refl _) _).alloc (by simp) _, by simp, by simp, by simp⟩
 case round =>
  obtain ⟨k, r, l, hk, rfl, rfl, rfl, hgo, hb, q2, q5, hz⟩ := hrel
  obtain ⟨wo, rfl⟩ : ∃ wo : World, wo = wr := ⟨_, rfl⟩
  by_cases hlt : k < p.trucks.length
  ·have hx := idx_at1 (c := c2) Try.underlying41 sz_truck (ha2 (by omega)) hlt
   obtain ⟨sv, g0, hr0⟩ := hcell2 k hlt
   obtain ⟨tr, htr⟩ : ∃ tr, tr = p.trucks[k] := ⟨_, rfl⟩
   have htl := ht _ (List.getElem_mem hlt)
   rw [← htr] at hr0 htl
   obtain ⟨a3, b3, off3, c3, hs3, hl3, hc3, ha3, -, hcell3, hwf3⟩ := stops_open hr0
   obtain rfl := List.cons.inj hs3 |>.1
   have p0 := below_cell hb g0
   have HGO := hid (show trucksB x p.trucks = truckGo x (tr :: p.trucks.drop (k + 1)) r l from by rw [hgo, htr, List.drop_eq_getElem_cons hlt])
   clear hcell2 ha2 hgo hs3 hr0 g0 htr
   go_wp2
   go_loopw [4, 5, 8, 9, 25] (fun rr ll mm ff jj wx => ∃ (j m : Nat) (left : Int), j ≤ tr.length ∧ jj = .int .i64 j ∧ rr = .bool r ∧ ll = .bool l ∧ mm = .int .u64 m ∧ ff = .int .i64 left ∧ m < 18446744073709551616 ∧ (x.troom - 1000000000 * j ≤ left ∧ left ≤ x.troom) ∧
     truckSt x tr = (tr.drop j).foldl (stopSt x) (some (m, left)) ∧ Below w.heap.size w wx ∧ wx.cell? ⟨w.heap.size + 1, 2, none⟩ = some (.int .i64 x.troom) ∧ wx.cell? ⟨w.heap.size + 1, 5, none⟩ = some (.slice a x.sats.length c1) ∧
     wx.cell? ⟨wo.heap.size, 0, none⟩ = some (.slice a3 tr.length c3) ∧ wo.heap.size < wx.heap.size) (fun _ _ _ _ jj _ => tr.length - (intOf jj).toNat)
   case atStart =>
    exact ⟨0, 0, x.troom, Nat.zero_le _, rfl, rfl, rfl, rfl, rfl, by decide, by omega, rfl, hb.alloc (by omega) _, below_cell ((Below.refl _ _).alloc (Nat.le_refl _) _) q2, below_cell ((Below.refl _ _).alloc (Nat.le_refl _) _) q5, by simp, by simp⟩
   case round =>
    obtain ⟨j, m, left, hj, rfl, rfl, rfl, rfl, rfl, hm, hleft, hst, hb2, q2', q5', q0, hzx⟩ := hrel
    clear q2 q5
    have hz' : w.heap.size + 1 < wr.heap.size := by omega
    obtain ⟨wi, rfl⟩ : ∃ wi : World, wi = wr := ⟨_, rfl⟩
    by_cases hjt : j < tr.length
    ·have hy := idx_at (c := c3) Try.underlying60 sz_stop (ha3 (by omega)) hjt
     have g3 := below_cell hb2 (hcell3 j hjt).1
     have g4 := below_cell hb2 (hcell3 j hjt).2
     obtain ⟨sp, hsp⟩ : ∃ sp, sp = tr[j] := ⟨_, rfl⟩
     have hwf := hwf3 _ (List.getElem_mem hjt)
     rw [← hsp] at g3 g4 hwf
     obtain ⟨st, ld⟩ := sp
     have hnx : (tr.drop j).foldl (stopSt x) (some (m, left)) = (tr.drop (j + 1)).foldl (stopSt x) (stopSt x (some (m, left)) ⟨st, ld⟩) := by rw [List.drop_eq_getElem_cons hjt, ← hsp]; rfl
     rw [hnx] at hst
     simp only [] at g3 g4 hwf
     clear hnx hsp hcell3 ha3
     have HST := hid hst
     clear hst
     have HBAD := hid (show stopBad x m ⟨st, ld⟩ = true → trucksB x p.trucks = (false, l) from fun h => by rw [HGO.out]; exact truckGo_bad (by rw [HST.out, stopSt_bad h, stops_none]))
     have HOK := hid (show stopBad x m ⟨st, ld⟩ = false → truckSt x tr = (tr.drop (j + 1)).foldl (stopSt x) (some (m ||| 2 ^ st.toNat, left - ld)) from fun h => by rw [HST.out, stopSt_ok h])
     clear HST
     by_cases e1 : st < 0
     ·have HB := hid (HBAD.out (by simp [stopBad, e1]))
      go_wp2
      go_ret2
      exact ⟨by rw [HB.out]; rfl, by simpa using hb2.alloc (by omega) _⟩
     ·by_cases e2 : (x.sats.length : Int) ≤ st
      ·have HB := hid (HBAD.out (by simp [stopBad, e2]))
       go_wp2
       go_ret2
       exact ⟨by rw [HB.out]; rfl, by simpa using hb2.alloc (by omega) _⟩
      ·obtain ⟨sn, rfl⟩ : ∃ sn : Nat, st = sn := ⟨st.toNat, by omega⟩
       rw [Int.toNat_natCast] at HOK
       have hsn : sn < 64 := by omega
       cases e3 : m.testBit sn
       ·by_cases e4 : ld < 1
        ·have HB := hid (HBAD.out (by simp [stopBad, e4]))
         have HW := hid (has_yes m sn hsn hm)
         clear hm
         go_wp2_with (go_at_call 75; refine (HW.out _).mono ?_; rintro e w' ⟨rfl, rfl⟩; rw [e3])
         go_ret2
         exact ⟨by rw [HB.out]; rfl, by simpa using hb2.alloc (by omega) _⟩
        ·by_cases e5 : 1000000000 < ld
         ·have HB := hid (HBAD.out (by simp [stopBad, e5]))
          have HW := hid (has_yes m sn hsn hm)
          clear hm
          go_wp2_with (go_at_call 75; refine (HW.out _).mono ?_; rintro e w' ⟨rfl, rfl⟩; rw [e3])
          go_ret2
          exact ⟨by rw [HB.out]; rfl, by simpa using hb2.alloc (by omega) _⟩
         ·have HO := hid (HOK.out (by simp [stopBad, e3]; omega))
          have HW := hid (has_yes m sn hsn hm)
          have HV := hid (with_yes m sn hsn hm)
          have HM := hid (or_lt64 hm hsn)
          clear hm
          go_wp2_with (first
           | (go_at_call 75; refine (HW.out _).mono ?_; rintro e w' ⟨rfl, rfl⟩; rw [e3])
           | (go_at_call 76; refine (HV.out _).mono ?_; rintro e w' ⟨rfl, rfl⟩))
          go_roundw
          case rel =>
           refine ⟨j + 1, m ||| 2 ^ sn, left - ld, by omega, by go_num, rfl, rfl, rfl, rfl, HM.out, by omega, HO.out, hb2.alloc (by omega) _, ?_, ?_, ?_, ?_⟩
           ·exact below_cell ((Below.refl _ _).alloc (Nat.le_refl _) _) q2'
           ·exact below_cell ((Below.refl _ _).alloc (Nat.le_refl _) _) q5'
           ·exact below_cell ((Below.refl _ _).alloc (Nat.le_refl _) _) q0
           ·simp; omega
          case measure => simp [intOf]; omega
       ·have HB := hid (HBAD.out (by simp [stopBad, e3]))
        have HW := hid (has_yes m sn hsn hm)
        clear hm
        go_wp2_with (go_at_call 75; refine (HW.out _).mono ?_; rintro e w' ⟨rfl, rfl⟩; rw [e3])
        go_ret2
        exact ⟨by rw [HB.out]; rfl, by simpa using hb2.alloc (by omega) _⟩
    ·have hjl : j = tr.length := by omega
     subst hjl
     have HG := hid (show trucksB x p.trucks = truckGo x (p.trucks.drop (k + 1)) (r && decide (0 < tr.length)) (l && decide (0 ≤ left)) from by rw [HGO.out]; exact truckGo_ok (m := m) (by rw [hst, List.drop_length]; rfl))
     clear hst HGO hcell3 ha3
     have HL := hid hleft
     clear hleft hj
     cases r <;> cases l <;> by_cases f1 : 0 < tr.length <;> by_cases f2 : 0 ≤ left
     all_goals
      go_wp2
      go_roundw
      case rel => exact ⟨k + 1, _, _, by omega, by go_num, rfl, rfl, by rw [HG.out]; simp [f1, f2], hb2, q2', q5', by omega⟩
      case measure => simp [intOf]; omega
  ·have hkl : k = p.trucks.length := by omega
   subst hkl
   have HG := hid (show trucksB x p.trucks = (r, l) from by rw [hgo, List.drop_length]; rfl)
   clear hcell2 ha2 hgo
   go_wp2
   go_ret2
   exact ⟨by rw [HG.out]; rfl, hb⟩
end Go.Proofs.Ytahffcepagopmaa
namespace Go.Proofs.Ytahffcepagopmaa
open Go.RowKit
def custAt (x : InstD) (c : Int) : CustD := x.custs.getD c.toNat ⟨0, 0, 0, 0⟩
def custBad (x : InstD) (m : Nat) (c : Int) : Bool := decide (c < 0) || decide ((x.custs.length : Int) ≤ c) || m.testBit c.toNat
def custSt (x : InstD) : Option (Nat × Int) → Int → Option (Nat × Int)
 | none, _ => none
 | some (m, left), c => if custBad x m c then none else some (m ||| 2 ^ c.toNat, left - (custAt x c).load)
def bikeSt (x : InstD) (m : Nat) (l : List Int) : Option (Nat × Int) := l.foldl (custSt x) (some (m, x.broom))
def bikeBad (x : InstD) (b : BikeD) : Bool := decide (b.sat < 0) || decide ((x.sats.length : Int) ≤ b.sat) || decide (b.stops.length = 0)
def bikeGo (x : InstD) : List BikeD → Nat → Bool → Bool × Bool × Bool
 | [], m, l => (true, decide (Lib.onesCount m = x.custs.length), l)
 | b :: bs, m, l => if bikeBad x b then (false, false, l) else match bikeSt x m b.stops with
  | none => (false, false, l)
  | some (m', left) => bikeGo x bs m' (l && decide (0 ≤ left))
def bikesB (x : InstD) (l : List BikeD) : Bool × Bool × Bool := bikeGo x l 0 true
theorem beq_ofNat (a b : Nat) : ((a : Int) == (b : Int)) = decide (a = b) := by
 by_cases h : a = b
 ·subst h; simp
 ·rw [decide_eq_false h, beq_eq_false_iff_ne]; omega
theorem custs_none (x : InstD) (l : List Int) : l.foldl (custSt x) none = none := by
 induction l with
 | nil => rfl
 | cons s l ih => exact ih
theorem or_lt6 {m i : Nat} (hm : m < 64) (hi : i < 6) : m ||| 2 ^ i < 64 := Nat.or_lt_two_pow (n := 6) hm (Nat.pow_lt_pow_right (by decide) hi)
theorem custSt_bad {x : InstD} {m : Nat} {left : Int} {c : Int} (h : custBad x m c = true) : custSt x (some (m, left)) c = none := by simp [custSt, h]
theorem custSt_ok {x : InstD} {m : Nat} {left : Int} {c : Int} (h : custBad x m c = false) : custSt x (some (m, left)) c = some (m ||| 2 ^ c.toNat, left - (custAt x c).load) := by simp [custSt, h]
theorem bikeGo_bad {x : InstD} {b : BikeD} {bs : List BikeD} {m : Nat} {l : Bool} (h : bikeBad x b = true) : bikeGo x (b :: bs) m l = (false, false, l) := by simp [bikeGo, h]
theorem bikeGo_none {x : InstD} {b : BikeD} {bs : List BikeD} {m : Nat} {l : Bool} (h : bikeSt x m b.stops = none) : bikeGo x (b :: bs) m l = (false, false, l) := by simp [bikeGo, h]
theorem bikeGo_ok {x : InstD} {b : BikeD} {bs : List BikeD} {m m' : Nat} {l : Bool} {left : Int} (h0 : bikeBad x b = false) (h : bikeSt x m b.stops = some (m', left)) :
  bikeGo x (b :: bs) m l = bikeGo x bs m' (l && decide (0 ≤ left)) := by simp [bikeGo, h0, h]
set_option maxRecDepth 100000 in
set_option maxHeartbeats 1600000 in
theorem bikes_c {w : World} {F G : Nat → Prop} {x : InstD} {p : PlanD} {cs ps : List Value} (h : instS.rep w F x cs) (hp : planS.rep w G p ps) (hn : x.custs.length ≤ 6)
  (hr : 0 ≤ x.broom ∧ x.broom ≤ 1000000000) (hcu : ∀ c ∈ x.custs, 0 ≤ c.load ∧ c.load ≤ 1000000000) (ht : ∀ b ∈ p.bikes, b.stops.length ≤ 1000000000) :
  Calls Try.prog 57 #[.agg ps.toArray, .agg cs.toArray] w fun e w' => e = .returned (.tuple #[.bool (bikesB x p.bikes).1, .bool (bikesB x p.bikes).2.1, .bool (bikesB x p.bikes).2.2]) ∧ Below w.heap.size w w' := by
 obtain ⟨s, c, co, ti, rfl, -, h1, h2, -, -⟩ := h
 obtain ⟨a, b, off, c1, hs, -, -, -, -, -, -⟩ := sats_open h1
 obtain rfl := List.cons.inj hs |>.1
 obtain ⟨a', b', off', c1', hs', hlc', hc', ha', -, hcell', -⟩ := custs_open h2
 obtain rfl := List.cons.inj hs' |>.1
 obtain ⟨tv, bv, rfl, -, h3⟩ := hp
 obtain ⟨a2, b2, off2, c2, hs2, hl2, hc2, ha2, -, hcell2⟩ := bikes_open h3
 obtain rfl := List.cons.inj hs2 |>.1
 clear hs hs' hs2 h1 h2 h3
 go_enter Try.func57, Try.ntmps57
 go_wp2
 go_loopw [4, 5, 6, 7, 16] (fun rr aa ll mm ii wr => ∃ (k m : Nat) (l : Bool), k ≤ p.bikes.length ∧ ii = .int .i64 k ∧ rr = .bool true ∧ aa = .bool false ∧ ll = .bool l ∧ mm = .int .u64 m ∧ m < 64 ∧
   bikesB x p.bikes = bikeGo x (p.bikes.drop k) m l ∧ Below w.heap.size w wr ∧ wr.cell? ⟨w.heap.size + 1, 4, none⟩ = some (.int .i64 x.broom) ∧ wr.cell? ⟨w.heap.size + 1, 5, none⟩ = some (.slice a x.sats.length c1) ∧
   wr.cell? ⟨w.heap.size + 1, 6, none⟩ = some (.slice a' x.custs.length c1') ∧ w.heap.size + 1 < wr.heap.size) (fun _ _ _ _ i _ => p.bikes.length - (intOf i).toNat)
 case atStart => exact ⟨0, 0, true, Nat.zero_le _, rfl, rfl, rfl, rfl, rfl, by decide, rfl, ((Below.refl _ _).alloc (Nat.le_refl _) _).alloc (by simp) _, by simp, by simp, by simp, by simp⟩
 case round =>
  obtain ⟨k, m, l, hk, rfl, rfl, rfl, rfl, rfl, hm, hgo, hb, q4, q5, q6, hz⟩ := hrel
  obtain ⟨wo, rfl⟩ : ∃ wo : World, wo = wr := ⟨_, rfl⟩
  by_cases hlt : k < p.bikes.length
  ·have hx := idx_at (c := c2) Try.underlying42 sz_bike (ha2 (by omega)) hlt
   obtain ⟨sv, g0, g1, hwf, hr0⟩ := hcell2 k hlt
   obtain ⟨bk, hbk⟩ : ∃ bk, bk = p.bikes[k] := ⟨_, rfl⟩
   have htl := ht _ (List.getElem_mem hlt)
   rw [← hbk] at g0 hwf hr0 htl
   obtain ⟨st, sp⟩ := bk
   simp only [] at g0 hwf hr0 htl
   obtain ⟨a3, b3, off3, c3, hs3, hl3, hc3, ha3, -, hcell3, hwf3⟩ := ints_open hr0
   obtain rfl := List.cons.inj hs3 |>.1
   have p0 := below_cell hb g0
   have p1 := below_cell hb g1
   have HGO := hid (show bikesB x p.bikes = bikeGo x (⟨st, sp⟩ :: p.bikes.drop (k + 1)) m l from by rw [hgo, hbk, List.drop_eq_getElem_cons hlt])
   clear hcell2 ha2 hgo hs3 hr0 g0 g1 hbk
   have hz' : w.heap.size + 1 < wo.heap.size := hz
   have HBB := hid (show bikeBad x ⟨st, sp⟩ = true → bikesB x p.bikes = (false, false, l) from fun h => by rw [HGO.out]; exact bikeGo_bad h)
   by_cases e1 : st < 0
   ·have HB := hid (HBB.out (by simp [bikeBad, e1]))
    go_wp2
    go_ret3
    exact ⟨by rw [HB.out]; rfl, by simpa using hb.alloc (by omega) _⟩
   ·by_cases e2 : (x.sats.length : Int) ≤ st
    ·have HB := hid (HBB.out (by simp [bikeBad, e2]))
     go_wp2
     go_ret3
     exact ⟨by rw [HB.out]; rfl, by simpa using hb.alloc (by omega) _⟩
    ·by_cases e3 : sp.length = 0
     ·have HB := hid (HBB.out (by simp [bikeBad, e3]))
      go_wp2
      go_ret3
      exact ⟨by rw [HB.out]; rfl, by simpa using hb.alloc (by omega) _⟩
     ·have HNB := hid (show bikeBad x ⟨st, sp⟩ = false from by simp [bikeBad, e3]; omega)
      clear HBB
      go_wp2
      go_loopw [4, 5, 6, 7, 10, 44] (fun rr aa ll mm ff jj wx => ∃ (j m2 : Nat) (left : Int), j ≤ sp.length ∧ jj = .int .i64 j ∧ rr = .bool true ∧ aa = .bool false ∧ ll = .bool l ∧ mm = .int .u64 m2 ∧ ff = .int .i64 left ∧ m2 < 64 ∧
        (x.broom - 1000000000 * j ≤ left ∧ left ≤ x.broom) ∧ bikeSt x m sp = (sp.drop j).foldl (custSt x) (some (m2, left)) ∧ Below w.heap.size w wx ∧ wx.cell? ⟨w.heap.size + 1, 4, none⟩ = some (.int .i64 x.broom) ∧
        wx.cell? ⟨w.heap.size + 1, 5, none⟩ = some (.slice a x.sats.length c1) ∧ wx.cell? ⟨w.heap.size + 1, 6, none⟩ = some (.slice a' x.custs.length c1') ∧ w.heap.size + 1 < wx.heap.size) (fun _ _ _ _ _ jj _ => sp.length - (intOf jj).toNat)
      case atStart =>
       exact ⟨0, m, x.broom, Nat.zero_le _, rfl, rfl, rfl, rfl, rfl, rfl, hm, by omega, rfl, hb.alloc (by omega) _, below_cell ((Below.refl _ _).alloc (Nat.le_refl _) _) q4, below_cell ((Below.refl _ _).alloc (Nat.le_refl _) _) q5,
        below_cell ((Below.refl _ _).alloc (Nat.le_refl _) _) q6, by simp; omega⟩
      case round =>
       obtain ⟨j, m2, left, hj, rfl, rfl, rfl, rfl, rfl, rfl, hm2, hleft, hst, hb2, q4', q5', q6', hzx⟩ := hrel
       clear q4 q5 q6
       by_cases hjt : j < sp.length
       ·have hy := idx_at1 (c := c3) Try.underlying57 sz_int (ha3 (by omega)) hjt
        have g3 := below_cell hb2 (hcell3 j hjt)
        obtain ⟨c, hc⟩ : ∃ c, c = sp[j] := ⟨_, rfl⟩
        rw [← hc] at g3
        have hnx : (sp.drop j).foldl (custSt x) (some (m2, left)) = (sp.drop (j + 1)).foldl (custSt x) (custSt x (some (m2, left)) c) := by rw [List.drop_eq_getElem_cons hjt, ← hc]; rfl
        rw [hnx] at hst
        clear hnx hc hcell3 ha3
        have HST := hid hst
        clear hst
        have HBAD := hid (show custBad x m2 c = true → bikesB x p.bikes = (false, false, l) from fun h => by rw [HGO.out]; exact bikeGo_none (by rw [HST.out, custSt_bad h, custs_none]))
        have HOK := hid (show custBad x m2 c = false → bikeSt x m sp = (sp.drop (j + 1)).foldl (custSt x) (some (m2 ||| 2 ^ c.toNat, left - (custAt x c).load)) from fun h => by rw [HST.out, custSt_ok h])
        clear HST
        by_cases f1 : c < 0
        ·have HB := hid (HBAD.out (by simp [custBad, f1]))
         go_wp2
         go_ret3
         exact ⟨by rw [HB.out]; rfl, hb2⟩
        ·by_cases f2 : (x.custs.length : Int) ≤ c
         ·have HB := hid (HBAD.out (by simp [custBad, f2]))
          go_wp2
          go_ret3
          exact ⟨by rw [HB.out]; rfl, hb2⟩
         ·obtain ⟨cn, rfl⟩ : ∃ cn : Nat, c = cn := ⟨c.toNat, by omega⟩
          rw [Int.toNat_natCast] at HOK
          have hcn : cn < 6 := by omega
          have hcl : cn < x.custs.length := by omega
          cases f3 : m2.testBit cn
          ·have HO := hid (HOK.out (by simp [custBad, f3]; omega))
           have HW := hid (has_yes m2 cn (by omega) (by omega))
           have HV := hid (with_yes m2 cn (by omega) (by omega))
           have HM := hid (or_lt6 hm2 hcn)
           have hic := idx_at (c := c1') Try.underlying36 sz_cust (ha' (by omega)) hcl
           have hcl1 := below_cell hb2 (hcell' cn hcl).1
           have hld := hcu _ (List.getElem_mem hcl)
           obtain ⟨ld, hlde⟩ : ∃ ld, ld = x.custs[cn].load := ⟨_, rfl⟩
           have HLD := hid (show (custAt x (cn : Int)).load = ld from by unfold custAt; rw [Int.toNat_natCast, List.getD_eq_getElem?_getD, List.getElem?_eq_getElem hcl, hlde]; rfl)
           rw [← hlde] at hcl1 hld
           clear hm hm2 hlde hcell'
           go_wp2_with (first
            | (go_at_call 75; refine (HW.out _).mono ?_; rintro e w' ⟨rfl, rfl⟩; rw [f3])
            | (go_at_call 76; refine (HV.out _).mono ?_; rintro e w' ⟨rfl, rfl⟩))
           go_roundw
           case rel => exact ⟨j + 1, m2 ||| 2 ^ cn, left - ld, by omega, by go_num, rfl, rfl, rfl, rfl, rfl, HM.out, by omega, by rw [HO.out, HLD.out], hb2, q4', q5', q6', hzx⟩
           case measure => simp [intOf]; omega
          ·have HB := hid (HBAD.out (by simp [custBad, f3]))
           have HW := hid (has_yes m2 cn (by omega) (by omega))
           clear hm hm2
           go_wp2_with (go_at_call 75; refine (HW.out _).mono ?_; rintro e w' ⟨rfl, rfl⟩; rw [f3])
           go_ret3
           exact ⟨by rw [HB.out]; rfl, hb2⟩
       ·have hjl : j = sp.length := by omega
        subst hjl
        have HG := hid (show bikesB x p.bikes = bikeGo x (p.bikes.drop (k + 1)) m2 (l && decide (0 ≤ left)) from by rw [HGO.out]; exact bikeGo_ok HNB.out (by rw [hst, List.drop_length]; rfl))
        have HM := hid hm2
        clear hst HGO hcell3 ha3 hleft hj hm2
        cases l <;> by_cases f2 : 0 ≤ left
        all_goals
         go_wp2
         go_roundw
         case rel => exact ⟨k + 1, m2, _, by omega, by go_num, rfl, rfl, rfl, rfl, HM.out, by rw [HG.out]; simp [f2], hb2, q4', q5', q6', hzx⟩
         case measure => simp [intOf]; omega
  ·have hkl : k = p.bikes.length := by omega
   subst hkl
   have HG := hid (show bikesB x p.bikes = (true, decide (Lib.onesCount m = x.custs.length), l) from by rw [hgo, List.drop_length]; rfl)
   have HL := hid (len_c m hm)
   clear hcell2 ha2 hgo hm
   cases hdd : ((Lib.onesCount m : Nat) : Int) == (x.custs.length : Int)
   all_goals
    have HD := hid (show decide (Lib.onesCount m = x.custs.length) = _ from (beq_ofNat _ _).symm.trans hdd)
    go_wp2
    go_quiet ((go_at_call 77; exact Calls.quiet_of_same (HL.out _)))
    go_wp2
    go_ret3
    exact ⟨by rw [HG.out, HD.out]; rfl, by simpa using below_drewN hb _⟩
end Go.Proofs.Ytahffcepagopmaa
namespace Go.Proofs.Ytahffcepagopmaa
open Go.RowKit
structure Good (x : InstD) : Prop where
 tmany : 1 ≤ x.tmany ∧ x.tmany ≤ 60
 bmany : 1 ≤ x.bmany ∧ x.bmany ≤ 60
 sats : 1 ≤ x.sats.length ∧ x.sats.length ≤ 12
 custs : 1 ≤ x.custs.length ∧ x.custs.length ≤ 48
 fin : 0 ≤ x.fin ∧ x.fin ≤ 1000000000
 troom : 0 ≤ x.troom ∧ x.troom ≤ 1000000000
 broom : 0 ≤ x.broom ∧ x.broom ≤ 1000000000
 sat : ∀ s ∈ x.sats, (0 ≤ s.room ∧ s.room ≤ 1000000000) ∧ 0 ≤ s.hold ∧ s.hold ≤ 1000000000
 cust : ∀ c ∈ x.custs, (1 ≤ c.load ∧ c.load ≤ 1000000000) ∧ (0 ≤ c.opn ∧ c.opn ≤ 1000000000) ∧ (c.opn ≤ c.cls ∧ c.cls ≤ 1000000000) ∧ 0 ≤ c.stay ∧ c.stay ≤ 1000000000
 costL : x.cost.length = nodes x
 timeL : x.time.length = nodes x
 costR : ∀ r ∈ x.cost, r.length = nodes x
 timeR : ∀ r ∈ x.time, r.length = nodes x
 cost : ∀ r ∈ x.cost, ∀ v ∈ r, 0 ≤ v ∧ v ≤ 1000000000
 time : ∀ r ∈ x.time, ∀ v ∈ r, 0 ≤ v ∧ v ≤ 1000000000
theorem mayB_iff {n l : Int} (h : mayB n l = true) : l ≤ n ∧ n ≤ 1000000000 := by simpa [mayB] using h
theorem squareB_iff {l : List (List Int)} {n : Nat} (h : squareB l (n : Int) = true) : l.length = n ∧ ∀ r ∈ l, r.length = n := by
 simp only [squareB, Bool.and_eq_true, beq_iff_eq, Bool.not_eq_true', List.any_eq_false, bne_iff_ne, ne_eq, Decidable.not_not] at h
 exact ⟨by omega, fun r hr => by have := h.2 r hr; omega⟩
theorem matB_iff {l : List (List Int)} (h : matB l l.length = true) : ∀ r ∈ l, ∀ v ∈ r, 0 ≤ v ∧ v ≤ 1000000000 := by
 intro r hr v hv
 obtain ⟨i, hi, rfl⟩ := List.getElem_of_mem hr
 obtain ⟨j, hj, rfl⟩ := List.getElem_of_mem hv
 simp only [matB, List.all_eq_true, List.mem_range] at h
 have h1 := h i hi
 rw [List.getD_eq_getElem?_getD, List.getElem?_eq_getElem hi] at h1
 simp only [rowB, Option.getD_some, List.all_eq_true, List.mem_range] at h1
 have h2 := h1 j hj
 rw [List.getD_eq_getElem?_getD, List.getElem?_eq_getElem hj] at h2
 simp only [cellB, Bool.and_eq_true] at h2
 exact mayB_iff h2.1
theorem good_of {x : InstD} (h : check x = 0) : Good x := by
 unfold check at h
 split at h
 case isFalse => cases h
 rename_i hc
 split at h
 case isFalse => cases h
 rename_i hs
 split at h
 case isFalse => cases h
 rename_i hn
 simp only [countB, manyB, Bool.and_eq_true, decide_eq_true_eq] at hc
 simp only [sizeB, Bool.and_eq_true] at hs
 simp only [numbersB, headB, Bool.and_eq_true, List.all_eq_true] at hn
 obtain ⟨⟨⟨⟨⟨⟨n0, n1⟩, n2⟩, n3⟩, n4⟩, n5⟩, n6⟩ := hn
 have s1 := squareB_iff hs.1
 have s2 := squareB_iff hs.2
 exact {
     tmany := by omega, bmany := by omega, sats := by omega, custs := by omega, fin := mayB_iff n0, troom := mayB_iff n1, broom := mayB_iff n2,
     sat := fun s hs' => by have := n3 s hs'; simp only [satB, Bool.and_eq_true] at this; exact ⟨mayB_iff this.1, mayB_iff this.2⟩,
     cust := fun c hc' => by have := n4 c hc'; simp only [custB, Bool.and_eq_true] at this; exact ⟨mayB_iff this.1.1.1, mayB_iff this.1.1.2, mayB_iff this.1.2, mayB_iff this.2⟩,
     costL := s1.1, timeL := s2.1, costR := s1.2, timeR := s2.2, cost := matB_iff n5, time := matB_iff n6 }
theorem stopBad_false {x : InstD} {m : Nat} {s : StopD} (h : stopBad x m s = false) : StopOk x s := by
 simp only [stopBad, Bool.or_eq_false_iff, decide_eq_false_iff_not] at h
 unfold StopOk; omega
theorem stops_some {x : InstD} : ∀ (l : List StopD) (m : Nat) (left : Int) (r : Nat × Int), l.foldl (stopSt x) (some (m, left)) = some r → ∀ s ∈ l, StopOk x s
 | [], _, _, _, _, s, hs => by cases hs
 | a :: l, m, left, r, h, s, hs => by
  rw [List.foldl_cons] at h
  cases hb : stopBad x m a
  ·rw [stopSt_ok hb] at h
   rcases List.mem_cons.1 hs with rfl | hs
   ·exact stopBad_false hb
   ·exact stops_some l _ _ r h s hs
  ·rw [stopSt_bad hb, stops_none] at h; cases h
theorem truckGo_some {x : InstD} : ∀ (l : List (List StopD)) (r d : Bool), (truckGo x l r d).1 = true → r = true ∧ ∀ t ∈ l, 0 < t.length ∧ ∀ s ∈ t, StopOk x s
 | [], r, d, h => ⟨h, fun _ h => by cases h⟩
 | a :: l, r, d, h => by
  cases ha : truckSt x a with
  | none => rw [truckGo_bad ha] at h; cases h
  | some q =>
   obtain ⟨m, left⟩ := q
   rw [truckGo_ok ha] at h
   obtain ⟨h1, h2⟩ := truckGo_some l _ _ h
   simp only [Bool.and_eq_true, decide_eq_true_eq] at h1
   refine ⟨h1.1, fun t ht => ?_⟩
   rcases List.mem_cons.1 ht with rfl | ht
   ·exact ⟨h1.2, stops_some t _ _ _ ha⟩
   ·exact h2 t ht
theorem trucksB_ok {x : InstD} {l : List (List StopD)} (h : (trucksB x l).1 = true) : ∀ t ∈ l, 0 < t.length ∧ ∀ s ∈ t, StopOk x s := (truckGo_some l true true h).2
theorem le_sum : ∀ (l : List Nat) (a : Nat), a ∈ l → a ≤ l.sum
 | b :: l, a, h => by
  rw [List.sum_cons]
  rcases List.mem_cons.1 h with rfl | h
  ·omega
  ·have := le_sum l a h; omega
theorem stopsUp_all {l : List BikeD} {b : BikeD} (h : b ∈ l) : b.stops.length ≤ stopsUp l l.length := by
 unfold stopsUp; rw [List.take_length]; exact le_sum _ _ (List.mem_map_of_mem h)
theorem tstopsUp_all {l : List (List StopD)} {t : List StopD} (h : t ∈ l) : t.length ≤ tstopsUp l l.length := by
 unfold tstopsUp; rw [List.take_length]; exact le_sum _ _ (List.mem_map_of_mem h)
end Go.Proofs.Ytahffcepagopmaa
namespace Go.Proofs.Ytahffcepagopmaa
open Go.RowKit
def overB (x : InstD) (l : List Int) (k : Nat) : Bool := (List.range k).any fun i => decide ((x.sats.getD i ⟨0, 0⟩).room < l.getD i 0)
theorem overB_succ (x : InstD) (l : List Int) (k : Nat) : overB x l (k + 1) = (overB x l k || decide ((x.sats.getD k ⟨0, 0⟩).room < l.getD k 0)) := by
 unfold overB; rw [List.range_succ, List.any_append]; simp
theorem overB_ge {x : InstD} {l : List Int} {k n : Nat} (h : overB x l k = true) (hk : k ≤ n) : overB x l n = true := by
 simp only [overB, List.any_eq_true, List.mem_range] at h ⊢
 obtain ⟨i, hi, h⟩ := h
 exact ⟨i, by omega, h⟩
def planCheck (x : InstD) (p : PlanD) : Int :=
 if check x ≠ 0 then check x else
 if x.tmany < p.trucks.length ∨ x.bmany < p.bikes.length then 11 else
 if (trucksB x p.trucks).1 = false ∨ (bikesB x p.bikes).1 = false then 15 else
 if (bikesB x p.bikes).2.1 = false then 8 else
 if (trucksB x p.trucks).2 = false ∨ (bikesB x p.bikes).2.2 = false then 10 else
 if overB x (loadsD x p.bikes) x.sats.length = true then 10 else
 if loadsD x p.bikes = dropsD x p.trucks then 0 else 13
def PlanSmall (p : PlanD) : Prop := stopsUp p.bikes p.bikes.length ≤ 1000000 ∧ tstopsUp p.trucks p.trucks.length ≤ 1000000
theorem loadsD_len (x : InstD) (l : List BikeD) : (loadsD x l).length = x.sats.length := by unfold loadsD; rw [addBikes_len]; simp
theorem dropsD_len (x : InstD) (l : List (List StopD)) : (dropsD x l).length = x.sats.length := by unfold dropsD; rw [addTrucks_len]; simp
theorem small9_wf {l : List Int} {n : Nat} (h : Small9 l n) (hn : n ≤ 1000000) : ∀ v ∈ l, wf64 v := fun v hv => by have := h v hv; unfold wf64; omega
theorem addLoads_small (x : InstD) (hcu : ∀ c ∈ x.custs, 0 ≤ c.load ∧ c.load ≤ 1000000000) (sat : Int) : ∀ (l : List Int) (out : List Int) (n : Nat), Small9 out n → Small9 (l.foldl (addLoad x sat) out) (n + l.length)
 | [], out, n, h => h
 | c :: l, out, n, h => by
  rw [List.foldl_cons, List.length_cons, show n + (l.length + 1) = (n + 1) + l.length by omega]
  refine addLoads_small x hcu sat l _ _ ?_
  unfold addLoad
  split
  ·rename_i hc
   have hc2 : c.toNat < x.custs.length := by omega
   refine h.add ?_ ?_
   ·rw [List.getD_eq_getElem?_getD, List.getElem?_eq_getElem (by omega)]; exact h.get (by omega)
   ·rw [List.getD_eq_getElem?_getD, List.getElem?_eq_getElem hc2]; exact hcu _ (List.getElem_mem hc2)
  ·exact h.mono (by omega)
theorem addBikes_small (x : InstD) (hcu : ∀ c ∈ x.custs, 0 ≤ c.load ∧ c.load ≤ 1000000000) : ∀ (l : List BikeD) (out : List Int) (n : Nat), Small9 out n → Small9 (l.foldl (addBike x) out) (n + stopsUp l l.length)
 | [], out, n, h => h.mono (by omega)
 | b :: l, out, n, h => by
  have e : stopsUp (b :: l) (b :: l).length = b.stops.length + stopsUp l l.length := by unfold stopsUp; simp
  rw [List.foldl_cons, e, ← Nat.add_assoc]
  exact addBikes_small x hcu l _ _ (addLoads_small x hcu b.sat b.stops out n h)
theorem loadsD_small {x : InstD} {l : List BikeD} (hcu : ∀ c ∈ x.custs, 0 ≤ c.load ∧ c.load ≤ 1000000000) : Small9 (loadsD x l) (stopsUp l l.length) := by
 have := addBikes_small x hcu l _ 0 (Small9.zero x.sats.length)
 rwa [Nat.zero_add] at this
theorem addStops_small : ∀ (l : List StopD) (out : List Int) (n : Nat), (∀ s ∈ l, (0 ≤ s.sat ∧ s.sat < out.length) ∧ 1 ≤ s.load ∧ s.load ≤ 1000000000) → Small9 out n → Small9 (l.foldl addStop out) (n + l.length)
 | [], out, n, _, h => h
 | c :: l, out, n, ho, h => by
  rw [List.foldl_cons, List.length_cons, show n + (l.length + 1) = (n + 1) + l.length by omega]
  refine addStops_small l _ _ (fun s hs => by rw [addStop_len]; exact ho s (List.mem_cons_of_mem _ hs)) ?_
  have hc := ho c (List.mem_cons_self ..)
  unfold addStop
  refine h.add ?_ ⟨by omega, by omega⟩
  rw [List.getD_eq_getElem?_getD, List.getElem?_eq_getElem (by omega)]; exact h.get (by omega)
theorem addTrucks_small : ∀ (l : List (List StopD)) (out : List Int) (n : Nat), (∀ t ∈ l, ∀ s ∈ t, (0 ≤ s.sat ∧ s.sat < out.length) ∧ 1 ≤ s.load ∧ s.load ≤ 1000000000) → Small9 out n → Small9 (l.foldl addTruck out) (n + tstopsUp l l.length)
 | [], out, n, _, h => h.mono (by omega)
 | b :: l, out, n, ho, h => by
  have e : tstopsUp (b :: l) (b :: l).length = b.length + tstopsUp l l.length := by unfold tstopsUp; simp
  rw [List.foldl_cons, e, ← Nat.add_assoc]
  refine addTrucks_small l _ _ (fun t ht s hs => ?_) (addStops_small b out n (ho b (List.mem_cons_self ..)) h)
  unfold addTruck; rw [addStops_len]; exact ho t (List.mem_cons_of_mem _ ht) s hs
theorem dropsD_small {x : InstD} {l : List (List StopD)} (ho : ∀ t ∈ l, ∀ s ∈ t, StopOk x s) : Small9 (dropsD x l) (tstopsUp l l.length) := by
 have := addTrucks_small l _ 0 (fun t ht s hs => by rw [List.length_replicate]; exact ho t ht s hs) (Small9.zero x.sats.length)
 rwa [Nat.zero_add] at this
theorem bne_zero {a : Int} (h : a ≠ 0) : (a != 0) = true := by simpa using h
set_option maxRecDepth 100000 in
set_option maxHeartbeats 1600000 in
theorem planCheck_c {w : World} {F G : Nat → Prop} {x : InstD} {p : PlanD} {cs ps : List Value} (h : instS.rep w F x cs) (hp : planS.rep w G p ps) (hn : check x = 0 → x.custs.length ≤ 6) (hsm : PlanSmall p) :
  Calls Try.prog 41 #[.agg cs.toArray, .agg ps.toArray] w fun e w' => e = .returned (.int .i64 (planCheck x p)) ∧ Below w.heap.size w w' := by
 have hrep := h
 have hprep := hp
 obtain ⟨s, c, co, ti, rfl, -, h1, h2, -, -⟩ := h
 obtain ⟨a, b, off, c1, hs, hlc, hc, ha, -, hcell, -⟩ := sats_open h1
 obtain rfl := List.cons.inj hs |>.1
 obtain ⟨tv, bv, rfl, h3, h4⟩ := hp
 obtain ⟨a2, b2, off2, c2, hs2, hl2, hc2, -, -, -⟩ := trucks_open h3
 obtain rfl := List.cons.inj hs2 |>.1
 obtain ⟨a4, b4, off4, c4, hs4, hl4, hc4, -, -, -⟩ := bikes_open h4
 obtain rfl := List.cons.inj hs4 |>.1
 have HB4 := hid h4
 clear hs hs2 hs4 h1 h2 h3 h4
 have R := (Row.new (w := w) (e := 39) (cs := [.int .i64 x.fin, .int .i64 x.tmany, .int .i64 x.troom, .int .i64 x.bmany, .int .i64 x.broom, .slice a x.sats.length c1, c, co, ti]) rfl).alloc (.cells #[.slice a2 p.trucks.length c2, .slice a4 p.bikes.length c4] 44)
 have RP := Row.new (w := w.alloc (.cells #[.int .i64 x.fin, .int .i64 x.tmany, .int .i64 x.troom, .int .i64 x.bmany, .int .i64 x.broom, .slice a x.sats.length c1, c, co, ti] 39)) (e := 44) (g := w.heap.size + 1) (cs := [.slice a2 p.trucks.length c2, .slice a4 p.bikes.length c4]) (by simp)
 have hb0 : Below w.heap.size w ((w.alloc (.cells #[.int .i64 x.fin, .int .i64 x.tmany, .int .i64 x.troom, .int .i64 x.bmany, .int .i64 x.broom, .slice a x.sats.length c1, c, co, ti] 39)).alloc (.cells #[.slice a2 p.trucks.length c2, .slice a4 p.bikes.length c4] 44)) := ((Below.refl _ _).alloc (Nat.le_refl _) _).alloc (by simp) _
 have HS := hid hsm
 have HC := hid hcell
 clear hsm hcell
 by_cases hck : check x = 0
 case neg =>
  have hck2 := bne_zero hck
  have HE := hid (show planCheck x p = check x from if_pos hck)
  clear hck hn
  go_enter Try.func41, Try.ntmps41
  go_wp2_with fail
  refine (check_c (instS.below hrep hb0)).mono ?_
  rintro e w1 ⟨rfl, hb1⟩
  go_wp2
  go_ret
  exact ⟨ret_int HE.out.symm, below_step hb0 hb1⟩
 have gd := good_of hck
 have hn6 := hn hck
 have hss := gd.sats
 have htr := gd.troom
 have hbr := gd.broom
 have hcu : ∀ c ∈ x.custs, 0 ≤ c.load ∧ c.load ≤ 1000000000 := fun c hc => by have := (gd.cust c hc).1; omega
 have HCK := hid hck
 have HGD := hid gd
 clear hck gd hn
 go_enter Try.func41, Try.ntmps41
 go_wp2_with fail
 refine (check_c (instS.below hrep hb0)).mono ?_
 rintro e w1 ⟨rfl, hb1⟩
 rw [HCK.out]
 have R1 := R.below hb1
 have RP1 := RP.below hb1
 have hB1 := below_step hb0 hb1
 clear R RP hb0 hb1
 obtain ⟨q0, q1, q2, q3, q4, q5, q6, q7, q8⟩ := row9 R1
 obtain ⟨p0, p1⟩ := row2 RP1
 by_cases e1 : x.tmany < p.trucks.length
 ·have HE := hid (show planCheck x p = 11 from by unfold planCheck; rw [if_neg (by simpa using HCK.out), if_pos (.inl e1)])
  go_wp2
  go_ret
  exact ⟨ret_int HE.out.symm, hB1⟩
 by_cases e2 : x.bmany < p.bikes.length
 ·have HE := hid (show planCheck x p = 11 from by unfold planCheck; rw [if_neg (by simpa using HCK.out), if_pos (.inr e2)])
  go_wp2
  go_ret
  exact ⟨ret_int HE.out.symm, hB1⟩
 have HX := hid (show ∀ v, (if (trucksB x p.trucks).1 = false ∨ (bikesB x p.bikes).1 = false then 15 else
   if (bikesB x p.bikes).2.1 = false then 8 else if (trucksB x p.trucks).2 = false ∨ (bikesB x p.bikes).2.2 = false then 10 else
   if overB x (loadsD x p.bikes) x.sats.length = true then 10 else if loadsD x p.bikes = dropsD x p.trucks then 0 else 13) = v → planCheck x p = v from fun v hv => by
  unfold planCheck; rw [if_neg (by simpa using HCK.out), if_neg (by omega)]; exact hv)
 go_wp2_with fail
 refine (trucks_c (instS.below hrep hB1) (planS.below hprep hB1) (by omega) htr (fun t ht => by have := tstopsUp_all ht; have := HS.out.2; omega)).mono ?_
 rintro e w2 ⟨rfl, hb2⟩
 have R2 := R1.below hb2
 have RP2 := RP1.below hb2
 have hB2 := below_step hB1 hb2
 clear q0 q1 q2 q3 q4 q5 q6 q7 q8 p0 p1 R1 RP1 hB1 hb2
 obtain ⟨q0, q1, q2, q3, q4, q5, q6, q7, q8⟩ := row9 R2
 obtain ⟨p0, p1⟩ := row2 RP2
 have HTO := hid (trucksB_ok (x := x) (l := p.trucks))
 obtain ⟨⟨r1, r2⟩, hrr⟩ : ∃ r, r = trucksB x p.trucks := ⟨_, rfl⟩
 rw [← hrr] at HX HTO ⊢
 have HRR := hid hrr
 clear hrr
 simp only [] at HX HTO ⊢
 go_wp2_with fail
 refine (bikes_c (instS.below hrep hB2) (planS.below hprep hB2) hn6 hbr hcu (fun t ht => by have := stopsUp_all ht; have := HS.out.1; omega)).mono ?_
 rintro e w3 ⟨rfl, hb3⟩
 have R3 := R2.below hb3
 have RP3 := RP2.below hb3
 have hB3 := below_step hB2 hb3
 clear q0 q1 q2 q3 q4 q5 q6 q7 q8 p0 p1 R2 RP2 hB2 hb3
 obtain ⟨q0, q1, q2, q3, q4, q5, q6, q7, q8⟩ := row9 R3
 obtain ⟨p0, p1⟩ := row2 RP3
 obtain ⟨⟨s1, s2, s3⟩, hrr⟩ : ∃ r, r = bikesB x p.bikes := ⟨_, rfl⟩
 rw [← hrr] at HX ⊢
 have HSS := hid hrr
 clear hrr
 simp only [] at HX ⊢
 cases r1
 ·have HE := hid (HX.out 15 (by simp))
  cases s1
  all_goals
   go_wp2
   go_ret
   exact ⟨ret_int HE.out.symm, hB3⟩
 cases s1
 ·have HE := hid (HX.out 15 (by simp))
  go_wp2
  go_ret
  exact ⟨ret_int HE.out.symm, hB3⟩
 cases s2
 ·have HE := hid (HX.out 8 (by simp))
  go_wp2
  go_ret
  exact ⟨ret_int HE.out.symm, hB3⟩
 cases r2
 ·have HE := hid (HX.out 10 (by simp))
  cases s3
  all_goals
   go_wp2
   go_ret
   exact ⟨ret_int HE.out.symm, hB3⟩
 cases s3
 ·have HE := hid (HX.out 10 (by simp))
  go_wp2
  go_ret
  exact ⟨ret_int HE.out.symm, hB3⟩
 have HY := hid (show ∀ v, (if overB x (loadsD x p.bikes) x.sats.length = true then 10 else if loadsD x p.bikes = dropsD x p.trucks then 0 else 13) = v → planCheck x p = v from fun v hv => HX.out v (by simpa using hv))
 clear HX HRR HSS
 go_wp2_with fail
 have hbk : bikesS.rep w3 G p.bikes [.slice a4 p.bikes.length c4] := bikesS.below HB4.out hB3
 refine (loads_c (instS.below hrep hB3) hbk (by omega) hcu HS.out.1).mono ?_
 rintro e w4 ⟨g, rfl, hg, hgw, hb4⟩
 have hB4 := below_step hB3 hb4
 have R4 := R3.below hb4
 have RP4 := RP3.below hb4
 have hgz : w.heap.size + 1 < g := by have := RP3.lt; omega
 clear q0 q1 q2 q3 q4 q5 q6 q7 q8 p0 p1 R3 RP3 hB3 hb4 hbk hgw
 obtain ⟨q0, q1, q2, q3, q4, q5, q6, q7, q8⟩ := row9 R4
 obtain ⟨p0, p1⟩ := row2 RP4
 have hll := loadsD_len x p.bikes
 have hsl := loadsD_small (x := x) (l := p.bikes) hcu
 have hsn := HS.out.1
 obtain ⟨ll, hlle⟩ : ∃ ll, ll = loadsD x p.bikes := ⟨_, rfl⟩
 rw [← hlle] at hll hsl HY hg
 have HL := hid hlle
 have HLL := hid hll
 have HSL := hid hsl
 have HG := hid hg
 clear hlle hll hsl hg
 go_wp2
 go_loop [71] (fun i => ∃ k : Nat, k ≤ x.sats.length ∧ i = .int .i64 k ∧ overB x ll k = false) (fun i => x.sats.length - (intOf i).toNat)
 case atStart => exact ⟨0, Nat.zero_le _, rfl, rfl⟩
 case round =>
  obtain ⟨k, hk, rfl, hov⟩ := hrel
  by_cases hlt : k < x.sats.length
  ·have hkl : k < ll.length := by have := HLL.out; omega
   have g0 := HG.out.cell (j := k) (by rw [List.length_map]; exact hkl)
   rw [List.getElem_map] at g0
   have gs := below_cell hB4 (HC.out k hlt).1
   have hix := idx_at1 (c := x.sats.length) Try.underlying65 sz_i64 (a := some ⟨g, 0, none⟩) rfl hlt
   have his := idx_at (c := c1) Try.underlying35 sz_sat (ha (by omega)) hlt
   rw [Nat.zero_add] at hix
   obtain ⟨v, hv⟩ : ∃ v, v = ll[k] := ⟨_, rfl⟩
   obtain ⟨r, hr⟩ : ∃ r, r = (x.sats[k]).room := ⟨_, rfl⟩
   rw [← hv] at g0
   rw [← hr] at gs
   unfold intV at g0
   have HO := hid (show overB x ll (k + 1) = decide (r < v) from by
    rw [overB_succ, hov, hv, hr, List.getD_eq_getElem?_getD, List.getD_eq_getElem?_getD, List.getElem?_eq_getElem hlt, List.getElem?_eq_getElem hkl]; rfl)
   clear hv hr hov hkl
   by_cases hrv : r < v
   ·have HE := hid (HY.out 10 (if_pos (overB_ge (k := k + 1) (by rw [HO.out]; exact decide_eq_true hrv) (by omega))))
    go_wp2
    go_ret
    exact ⟨ret_int HE.out.symm, hB4⟩
   ·have HO2 := hid (show overB x ll (k + 1) = false from by rw [HO.out]; exact decide_eq_false hrv)
    go_wp2
    go_round
    case rel => exact ⟨k + 1, by omega, by go_num, HO2.out⟩
    case measure => simp [intOf]; omega
  ·have hke : k = x.sats.length := by omega
   subst hke
   have HZ := hid (show ∀ v, (if ll = dropsD x p.trucks then 0 else 13) = v → planCheck x p = v from fun v hv => HY.out v (by rw [if_neg (by rw [hov]; decide)]; exact hv))
   have hto : ∀ t ∈ p.trucks, ∀ s ∈ t, StopOk x s := fun t ht => (HTO.out trivial t ht).2
   have hds := dropsD_small hto
   have hdl := dropsD_len x p.trucks
   clear hov HY HC ha
   go_wp2_with fail
   refine (drops_c (instS.below hrep hB4) (planS.below hprep hB4) (by omega) hto HS.out.2).mono ?_
   rintro e w5 ⟨g', rfl, hg', hgw', hb5⟩
   have hB5 := below_step hB4 hb5
   have hwl := small9_wf HSL.out hsn
   have hwd := small9_wf hds HS.out.2
   have r1 : (sliceS intS).rep w5 (fun _ => True) ll [.slice (some ⟨g, 0, none⟩) ll.length ll.length] := ints_rep (HG.out.below hb5) (Nat.le_refl _) (by unfold maxLen; have := HLL.out; omega) trivial hwl
   have r2 : (sliceS intS).rep w5 (fun _ => True) (dropsD x p.trucks) [.slice (some ⟨g', 0, none⟩) (dropsD x p.trucks).length (dropsD x p.trucks).length] := ints_rep hg' (Nat.le_refl _) (by unfold maxLen; omega) trivial hwd
   rw [HLL.out] at r1
   rw [hdl] at r2
   have HDS := hid hds
   have HWL := hid hwl
   clear q0 q1 q2 q3 q4 q5 q6 q7 q8 p0 p1 hdl hds hwl hwd hto hb5
   go_wp2_with fail
   refine (eqI64s_c r1 r2).mono ?_
   rintro e w6 ⟨rfl, nd, rfl⟩
   by_cases hd : ll = dropsD x p.trucks
   ·have HE := hid (HZ.out 0 (if_pos hd))
    rw [decide_eq_true hd]
    go_wp2
    go_ret
    exact ⟨ret_int HE.out.symm, below_drewN hB5 _⟩
   ·have HE := hid (HZ.out 13 (if_neg hd))
    rw [decide_eq_false hd]
    go_wp2
    go_ret
    exact ⟨ret_int HE.out.symm, below_drewN hB5 _⟩
end Go.Proofs.Ytahffcepagopmaa
namespace Go.Proofs.Ytahffcepagopmaa
open Go.RowKit
theorem instSat_c {w : World} {F : Nat → Prop} {x : InstD} {cs : List Value} (h : instS.rep w F x cs) {n : Int} (hn : 0 ≤ n ∧ n ≤ 1000000000) :
  Calls Try.prog 61 #[.agg cs.toArray, .int .i64 n] w fun e w' => e = .returned (.int .i64 (1 + n)) ∧ Below w.heap.size w w' := by
 obtain ⟨s, c, co, ti, rfl, -, -, -, -, -⟩ := h
 go_enter Try.func61, Try.ntmps61
 go_wp2
 go_ret
 exact ⟨rfl, (Below.refl _ _).alloc (Nat.le_refl _) _⟩
theorem instCust_c {w : World} {F : Nat → Prop} {x : InstD} {cs : List Value} (h : instS.rep w F x cs) (hl : x.sats.length ≤ 1000000) {n : Int} (hn : 0 ≤ n ∧ n ≤ 1000000000) :
  Calls Try.prog 62 #[.agg cs.toArray, .int .i64 n] w fun e w' => e = .returned (.int .i64 (1 + x.sats.length + n)) ∧ Below w.heap.size w w' := by
 obtain ⟨s, c, co, ti, rfl, -, h1, -, -, -⟩ := h
 obtain ⟨a, b, off, c1, hs, -, -, -, -, -, -⟩ := sats_open h1
 obtain rfl := List.cons.inj hs |>.1
 clear hs h1
 go_enter Try.func62, Try.ntmps62
 go_wp2
 go_ret
 exact ⟨rfl, (Below.refl _ _).alloc (Nat.le_refl _) _⟩
def costAt (x : InstD) (a b : Int) : Int := (x.cost.getD a.toNat []).getD b.toNat 0
def wayUp (x : InstD) (l : List Int) (k : Nat) : Int := ((List.range k).map fun i => costAt x (l.getD i 0) (l.getD ((i + 1) % l.length) 0)).sum
def wayD (x : InstD) (l : List Int) : Int := wayUp x l l.length
theorem wayUp_succ (x : InstD) (l : List Int) (k : Nat) : wayUp x l (k + 1) = wayUp x l k + costAt x (l.getD k 0) (l.getD ((k + 1) % l.length) 0) := by
 unfold wayUp; rw [List.range_succ, List.map_append, List.sum_append]; simp
theorem costAt_bd {x : InstD} (g : Good x) (a b : Int) : 0 ≤ costAt x a b ∧ costAt x a b ≤ 1000000000 := by
 unfold costAt
 rw [List.getD_eq_getElem?_getD, List.getD_eq_getElem?_getD]
 by_cases h : a.toNat < x.cost.length
 ·rw [List.getElem?_eq_getElem h, Option.getD_some]
  by_cases h2 : b.toNat < (x.cost[a.toNat]).length
  ·rw [List.getElem?_eq_getElem h2]; exact g.cost _ (List.getElem_mem h) _ (List.getElem_mem h2)
  ·rw [List.getElem?_eq_none (by omega)]; decide
 ·rw [show x.cost[a.toNat]? = none from List.getElem?_eq_none (by omega)]; simp
theorem wayUp_bd {x : InstD} (g : Good x) (l : List Int) : ∀ k : Nat, 0 ≤ wayUp x l k ∧ wayUp x l k ≤ 1000000000 * (k : Int)
 | 0 => by unfold wayUp; simp
 | k + 1 => by
  have h1 := wayUp_bd g l k
  have h2 := costAt_bd g (l.getD k 0) (l.getD ((k + 1) % l.length) 0)
  rw [wayUp_succ]; push_cast; omega
set_option maxRecDepth 100000 in
set_option maxHeartbeats 1600000 in
theorem way_c {w : World} {F G : Nat → Prop} {x : InstD} {cs : List Value} {l : List Int} {v : Value} (h : instS.rep w F x cs) (hl : (sliceS intS).rep w G l [v]) (hck : check x = 0) (hin : ∀ a ∈ l, 0 ≤ a ∧ a < nodes x) (hn : l.length ≤ 2000000) :
  Calls Try.prog 45 #[.agg cs.toArray, v] w fun e w' => e = .returned (.int .i64 (wayD x l)) ∧ Below w.heap.size w w' := by
 have hrep := h
 obtain ⟨s, c, co, ti, rfl, -, h1, -, h3, -⟩ := h
 obtain ⟨a, b, off, c1, hs, -, -, -, -, -, -⟩ := sats_open h1
 obtain rfl := List.cons.inj hs |>.1
 obtain ⟨a7, b7, off7, c7, hs7, hl7, hc7, ha7, -, hcell7⟩ := rows_open h3
 obtain rfl := List.cons.inj hs7 |>.1
 obtain ⟨a2, b2, off2, c2, hs2, hl2, hc2, ha2, -, hcell2, -⟩ := ints_open hl
 obtain rfl := List.cons.inj hs2 |>.1
 clear hs hs7 hs2 h1 h3 hl
 have gd := good_of hck
 have hnl := gd.sats
 have hnc := gd.custs
 have hco := gd.costL
 have HCK := hid hck
 have HGD := hid gd
 have HCO := hid hco
 clear hck gd hco
 go_enter Try.func45, Try.ntmps45
 go_wp2
 go_loopw [5, 11] (fun ss i wr => ∃ k : Nat, k ≤ l.length ∧ i = .int .i64 k ∧ ss = .int .i64 (wayUp x l k) ∧ Row wr w.heap.size 39 [.int .i64 x.fin, .int .i64 x.tmany, .int .i64 x.troom, .int .i64 x.bmany, .int .i64 x.broom, .slice a x.sats.length c1, c, .slice a7 x.cost.length c7, ti] ∧
   Below w.heap.size w wr) (fun _ i _ => l.length - (intOf i).toNat)
 case atStart => exact ⟨0, Nat.zero_le _, rfl, rfl, Row.new (cs := [.int .i64 x.fin, .int .i64 x.tmany, .int .i64 x.troom, .int .i64 x.bmany, .int .i64 x.broom, .slice a x.sats.length c1, c, .slice a7 x.cost.length c7, ti]) rfl, (Below.refl _ _).alloc (Nat.le_refl _) _⟩
 case round =>
  obtain ⟨k, hk, rfl, rfl, R, hb⟩ := hrel
  obtain ⟨wo, rfl⟩ : ∃ wo : World, wo = wr := ⟨_, rfl⟩
  have hsb := wayUp_bd HGD.out l k
  have hkk : 1000000000 * (k : Int) ≤ 1000000000 * 2000000 := by omega
  obtain ⟨sm, hsm⟩ : ∃ sm, sm = wayUp x l k := ⟨_, rfl⟩
  rw [← hsm] at hsb ⊢
  have HSM := hid hsm
  clear hsm
  by_cases hlt : k < l.length
  ·have hx := idx_at1 (c := c2) Try.underlying57 sz_int (ha2 (by omega)) hlt
   have hml : (k + 1) % l.length < l.length := Nat.mod_lt _ (by omega)
   have hx2 : ∀ w, (Instr.indexAt 57 (.slice a2 l.length c2) (.int .i64 (((k : Int) + 1) % (l.length : Int)))).run Try.prog w = .ok (.pointer (some ⟨b2, off2 + (k + 1) % l.length, none⟩)) w := fun w => by
    have := idx_at1 (c := c2) Try.underlying57 sz_int (ha2 (by omega)) hml w
    simpa using this
   have g0 := below_cell hb (hcell2 k hlt)
   have g1 := below_cell hb (hcell2 _ hml)
   have i0 := hin _ (List.getElem_mem hlt)
   have i1 := hin _ (List.getElem_mem hml)
   obtain ⟨A, hA⟩ : ∃ A, A = l[k] := ⟨_, rfl⟩
   obtain ⟨B, hB⟩ : ∃ B, B = l[(k + 1) % l.length] := ⟨_, rfl⟩
   rw [← hA] at g0 i0
   rw [← hB] at g1 i1
   have HS := hid (show wayUp x l (k + 1) = sm + costAt x A B from by
    rw [wayUp_succ, HSM.out, hA, hB, List.getD_eq_getElem?_getD, List.getD_eq_getElem?_getD, List.getElem?_eq_getElem hlt, List.getElem?_eq_getElem hml]; rfl)
   obtain ⟨an, rfl⟩ : ∃ an : Nat, A = an := ⟨A.toNat, by omega⟩
   obtain ⟨bn, rfl⟩ : ∃ bn : Nat, B = bn := ⟨B.toNat, by omega⟩
   have hab := costAt_bd HGD.out an bn
   have ha3 : an < x.cost.length := by rw [HCO.out]; omega
   obtain ⟨rv, gr, rr⟩ := hcell7 an ha3
   obtain ⟨a8, b8, off8, c8, hs8, hl8, hc8, ha8, -, hcell8, -⟩ := ints_open rr
   obtain rfl := List.cons.inj hs8 |>.1
   have hrl := HGD.out.costR _ (List.getElem_mem ha3)
   have hb3 : bn < (x.cost[an]).length := by rw [hrl]; omega
   clear hrl
   have hxr := idx_at1 (c := c7) Try.underlying37 sz_row (ha7 (by omega)) ha3
   have hxc := idx_at1 (c := c8) Try.underlying65 sz_i64 (ha8 (by omega)) hb3
   have g3 := hcell8 bn hb3
   obtain ⟨cv, hcv⟩ : ∃ cv, cv = x.cost[an][bn] := ⟨_, rfl⟩
   have HCV := hid (show costAt x an bn = cv from by unfold costAt; rw [Int.toNat_natCast, Int.toNat_natCast, List.getD_eq_getElem?_getD, List.getD_eq_getElem?_getD, List.getElem?_eq_getElem ha3, Option.getD_some, List.getElem?_eq_getElem hb3, hcv]; rfl)
   rw [← hcv] at g3
   rw [HCV.out] at hab
   rw [HCV.out] at HS
   clear hA hB hcv hcell2 ha2 hcell7 ha7 hcell8 ha8 hs8 rr hin
   obtain ⟨q0, q1, q2, q3, q4, q5, q6, q7, q8⟩ := row9 R
   go_wp2_with fail
   refine (check_c (instS.below hrep hb)).mono ?_
   rintro e w1 ⟨rfl, hb1⟩
   rw [HCK.out]
   have R1 := R.below hb1
   have hB1 := below_step hb hb1
   clear q0 q1 q2 q3 q4 q5 q6 q7 q8 R
   obtain ⟨q0, q1, q2, q3, q4, q5, q6, q7, q8⟩ := row9 R1
   go_wp2_with fail
   refine (nodes_c (instS.below hrep hB1) (by omega) (by omega)).mono ?_
   rintro e w2 ⟨rfl, hb2⟩
   have R2 := R1.below hb2
   have hB2 := below_step hB1 hb2
   clear q0 q1 q2 q3 q4 q5 q6 q7 q8 R1
   obtain ⟨q0, q1, q2, q3, q4, q5, q6, q7, q8⟩ := row9 R2
   go_wp2_with fail
   refine (nodes_c (instS.below hrep hB2) (by omega) (by omega)).mono ?_
   rintro e w3 ⟨rfl, hb3⟩
   have R3 := R2.below hb3
   have hB3 := below_step hB2 hb3
   have g5 := below_cell hB3 gr
   have g6 := below_cell hB3 g3
   clear q0 q1 q2 q3 q4 q5 q6 q7 q8 R2 gr g3 g0 g1
   obtain ⟨q0, q1, q2, q3, q4, q5, q6, q7, q8⟩ := row9 R3
   go_wp2
   go_roundw
   case rel => exact ⟨k + 1, by omega, by go_num, by rw [HS.out], R3, hB3⟩
   case measure => simp [intOf]; omega
  ·have hke : k = l.length := by omega
   subst hke
   clear hcell2 ha2 hcell7 ha7
   go_wp2
   go_ret
   exact ⟨ret_int HSM.out, hb⟩
end Go.Proofs.Ytahffcepagopmaa
namespace Go.Proofs.Ytahffcepagopmaa
open Go.RowKit
theorem flat1 {α β : Type} (f : α → β) : ∀ xs : List α, xs.flatMap (fun x => [f x]) = xs.map f
 | [] => rfl
 | x :: xs => by rw [List.flatMap_cons, List.map_cons, flat1 f xs]; rfl
theorem owns_rep {α : Type} {S : Shape α} {h0 : 0 < S.sz} {w : World} {B : Nat} {T : TypeId} {v : Value} {xs : List α} (enc : α → List Value) (hl : ∀ x, (enc x).length = S.sz) (hs : ∀ x ∈ xs, S.rep w (fun b => B ≤ b) x (enc x))
  (h : w.ownsRow B T S.sz v xs.length (xs.flatMap enc)) : (sliceS S h0).rep w (fun b => B ≤ b) xs [v] := by
 obtain ⟨h1, h2⟩ := h
 rcases h2 with ⟨rfl, hn⟩ | ⟨g, cap, cur, rfl, hg, hh, hn1, hc, hsz, ht⟩
 ·have : xs = [] := List.eq_nil_of_length_eq_zero hn
  subst this
  exact ⟨none, 0, 0, 0, rfl, Nat.le_refl _, Nat.zero_le _, fun h => absurd h (Nat.not_lt_zero _), fun i h => absurd h (Nat.not_lt_zero _)⟩
 ·have hR : Row w g T (xs.flatMap enc) := ⟨cur, cur.toList.drop (xs.length * S.sz), hh, by rw [← ht, List.take_append_drop]⟩
  refine ⟨some ⟨g, 0, none⟩, g, 0, cap, rfl, hn1, hc, fun _ => ⟨rfl, hg⟩, fun i hi => ⟨enc xs[i], hs _ (List.getElem_mem hi), fun j hj => ?_⟩⟩
  have e := flatMap_get enc S.sz hl xs i j hi hj
  have hj' : j < (enc xs[i]).length := by rw [hl]; exact hj
  rw [List.getElem?_eq_getElem hj'] at e ⊢
  rw [Nat.zero_add]
  exact hR.get e
theorem owns_ints {w : World} {B : Nat} {T : TypeId} {v : Value} {xs : List Int} (h : w.ownsRow B T 1 v xs.length (xs.map intV)) (hw : ∀ x ∈ xs, wf64 x) : (sliceS intS).rep w (fun b => B ≤ b) xs [v] :=
 owns_rep (S := intS) (fun x => [intV x]) (fun _ => rfl) (fun x hx => ⟨rfl, hw x hx⟩) (by rw [flat1]; exact h)
theorem Row.grown {w w' : World} {g : Nat} {e : TypeId} {cs : List Value} {B T n k : Nat} {v : Value} {xs : List Value} (h : Row w g e cs) (hown : w.ownsRow B T k v n xs) (he : e ≠ T) (hg : w.grownBy w' v.ownBlock) : Row w' g e cs :=
 h.keep (hg.block g h.lt fun e => by obtain ⟨cs', hc'⟩ := ownBlock_row hown e.symm; exact h.ne hc' he rfl)
theorem below_owned {B B' T n k : Nat} {a w w' : World} {v : Value} {xs : List Value} (h : Below B a w) (hown : w.ownsRow B' T k v n xs) (hB : B ≤ w.heap.size) (hB' : B ≤ B') (hg : w.grownBy w' v.ownBlock) : Below B a w' :=
 h.grown hg hB fun k hk => Nat.le_trans hB' (hown.lt k hk).1
def truckNodes (t : List StopD) : List Int := 0 :: t.map (fun s => 1 + s.sat)
def bikeNodes (x : InstD) (b : BikeD) : List Int := (1 + b.sat) :: b.stops.map (fun c => 1 + x.sats.length + c)
theorem map_take_succ {α β : Type} (f : α → β) (z : β) (l : List α) (k : Nat) (h : k < l.length) : z :: (l.take (k + 1)).map f = (z :: (l.take k).map f) ++ [f l[k]] := by
 rw [List.take_succ_eq_append_getElem h, List.map_append]; rfl
def truckV (t : List StopD) (k : Nat) : List Value := (0 :: (t.take k).map (fun s => 1 + s.sat)).map intV
def bikeV (x : InstD) (st : Int) (t : List Int) (k : Nat) : List Value := ((1 + st) :: (t.take k).map (fun c => 1 + x.sats.length + c)).map intV
theorem truckV_succ (t : List StopD) (k : Nat) (h : k < t.length) : truckV t (k + 1) = truckV t k ++ [.int .i64 (1 + t[k].sat)] := by
 unfold truckV; rw [map_take_succ _ _ _ _ h, List.map_append]; rfl
theorem bikeV_succ (x : InstD) (st : Int) (t : List Int) (k : Nat) (h : k < t.length) : bikeV x st t (k + 1) = bikeV x st t k ++ [.int .i64 (1 + x.sats.length + t[k])] := by
 unfold bikeV; rw [map_take_succ _ _ _ _ h, List.map_append]; rfl
theorem info_int : (Try.prog.info? 3).map (fun i => (i.zero, i.size, i.bytes)) = some (some (.int .i64 0), 1, 8) := by kernel_rfl
set_option maxRecDepth 100000 in
set_option maxHeartbeats 1600000 in
theorem truckNodes_c {w : World} {F G : Nat → Prop} {x : InstD} {cs : List Value} {t : List StopD} {v : Value} (h : instS.rep w F x cs) (hl : (sliceS stopS).rep w G t [v]) (hin : ∀ s ∈ t, 0 ≤ s.sat ∧ s.sat ≤ 1000000) (hn : t.length ≤ 1000000) :
  Calls Try.prog 46 #[.agg #[v], .agg cs.toArray] w fun e w' => ∃ u, e = .returned u ∧ (sliceS intS).rep w' (fun b => w.heap.size ≤ b) (truckNodes t) [u] ∧ Below w.heap.size w w' := by
 have hrep := h
 obtain ⟨s, c, co, ti, rfl, -, -, -, -, -⟩ := h
 obtain ⟨a2, b2, off2, c2, hs2, hl2, hc2, ha2, -, hcell2, -⟩ := stops_open hl
 obtain rfl := List.cons.inj hs2 |>.1
 clear hs2 hl
 go_enter Try.func46, Try.ntmps46
 go_wp2
 go_loopw [5, 12] (fun ov i wr => ∃ (k : Nat) (ao : Option Addr) (cp : Nat), k ≤ t.length ∧ i = .int .i64 k ∧ ov = .slice ao (k + 1) cp ∧ wr.ownsRow w.heap.size 3 1 (.slice ao (k + 1) cp) (k + 1) (truckV t k) ∧
   Row wr (w.heap.size + 1) 39 [.int .i64 x.fin, .int .i64 x.tmany, .int .i64 x.troom, .int .i64 x.bmany, .int .i64 x.broom, s, c, co, ti] ∧ Below w.heap.size w wr) (fun _ i _ => t.length - (intOf i).toNat)
 case atStart =>
  refine ⟨0, _, _, Nat.zero_le _, rfl, rfl, ?_, ?_, (((Below.refl _ _).alloc (Nat.le_refl _) _).alloc (by simp) _).alloc (by simp; omega) _⟩
  ·have := World.ownsRow_lit (e := 3) (size := 1) (base := w.heap.size) ((w.alloc (.cells #[.slice a2 t.length c2] 62)).alloc (.cells #[.int .i64 x.fin, .int .i64 x.tmany, .int .i64 x.troom, .int .i64 x.bmany, .int .i64 x.broom, s, c, co, ti] 39)) #[.int .i64 0] 1 (by simp; omega) (by decide) rfl
   simpa [truckV, intV] using this
  ·exact Row.alloc (Row.new (w := w.alloc (.cells #[.slice a2 t.length c2] 62)) (cs := [.int .i64 x.fin, .int .i64 x.tmany, .int .i64 x.troom, .int .i64 x.bmany, .int .i64 x.broom, s, c, co, ti]) (by simp)) _
 case round =>
  obtain ⟨k, ao, cp, hk, rfl, rfl, hown, R, hb⟩ := hrel
  obtain ⟨wo, rfl⟩ : ∃ wo : World, wo = wr := ⟨_, rfl⟩
  by_cases hlt : k < t.length
  ·have hx := idx_at (c := c2) Try.underlying60 sz_stop (ha2 (by omega)) hlt
   have g0 := below_cell hb (hcell2 k hlt).1
   have g1 := below_cell hb (hcell2 k hlt).2
   have i0 := hin _ (List.getElem_mem hlt)
   obtain ⟨sp, hsp⟩ : ∃ sp, sp = t[k] := ⟨_, rfl⟩
   rw [← hsp] at g0 g1 i0
   obtain ⟨st, ld⟩ := sp
   simp only [] at g0 g1 i0
   have HM := hid (truckV_succ t k hlt)
   rw [← hsp] at HM
   have R0 := R.alloc (.cells #[.int .i64 st, .int .i64 ld] 64)
   have hsz := hb.size
   have hb0 := hb.alloc hb.size (.cells #[.int .i64 st, .int .i64 ld] 64)
   have hown0 := hown.alloc (.cells #[.int .i64 st, .int .i64 ld] 64)
   have HO := hid hown0
   obtain ⟨q0, q1, q2, q3, q4, q5, q6, q7, q8⟩ := row9 R0
   clear hcell2 ha2 hsp hin hown R hown0
   go_wp2_with fail
   refine (instSat_c (instS.below hrep hb0) (by omega)).mono ?_
   rintro e w1 ⟨rfl, hb1⟩
   have R1 := R0.below hb1
   have hB1 := below_step hb0 hb1
   have hown1 := owns_below HO.out hb1
   have hs1 := hB1.size
   clear q0 q1 q2 q3 q4 q5 q6 q7 q8 R0
   have HR1 := hid R1
   have HB1 := hid hB1
   obtain ⟨i1, hi, hz0, hz1, hz2⟩ := info_parts info_int
   clear R1 hB1 hb0 hb1
   go_wp2_with (at_builtin; refine wpList_append_own _ rfl _ _ 57 rfl w.heap.size 3 i1 (.int .i64 0) 1 8 Try.underlying57 hi hz0 hz1 hz2 rfl (by decide) _ _ _ rfl (hown1.alloc _) ⟨w1.heap.size, 0, none⟩ 1 1 [.int .i64 (1 + st)] rfl rfl ?c1 ?c2 ?c3 ?c4 ?c5 ?_)
   case c1 => exact cell_one_new _ _ _
   case c2 => intro u hu; simp at hu; subst hu; rfl
   case c3 => unfold maxLen; omega
   case c4 => omega
   case c5 => simp; omega
   intro v' w2 hown' hgrow _
   obtain ⟨ao', cp', hv', -, -⟩ := owns_slice hown'
   subst hv'
   have hR2 := (HR1.out.alloc _).grown (hown1.alloc _) (by decide) hgrow
   have hB2 := below_owned (HB1.out.alloc hs1 _) (hown1.alloc _) (by simp; omega) (Nat.le_refl _) hgrow
   have HOW := hid (show w2.ownsRow w.heap.size 3 1 (.slice ao' (k + 1 + 1) cp') (k + 1 + 1) (truckV t (k + 1)) from by rw [HM.out]; exact hown')
   clear hown' hgrow hown1 hi hz0 hz1 hz2
   go_wp2
   go_roundw
   case rel => exact ⟨k + 1, ao', cp', by omega, by go_num, rfl, HOW.out, hR2, hB2⟩
   case measure => simp [intOf]; omega
  ·have hke : k = t.length := by omega
   subst hke
   have hr : (sliceS intS).rep wo (fun b => w.heap.size ≤ b) (truckNodes t) [.slice ao (t.length + 1) cp] := by
    refine owns_ints (T := 3) ?_ ?_
    ·have : (truckNodes t).length = t.length + 1 := by simp [truckNodes]
     rw [this]; unfold truckNodes; unfold truckV at hown; rw [List.take_length] at hown; exact hown
    ·intro v hv
     simp only [truckNodes, List.mem_cons, List.mem_map] at hv
     rcases hv with rfl | ⟨s, hs, rfl⟩
     ·unfold wf64; omega
     ·have := hin s hs; unfold wf64; omega
   have HR := hid hr
   clear hr hown hcell2 ha2 hin
   go_wp2
   go_ret
   exact ⟨_, rfl, HR.out, hb⟩
set_option maxRecDepth 100000 in
set_option maxHeartbeats 1600000 in
theorem bikeNodes_c {w : World} {F G : Nat → Prop} {x : InstD} {cs : List Value} {k0 : BikeD} {bs : List Value} (h : instS.rep w F x cs) (hl : bikeS.rep w G k0 bs) (hsl : x.sats.length ≤ 1000000) (hb0 : 0 ≤ k0.sat ∧ k0.sat ≤ 1000000)
  (hin : ∀ c ∈ k0.stops, 0 ≤ c ∧ c ≤ 1000000) (hn : k0.stops.length ≤ 1000000) :
  Calls Try.prog 47 #[.agg bs.toArray, .agg cs.toArray] w fun e w' => ∃ u, e = .returned u ∧ (sliceS intS).rep w' (fun b => w.heap.size ≤ b) (bikeNodes x k0) [u] ∧ Below w.heap.size w w' := by
 have hrep := h
 obtain ⟨s, c, co, ti, rfl, -, -, -, -, -⟩ := h
 obtain ⟨v, rfl, -, hl⟩ := hl
 obtain ⟨st, t⟩ := k0
 simp only [] at hl hb0 hin hn
 obtain ⟨a2, b2, off2, c2, hs2, hl2, hc2, ha2, -, hcell2, -⟩ := ints_open hl
 obtain rfl := List.cons.inj hs2 |>.1
 clear hs2 hl
 have R0 := Row.new (w := w.alloc (.cells #[.int .i64 st, .slice a2 t.length c2] 59)) (g := w.heap.size + 1) (e := 39) (cs := [.int .i64 x.fin, .int .i64 x.tmany, .int .i64 x.troom, .int .i64 x.bmany, .int .i64 x.broom, s, c, co, ti]) (by simp)
 have P0 := (Row.new (w := w) (g := w.heap.size) (e := 59) (cs := [.int .i64 st, .slice a2 t.length c2]) rfl).alloc (.cells #[.int .i64 x.fin, .int .i64 x.tmany, .int .i64 x.troom, .int .i64 x.bmany, .int .i64 x.broom, s, c, co, ti] 39)
 have hbb : Below w.heap.size w ((w.alloc (.cells #[.int .i64 st, .slice a2 t.length c2] 59)).alloc (.cells #[.int .i64 x.fin, .int .i64 x.tmany, .int .i64 x.troom, .int .i64 x.bmany, .int .i64 x.broom, s, c, co, ti] 39)) := ((Below.refl _ _).alloc (Nat.le_refl _) _).alloc (by simp) _
 go_enter Try.func47, Try.ntmps47
 go_wp2_with fail
 refine (instSat_c (instS.below hrep hbb) (by omega)).mono ?_
 rintro e w1 ⟨rfl, hb1⟩
 have R1 := R0.below hb1
 have hB1 := below_step hbb hb1
 have P1 := P0.below hb1
 clear R0 P0 hbb hb1
 obtain ⟨p0, p1⟩ := row2 P1
 have hs1 := hB1.size
 have hz1 := P1.lt
 have hz2 := R1.lt
 go_wp2
 go_loopw [5, 16] (fun ov i wr => ∃ (k : Nat) (ao : Option Addr) (cp : Nat), k ≤ t.length ∧ i = .int .i64 k ∧ ov = .slice ao (k + 1) cp ∧ wr.ownsRow w.heap.size 3 1 (.slice ao (k + 1) cp) (k + 1) (bikeV x st t k) ∧
   Row wr (w.heap.size + 1) 39 [.int .i64 x.fin, .int .i64 x.tmany, .int .i64 x.troom, .int .i64 x.bmany, .int .i64 x.broom, s, c, co, ti] ∧ Below w.heap.size w wr) (fun _ i _ => t.length - (intOf i).toNat)
 case atStart =>
  refine ⟨0, _, _, Nat.zero_le _, rfl, rfl, ?_, R1.alloc _, hB1.alloc hs1 _⟩
  have := World.ownsRow_lit (e := 3) (size := 1) (base := w.heap.size) w1 #[.int .i64 (1 + st)] 1 hs1 (by decide) rfl
  simpa [bikeV, intV] using this
 case round =>
  clear R1 P1 p0 p1 hB1
  obtain ⟨k, ao, cp, hk, rfl, rfl, hown, R, hb⟩ := hrel
  obtain ⟨wo, rfl⟩ : ∃ wo : World, wo = wr := ⟨_, rfl⟩
  by_cases hlt : k < t.length
  ·have hx := idx_at1 (c := c2) Try.underlying57 sz_int (ha2 (by omega)) hlt
   have g0 := below_cell hb (hcell2 k hlt)
   have i0 := hin _ (List.getElem_mem hlt)
   obtain ⟨sp, hsp⟩ : ∃ sp, sp = t[k] := ⟨_, rfl⟩
   rw [← hsp] at g0 i0
   have HM := hid (bikeV_succ x st t k hlt)
   rw [← hsp] at HM
   have hsz := hb.size
   have HO := hid hown
   obtain ⟨q0, q1, q2, q3, q4, q5, q6, q7, q8⟩ := row9 R
   clear hcell2 ha2 hsp hin hown
   go_wp2_with fail
   refine (instCust_c (instS.below hrep hb) hsl (by omega)).mono ?_
   rintro e w1 ⟨rfl, hb1⟩
   have R1 := R.below hb1
   have hB1 := below_step hb hb1
   have hown1 := owns_below HO.out hb1
   have hs1 := hB1.size
   clear q0 q1 q2 q3 q4 q5 q6 q7 q8 R
   have HR1 := hid R1
   have HB1 := hid hB1
   obtain ⟨i1, hi, hz0, hz1, hz2⟩ := info_parts info_int
   clear R1 hB1 hb hb1
   go_wp2_with (at_builtin; refine wpList_append_own _ rfl _ _ 57 rfl w.heap.size 3 i1 (.int .i64 0) 1 8 Try.underlying57 hi hz0 hz1 hz2 rfl (by decide) _ _ _ rfl (hown1.alloc _) ⟨w1.heap.size, 0, none⟩ 1 1 [.int .i64 (1 + x.sats.length + sp)] rfl rfl ?c1 ?c2 ?c3 ?c4 ?c5 ?_)
   case c1 => exact cell_one_new _ _ _
   case c2 => intro u hu; simp at hu; subst hu; rfl
   case c3 => unfold maxLen; omega
   case c4 => omega
   case c5 => simp; omega
   intro v' w2 hown' hgrow _
   obtain ⟨ao', cp', hv', -, -⟩ := owns_slice hown'
   subst hv'
   have hR2 := (HR1.out.alloc _).grown (hown1.alloc _) (by decide) hgrow
   have hB2 := below_owned (HB1.out.alloc hs1 _) (hown1.alloc _) (by simp; omega) (Nat.le_refl _) hgrow
   have HOW := hid (show w2.ownsRow w.heap.size 3 1 (.slice ao' (k + 1 + 1) cp') (k + 1 + 1) (bikeV x st t (k + 1)) from by rw [HM.out]; exact hown')
   clear hown' hgrow hown1 hi hz0 hz1 hz2
   go_wp2
   go_roundw
   case rel => exact ⟨k + 1, ao', cp', by omega, by go_num, rfl, HOW.out, hR2, hB2⟩
   case measure => simp [intOf]; omega
  ·have hke : k = t.length := by omega
   subst hke
   have hr : (sliceS intS).rep wo (fun b => w.heap.size ≤ b) (bikeNodes x ⟨st, t⟩) [.slice ao (t.length + 1) cp] := by
    refine owns_ints (T := 3) ?_ ?_
    ·have : (bikeNodes x ⟨st, t⟩).length = t.length + 1 := by simp [bikeNodes]
     rw [this]; unfold bikeNodes; unfold bikeV at hown; rw [List.take_length] at hown; exact hown
    ·intro v hv
     simp only [bikeNodes, List.mem_cons, List.mem_map] at hv
     rcases hv with rfl | ⟨s, hs, rfl⟩
     ·unfold wf64; omega
     ·have := hin s hs; unfold wf64; omega
   have HR := hid hr
   clear hr hown hcell2 ha2 hin
   go_wp2
   go_ret
   exact ⟨_, rfl, HR.out, hb⟩
end Go.Proofs.Ytahffcepagopmaa
namespace Go.Proofs.Ytahffcepagopmaa
open Go.RowKit
theorem lit_rep {α : Type} {S : Shape α} {h0 : 0 < S.sz} {w : World} {F : Nat → Prop} {xs : List α} {g c : Nat} {T : TypeId} (vs : List (List Value)) (hl : vs.length = xs.length) (hv : ∀ v ∈ vs, v.length = S.sz)
  (hr : ∀ i (h : i < xs.length) (h' : i < vs.length), S.rep w F xs[i] vs[i]) (h : Row w g T vs.flatten) (hc : xs.length ≤ c) (hm : c ≤ maxLen) (hF : F g) : (sliceS S h0).rep w F xs [.slice (some ⟨g, 0, none⟩) xs.length c] := by
 refine ⟨some ⟨g, 0, none⟩, g, 0, c, rfl, hc, hm, fun _ => ⟨rfl, hF⟩, fun i hi => ⟨vs[i]'(by omega), hr i hi (by omega), fun j hj => ?_⟩⟩
 have hget : ∀ (l : List (List Value)) (i : Nat) (hi : i < l.length), (∀ v ∈ l, v.length = S.sz) → l.flatten[i * S.sz + j]? = (l[i])[j]? := by
  intro l
  induction l with
  | nil => intro i hi; simp at hi
  | cons a l ih =>
   intro i hi hl
   have ha := hl a (List.mem_cons_self ..)
   rw [List.flatten_cons]
   cases i with
   | zero => rw [Nat.zero_mul, Nat.zero_add, List.getElem?_append_left (by rw [ha]; exact hj)]; rfl
   | succ i =>
    rw [List.getElem?_append_right (by rw [ha, Nat.succ_mul]; omega), ha, show (i + 1) * S.sz + j - S.sz = i * S.sz + j by rw [Nat.succ_mul]; omega]
    exact ih i (by simpa using hi) fun v hv => hl v (List.mem_cons_of_mem _ hv)
 have e := hget vs i (by omega) hv
 have hj' : j < (vs[i]'(by omega)).length := by rw [hv _ (List.getElem_mem _)]; exact hj
 rw [List.getElem?_eq_getElem hj'] at e ⊢
 rw [Nat.zero_add]
 exact h.get e
theorem lit1 {α : Type} {S : Shape α} {h0 : 0 < S.sz} {w : World} {F : Nat → Prop} {x : α} {v : List Value} {g : Nat} {T : TypeId} (hr : S.rep w F x v) (h : Row w g T v) (hF : F g) : (sliceS S h0).rep w F [x] [.slice (some ⟨g, 0, none⟩) 1 1] := by
 refine lit_rep (xs := [x]) (T := T) [v] rfl ?_ ?_ (by simpa using h) (Nat.le_refl _) (by decide) hF
 ·intro u hu; simp at hu; subst hu; exact S.len hr
 ·intro i h h'
  obtain rfl : i = 0 := by simp at h; exact h
  exact hr
theorem Row.setApart {w : World} {g g' : Nat} {e e' : TypeId} {cs cs' : List Value} (h : Row w g e cs) (h' : Row w g' e' cs') (he : e ≠ e') (j : Nat) (u : Value) : Row (w.setCell ⟨g', j, none⟩ u) g e cs := h.setOther (a := ⟨g', j, none⟩) (h.ne h' he) u
theorem alloc_row (w : World) (c : List Value) (T : TypeId) : Below w.heap.size w (w.alloc (.cells c.toArray T)) ∧ Row (w.alloc (.cells c.toArray T)) w.heap.size T c ∧ (w.alloc (.cells c.toArray T)).heap.size = w.heap.size + 1 :=
 ⟨(Below.refl _ _).alloc (Nat.le_refl _) _, Row.new rfl, by simp⟩
theorem allocs3 (w : World) (c1 c2 c3 : List Value) (T1 T2 T3 : TypeId) : ∃ W, W = ((w.alloc (.cells c1.toArray T1)).alloc (.cells c2.toArray T2)).alloc (.cells c3.toArray T3) ∧ Below w.heap.size w W ∧
  Row W w.heap.size T1 c1 ∧ Row W (w.heap.size + 1) T2 c2 ∧ Row W (w.heap.size + 2) T3 c3 ∧ W.heap.size = w.heap.size + 3 := by
 obtain ⟨b1, r1, z1⟩ := alloc_row w c1 T1
 obtain ⟨b2, r2, z2⟩ := alloc_row (w.alloc (.cells c1.toArray T1)) c2 T2
 obtain ⟨b3, r3, z3⟩ := alloc_row ((w.alloc (.cells c1.toArray T1)).alloc (.cells c2.toArray T2)) c3 T3
 refine ⟨_, rfl, below_step (below_step b1 b2) b3, (r1.below b2).below b3, ?_, ?_, by omega⟩
 ·rw [z1] at r2; exact r2.below b3
 ·rw [show w.heap.size + 2 = ((w.alloc (.cells c1.toArray T1)).alloc (.cells c2.toArray T2)).heap.size by omega]; exact r3
theorem allocs5 (w : World) (c1 c2 c3 c4 c5 : List Value) (T1 T2 T3 T4 T5 : TypeId) : ∃ W, W = ((((w.alloc (.cells c1.toArray T1)).alloc (.cells c2.toArray T2)).alloc (.cells c3.toArray T3)).alloc (.cells c4.toArray T4)).alloc (.cells c5.toArray T5) ∧ Below w.heap.size w W ∧
  Row W w.heap.size T1 c1 ∧ Row W (w.heap.size + 1) T2 c2 ∧ Row W (w.heap.size + 2) T3 c3 ∧ Row W (w.heap.size + 3) T4 c4 ∧ Row W (w.heap.size + 4) T5 c5 ∧ W.heap.size = w.heap.size + 5 := by
 obtain ⟨b1, r1, z1⟩ := alloc_row w c1 T1
 obtain ⟨b2, r2, z2⟩ := alloc_row (w.alloc (.cells c1.toArray T1)) c2 T2
 obtain ⟨b3, r3, z3⟩ := alloc_row ((w.alloc (.cells c1.toArray T1)).alloc (.cells c2.toArray T2)) c3 T3
 obtain ⟨b4, r4, z4⟩ := alloc_row (((w.alloc (.cells c1.toArray T1)).alloc (.cells c2.toArray T2)).alloc (.cells c3.toArray T3)) c4 T4
 obtain ⟨b5, r5, z5⟩ := alloc_row ((((w.alloc (.cells c1.toArray T1)).alloc (.cells c2.toArray T2)).alloc (.cells c3.toArray T3)).alloc (.cells c4.toArray T4)) c5 T5
 refine ⟨_, rfl, below_step (below_step (below_step (below_step b1 b2) b3) b4) b5, (((r1.below b2).below b3).below b4).below b5, ?_, ?_, ?_, ?_, by omega⟩
 ·rw [z1] at r2; exact ((r2.below b3).below b4).below b5
 ·rw [show w.heap.size + 2 = ((w.alloc (.cells c1.toArray T1)).alloc (.cells c2.toArray T2)).heap.size by omega]; exact (r3.below b4).below b5
 ·rw [show w.heap.size + 3 = (((w.alloc (.cells c1.toArray T1)).alloc (.cells c2.toArray T2)).alloc (.cells c3.toArray T3)).heap.size by omega]; exact r4.below b5
 ·rw [show w.heap.size + 4 = ((((w.alloc (.cells c1.toArray T1)).alloc (.cells c2.toArray T2)).alloc (.cells c3.toArray T3)).alloc (.cells c4.toArray T4)).heap.size by omega]; exact r5
theorem RowsOwn.set {TR TI B : Nat} {w : World} {v : Value} {rows : List (List Int)} {g : Nat} {rs : List Nat} (h : RowsOwn w B TR TI v rows g rs) (hne : TR ≠ TI) {i j : Nat} (hi : i < rows.length) (hi' : i < rs.length) (hj : j < rows[i].length) (u : Int) :
  RowsOwn (w.setCell ⟨rs[i], j, none⟩ (intV u)) B TR TI v (rows.set i (rows[i].set j u)) g rs := by
 obtain ⟨c, k0, k1, k2, k3, k4, k5, k6, k7, k8⟩ := h
 have hz : List.zipWith rowV rs (rows.set i (rows[i].set j u)) = List.zipWith rowV rs rows := by
  apply List.ext_getElem
  ·simp
  ·intro n h1 h2
   simp only [List.getElem_zipWith, List.getElem_set]
   split
   ·rename_i e; subst e; unfold rowV; simp
   ·rfl
 refine ⟨c, by rw [k0]; simp, by simpa using k1, k2, k3, ?_, by simpa using k5, fun n h1 h2 => ?_, k7, k8⟩
 ·rw [hz]
  exact k4.setApart (k6 i hi' hi) hne _ _
 ·simp only [List.getElem_set]
  split
  ·rename_i e; subst e
   have := (k6 i hi' hi).set (j := j) (by rw [List.length_map]; exact hj) (intV u)
   rwa [← List.map_set] at this
  ·rename_i e
   have hn : n < rows.length := by simpa using h2
   refine (k6 n h1 hn).setOther (fun e2 => e ?_) _
   exact ((List.getElem_inj k7).1 e2).symm
theorem RowsOwn.keepAll {w w' : World} {B TR TI : Nat} {v : Value} {rows : List (List Int)} {g : Nat} {rs : List Nat} (h : RowsOwn w B TR TI v rows g rs) (h1 : w'.heap[g]? = w.heap[g]?) (h2 : ∀ b ∈ rs, w'.heap[b]? = w.heap[b]?) : RowsOwn w' B TR TI v rows g rs := by
 obtain ⟨c, k0, k1, k2, k3, k4, k5, k6, k7, k8⟩ := h
 exact ⟨c, k0, k1, k2, k3, k4.keep h1, k5, fun i h h' => (k6 i h h').keep (h2 _ (List.getElem_mem h)), k7, k8⟩
theorem RowsOwn.open {TR TI B : Nat} {w : World} {v : Value} {rows : List (List Int)} {g : Nat} {rs : List Nat} (h : RowsOwn w B TR TI v rows g rs) : ∃ c, v = .slice (some ⟨g, 0, none⟩) rows.length c ∧ rs.length = rows.length ∧
  (∀ i (h : i < rows.length) (h' : i < rs.length), w.cell? ⟨g, i, none⟩ = some (.slice (some ⟨rs[i], 0, none⟩) rows[i].length rows[i].length)) ∧
  (∀ i (h : i < rows.length) (h' : i < rs.length), Row w rs[i] TI (rows[i].map intV) ∧ B ≤ rs[i]) := by
 obtain ⟨c, k0, k1, k2, k3, k4, k5, k6, k7, k8⟩ := h
 refine ⟨c, k0, k5, fun i h h' => ?_, fun i h h' => ⟨k6 i h' h, k8 _ (List.getElem_mem h')⟩⟩
 have := k4.get (j := i) (v := rowV rs[i] rows[i]) (by rw [List.getElem?_zipWith, List.getElem?_eq_getElem h', List.getElem?_eq_getElem h])
 exact this
def setAt (l : List (List Int)) (i j : Nat) (u : Int) : List (List Int) := l.set i ((l.getD i []).set j u)
def InstD.putCost (x : InstD) (i j : Nat) (u : Int) : InstD := { x with cost := setAt x.cost i j u }
def InstD.putTime (x : InstD) (i j : Nat) (u : Int) : InstD := { x with time := setAt x.time i j u }
structure InstAt (TS TC TR TI : Nat) (w : World) (B : Nat) (x : InstD) (cs : List Value) (gs cs1 gc cc1 gco cco : Nat) (rco : List Nat) (gti cti : Nat) (rti : List Nat) : Prop where
 lit : cs = [.int .i64 x.fin, .int .i64 x.tmany, .int .i64 x.troom, .int .i64 x.bmany, .int .i64 x.broom, .slice (some ⟨gs, 0, none⟩) x.sats.length cs1, .slice (some ⟨gc, 0, none⟩) x.custs.length cc1, .slice (some ⟨gco, 0, none⟩) x.cost.length cco, .slice (some ⟨gti, 0, none⟩) x.time.length cti]
 caps : x.sats.length ≤ cs1 ∧ cs1 ≤ maxLen ∧ x.custs.length ≤ cc1 ∧ cc1 ≤ maxLen
 leS : B ≤ gs
 leC : B ≤ gc
 sats : Row w gs TS (x.sats.flatMap satV)
 custs : Row w gc TC (x.custs.flatMap custV)
 costs : RowsOwn w B TR TI (.slice (some ⟨gco, 0, none⟩) x.cost.length cco) x.cost gco rco
 times : RowsOwn w B TR TI (.slice (some ⟨gti, 0, none⟩) x.time.length cti) x.time gti rti
 apart : gco ≠ gti
 apart2 : ∀ a ∈ rco, ∀ b ∈ rti, a ≠ b
section
variable {TS TC TR TI B gs cs1 gc cc1 gco cco gti cti : Nat} {w : World} {x : InstD} {cs : List Value} {rco rti : List Nat}
theorem InstOwn.at (h : InstOwn TS TC TR TI w B x cs) : ∃ gs cs1 gc cc1 gco cco rco gti cti rti, InstAt TS TC TR TI w B x cs gs cs1 gc cc1 gco cco rco gti cti rti := by
 obtain ⟨gs, cs1, gc, cc1, vco, vti, gco, rco, gti, rti, k0, k1, k2, k3, k4, k5, k6, k7, k8, k9⟩ := h
 obtain ⟨c, hv, -⟩ := k6.open
 obtain ⟨c', hv', -⟩ := k7.open
 subst hv; subst hv'
 exact ⟨gs, cs1, gc, cc1, gco, c, rco, gti, c', rti, k0, k1, k2, k3, k4, k5, k6, k7, k8, k9⟩
theorem InstAt.own (h : InstAt TS TC TR TI w B x cs gs cs1 gc cc1 gco cco rco gti cti rti) : InstOwn TS TC TR TI w B x cs :=
 ⟨gs, cs1, gc, cc1, _, _, gco, rco, gti, rti, h.lit, h.caps, h.leS, h.leC, h.sats, h.custs, h.costs, h.times, h.apart, h.apart2⟩
theorem InstAt.drew (h : InstAt TS TC TR TI w B x cs gs cs1 gc cc1 gco cco rco gti cti rti) : InstAt TS TC TR TI w.drew B x cs gs cs1 gc cc1 gco cco rco gti cti rti := ⟨h.lit, h.caps, h.leS, h.leC, h.sats.drew, h.custs.drew, h.costs.keepAll rfl fun _ _ => rfl, h.times.keepAll rfl fun _ _ => rfl, h.apart, h.apart2⟩
theorem InstAt.below {w' : World} (h : InstAt TS TC TR TI w B x cs gs cs1 gc cc1 gco cco rco gti cti rti) (hb : Below w.heap.size w w') : InstAt TS TC TR TI w' B x cs gs cs1 gc cc1 gco cco rco gti cti rti :=
 ⟨h.lit, h.caps, h.leS, h.leC, h.sats.below hb, h.custs.below hb, h.costs.below hb, h.times.below hb, h.apart, h.apart2⟩
theorem RowsOwn.row {TR TI B : Nat} {w : World} {v : Value} {rows : List (List Int)} {g : Nat} {rs : List Nat} (h : RowsOwn w B TR TI v rows g rs) {i : Nat} (hi : i < rows.length) :
  w.cell? ⟨g, i, none⟩ = some (.slice (some ⟨rs.getD i 0, 0, none⟩) (rows.getD i []).length (rows.getD i []).length) ∧ Row w (rs.getD i 0) TI ((rows.getD i []).map intV) ∧ B ≤ rs.getD i 0 ∧ rs.getD i 0 ∈ rs := by
 obtain ⟨c, hv, hrl, hg, hr⟩ := h.open
 have hi' : i < rs.length := by omega
 have e1 : rows.getD i [] = rows[i] := by rw [List.getD_eq_getElem?_getD, List.getElem?_eq_getElem hi]; rfl
 have e2 : rs.getD i 0 = rs[i] := by rw [List.getD_eq_getElem?_getD, List.getElem?_eq_getElem hi']; rfl
 rw [e1, e2]
 exact ⟨hg i hi hi', (hr i hi hi').1, (hr i hi hi').2, List.getElem_mem _⟩
theorem RowsOwn.apart {TR TI B : Nat} {w : World} {v : Value} {rows : List (List Int)} {g : Nat} {rs : List Nat} (h : RowsOwn w B TR TI v rows g rs) {i i' : Nat} (hi : i < rows.length) (hi' : i' < rows.length) (hne : i ≠ i') : rs.getD i 0 ≠ rs.getD i' 0 := by
 obtain ⟨c, k0, k1, k2, k3, k4, k5, k6, k7, k8⟩ := h
 rw [List.getD_eq_getElem?_getD, List.getD_eq_getElem?_getD, List.getElem?_eq_getElem (by omega), List.getElem?_eq_getElem (by omega)]
 intro e
 exact hne ((List.getElem_inj k7).1 e)
theorem RowsOwn.setAt {TR TI B : Nat} {w : World} {v : Value} {rows : List (List Int)} {g : Nat} {rs : List Nat} (h : RowsOwn w B TR TI v rows g rs) (hne : TR ≠ TI) {i j : Nat} (hi : i < rows.length) (hj : j < (rows.getD i []).length) (u : Int) :
  RowsOwn (w.setCell ⟨rs.getD i 0, j, none⟩ (intV u)) B TR TI v (setAt rows i j u) g rs := by
 have hrl : rs.length = rows.length := by obtain ⟨c, k0, k1, k2, k3, k4, k5, k6, k7, k8⟩ := h; exact k5
 have hi' : i < rs.length := by omega
 have e1 : rows.getD i [] = rows[i] := by rw [List.getD_eq_getElem?_getD, List.getElem?_eq_getElem hi]; rfl
 have e2 : rs.getD i 0 = rs[i] := by rw [List.getD_eq_getElem?_getD, List.getElem?_eq_getElem hi']; rfl
 unfold Go.Proofs.Ytahffcepagopmaa.setAt
 rw [e1] at hj ⊢
 rw [e2]
 exact h.set hne hi hi' hj u
theorem setAt_len (l : List (List Int)) (i j : Nat) (u : Int) : (setAt l i j u).length = l.length := by unfold setAt; simp
theorem InstAt.setCost (h : InstAt TS TC TR TI w B x cs gs cs1 gc cc1 gco cco rco gti cti rti) (n1 : TS ≠ TI) (n2 : TC ≠ TI) (n3 : TR ≠ TI) {i j : Nat} (hi : i < x.cost.length) (hj : j < (x.cost.getD i []).length) (u : Int) :
  InstAt TS TC TR TI (w.setCell ⟨rco.getD i 0, j, none⟩ (intV u)) B (x.putCost i j u) cs gs cs1 gc cc1 gco cco rco gti cti rti := by
 obtain ⟨h1, h2, h3, h4⟩ := h.costs.row hi
 have hrt : Row w gti TR (List.zipWith rowV rti x.time) := by obtain ⟨_, _, _, _, _, kr, _⟩ := h.times; exact kr
 refine ⟨by rw [h.lit]; simp only [InstD.putCost, setAt_len], h.caps, h.leS, h.leC, h.sats.setApart h2 n1 _ _, h.custs.setApart h2 n2 _ _, ?_, ?_, h.apart, h.apart2⟩
 ·have := h.costs.setAt n3 hi hj u
  show RowsOwn _ B TR TI (.slice _ (setAt x.cost i j u).length _) (setAt x.cost i j u) gco rco
  rw [setAt_len]; exact this
 ·exact h.times.keepAll (Below.heap_setCell _ _ _ _ (hrt.ne h2 n3)) fun b hb => Below.heap_setCell _ _ _ _ fun e => h.apart2 _ h4 b hb e.symm
theorem InstAt.setTime (h : InstAt TS TC TR TI w B x cs gs cs1 gc cc1 gco cco rco gti cti rti) (n1 : TS ≠ TI) (n2 : TC ≠ TI) (n3 : TR ≠ TI) {i j : Nat} (hi : i < x.time.length) (hj : j < (x.time.getD i []).length) (u : Int) :
  InstAt TS TC TR TI (w.setCell ⟨rti.getD i 0, j, none⟩ (intV u)) B (x.putTime i j u) cs gs cs1 gc cc1 gco cco rco gti cti rti := by
 obtain ⟨h1, h2, h3, h4⟩ := h.times.row hi
 have hrt : Row w gco TR (List.zipWith rowV rco x.cost) := by obtain ⟨_, _, _, _, _, kr, _⟩ := h.costs; exact kr
 refine ⟨by rw [h.lit]; simp only [InstD.putTime, setAt_len], h.caps, h.leS, h.leC, h.sats.setApart h2 n1 _ _, h.custs.setApart h2 n2 _ _, ?_, ?_, h.apart, h.apart2⟩
 ·exact h.costs.keepAll (Below.heap_setCell _ _ _ _ (hrt.ne h2 n3)) fun a ha => Below.heap_setCell _ _ _ _ fun e => h.apart2 a ha _ h4 e
 ·have := h.times.setAt n3 hi hj u
  show RowsOwn _ B TR TI (.slice _ (setAt x.time i j u).length _) (setAt x.time i j u) gti rti
  rw [setAt_len]; exact this
end
end Go.Proofs.Ytahffcepagopmaa
namespace Go.Proofs.Ytahffcepagopmaa
open Go.RowKit
def OldBut (row : Option Nat) (W w' : World) : Prop := W.heap.size ≤ w'.heap.size ∧ ∀ b, b < W.heap.size → some b ≠ row → w'.heap[b]? = W.heap[b]?
instance (row : Option Nat) (W : World) : Nonempty (At (OldBut row W)) := ⟨⟨W, Nat.le_refl _, fun _ _ _ => rfl⟩⟩
theorem OldBut.cell {row : Option Nat} {W w' : World} (h : OldBut row W w') {a : Addr} {v : Value} (hc : W.cell? a = some v) (hne : some a.block ≠ row) : w'.cell? a = some v := by
 rw [World.cell?_of_block (h.2 _ (cell_lt hc) hne)]; exact hc
theorem OldBut.refl (row : Option Nat) (W : World) : OldBut row W W := ⟨Nat.le_refl _, fun _ _ _ => rfl⟩
theorem OldBut.drew {row : Option Nat} {W w' : World} (h : OldBut row W w') : OldBut row W w'.drew := h
theorem OldBut.below {row : Option Nat} {W w1 w2 : World} (h : OldBut row W w1) (hb : Below w1.heap.size w1 w2) : OldBut row W w2 := ⟨Nat.le_trans h.1 hb.size, fun b hb' hne => (hb.block b (Nat.lt_of_lt_of_le hb' h.1)).trans (h.2 b hb' hne)⟩
theorem OldBut.grown {row : Option Nat} {W w1 w2 : World} (h : OldBut row W w1) (hg : w1.grownBy w2 row) : OldBut row W w2 := ⟨Nat.le_trans h.1 hg.size, fun b hb' hne => (hg.block b (Nat.lt_of_lt_of_le hb' h.1) hne).trans (h.2 b hb' hne)⟩
theorem ne_own_old {w : World} {B T n k b : Nat} {v : Value} {xs : List Value} (h : w.ownsRow B T k v n xs) (hb : b < B) : some b ≠ v.ownBlock := fun e => by have := (h.lt b e.symm).1; omega
theorem ne_own_row {w : World} {B T n k g : Nat} {v : Value} {xs : List Value} {e : TypeId} {cs : List Value} (h : w.ownsRow B T k v n xs) (hr : Row w g e cs) (he : e ≠ T) : some g ≠ v.ownBlock := fun e' => by obtain ⟨cs', hc'⟩ := ownBlock_row h e'.symm; exact hr.ne hc' he rfl
theorem grown_set (w : World) (a : Addr) (u : Value) : w.grownBy (w.setCell a u) (some a.block) := ⟨rfl, rfl, rfl, by simp [World.setCell], fun k _ hk => Below.heap_setCell _ _ _ _ (fun e => hk (by rw [e]))⟩
theorem owns_setApart {w : World} {B T n k g : Nat} {v : Value} {xs : List Value} {e : TypeId} {cs : List Value} (h : w.ownsRow B T k v n xs) (hr : Row w g e cs) (he : e ≠ T) (j : Nat) (u : Value) : (w.setCell ⟨g, j, none⟩ u).ownsRow B T k v n xs :=
 h.kept (grown_set w ⟨g, j, none⟩ u) (.inr fun e' => ne_own_row h hr he e'.symm)
def idxs (loads : List Int) (k : Nat) : List Nat := (List.range k).filter fun s => decide (0 < loads.getD s 0)
def keysUp (x : InstD) (loads : List Int) (k : Nat) : List Nat := (List.range loads.length).map fun s => if s < k ∧ 0 < loads.getD s 0 then ratioF (costAt x 0 (1 + s)) (loads.getD s 0) else 0
def orderD (x : InstD) (loads : List Int) : List Nat := if check x = 0 ∧ loads.length = x.sats.length then sortD (ltK (keysUp x loads loads.length)) (idxs loads loads.length) else []
theorem Row.makeF {w : World} {n : Nat} {e : TypeId} : Row (w.alloc (.cells (Array.replicate n (fltV 0)) e)) w.heap.size e ((List.replicate n 0).map fltV) := by
 have := Row.new (w := w) (e := e) (cs := (List.replicate n 0).map fltV) rfl
 simpa using this
theorem nil_rep {α : Type} (S : Shape α) {h0 : 0 < S.sz} (w : World) (F : Nat → Prop) : (sliceS S h0).rep w F [] [.slice none 0 0] :=
 ⟨none, 0, 0, 0, rfl, Nat.le_refl _, Nat.zero_le _, fun h => absurd h (Nat.not_lt_zero _), fun i h => absurd h (Nat.not_lt_zero _)⟩
end Go.Proofs.Ytahffcepagopmaa
namespace Go.Proofs.Ytahffcepagopmaa
open Go.RowKit
structure ArcD where
 frm : Nat
 dst : Nat
 wt : Int
 deriving DecidableEq
structure GraphD where
 n : Nat
 arcs : List ArcD
 deriving DecidableEq
def arcV (s : ArcD) : List Value := [.int .i64 s.frm, .int .i64 s.dst, .int .i64 s.wt]
def arcS : Shape ArcD := plainS 3 (fun x cs => cs = arcV x) (by rintro x cs rfl; rfl)
def graphS : Shape GraphD where
 sz := 2
 rep := fun w F x cs => ∃ v, cs = [.int .i64 (x.n : Int), v] ∧ (sliceS arcS).rep w F x.arcs [v]
 len := by rintro w F x cs ⟨v, rfl, _⟩; rfl
 keep := by rintro w w' F x cs ⟨v, rfl, h⟩ ha; exact ⟨v, rfl, (sliceS arcS).keep h ha⟩
 weak := by rintro w F G x cs ⟨v, rfl, h⟩ ha; exact ⟨v, rfl, (sliceS arcS).weak h ha⟩
 lt := by rintro w F x cs ⟨v, rfl, h⟩; exact ⟨v, rfl, (sliceS arcS).lt h⟩
theorem arcs_open {w : World} {F : Nat → Prop} {xs : List ArcD} {cs : List Value} (h : (sliceS arcS).rep w F xs cs) :
  ∃ (a : Option Addr) (b off c : Nat), cs = [.slice a xs.length c] ∧ xs.length ≤ c ∧ c ≤ 9223372036854775807 ∧ (0 < xs.length → a = some ⟨b, off, none⟩) ∧ (0 < xs.length → F b) ∧
   (∀ k (h : k < xs.length), w.cell? ⟨b, off + k * 3, none⟩ = some (.int .i64 xs[k].frm) ∧ w.cell? ⟨b, off + k * 3 + 1, none⟩ = some (.int .i64 xs[k].dst) ∧ w.cell? ⟨b, off + k * 3 + 2, none⟩ = some (.int .i64 xs[k].wt)) := by
 obtain ⟨a, b, off, c, rfl, h1, h2, h3, h4⟩ := h
 refine ⟨a, b, off, c, rfl, h1, h2, fun h => (h3 h).1, fun h => (h3 h).2, fun k hk => ?_⟩
 obtain ⟨es, rfl, hc⟩ := h4 k hk
 have e0 := hc 0 (by decide)
 have e1 := hc 1 (by decide)
 have e2 := hc 2 (by decide)
 exact ⟨by simpa [arcS, plainS, arcV] using e0, by simpa [arcS, plainS, arcV] using e1, by simpa [arcS, plainS, arcV] using e2⟩
theorem sz_arc : ∀ w, (sizeOf 146).run Try.prog w = .ok 3 w := fun w => by kernel_rfl
structure GGood (g : GraphD) : Prop where
 n : g.n ≤ 1000
 len : g.arcs.length ≤ 20000
 arc : ∀ a ∈ g.arcs, a.frm < a.dst ∧ a.dst < g.n ∧ 0 ≤ a.wt ∧ a.wt ≤ 1099511627776
theorem has_c {w : World} {n : Nat} {v : Value} {i : Nat} (hi : i < n) :
  Calls Try.prog 78 #[.agg #[.int .i64 (n : Int), v], .int .i64 (i : Int)] w fun e w' => e = .returned (.bool true) ∧ Below w.heap.size w w' := by
 have h1 : (i : Int) < (n : Int) := by omega
 have h0 : (0 : Int) ≤ (i : Int) := by omega
 go_enter Try.func78, Try.ntmps78
 go_wp2
 go_ret
 exact ⟨rfl, (Below.refl _ _).alloc (Nat.le_refl _) _⟩
set_option maxRecDepth 100000 in
set_option maxHeartbeats 1600000 in
theorem graphCheck_c {w : World} {F : Nat → Prop} {g : GraphD} {cs : List Value} (h : graphS.rep w F g cs) (hg : GGood g) :
  Calls Try.prog 66 #[.agg cs.toArray] w fun e w' => e = .returned (.int .i64 0) ∧ Below w.heap.size w w' := by
 obtain ⟨v, rfl, h⟩ := h
 obtain ⟨a, b, off, c, hs, -, -, ha, -, hcell⟩ := arcs_open h
 obtain rfl := List.cons.inj hs |>.1
 have HCELL := hid hcell
 have HG := hid hg
 have hn : (g.n : Int) ≤ 1000 := by have := hg.n; omega
 have hl : (g.arcs.length : Int) ≤ 20000 := by have := hg.len; omega
 clear hs h hcell hg
 go_enter Try.func66, Try.ntmps66
 go_wp2
 go_loopw [22] (fun i wr => ∃ k : Nat, k ≤ g.arcs.length ∧ i = .int .i64 k ∧ Below w.heap.size w wr ∧ Row wr w.heap.size 116 [.int .i64 (g.n : Int), .slice a g.arcs.length c]) (fun i _ => g.arcs.length - (intOf i).toNat)
 case atStart => exact ⟨0, Nat.zero_le _, rfl, (Below.refl _ _).alloc (Nat.le_refl _) _, Row.new rfl⟩
 case round =>
  obtain ⟨k, hk, rfl, hb, R⟩ := hrel
  obtain ⟨wq, rfl⟩ : ∃ wq : World, wq = wr := ⟨_, rfl⟩
  by_cases hlt : k < g.arcs.length
  ·have hx := idx_at (c := c) Try.underlying114 sz_arc (ha (by omega)) hlt
   obtain ⟨g0, g1, g2⟩ := HCELL.out k hlt
   have p0 := below_cell hb g0
   have p1 := below_cell hb g1
   have p2 := below_cell hb g2
   obtain ⟨f1, f2, f3, f4⟩ := HG.out.arc _ (List.getElem_mem hlt)
   obtain ⟨ar, har⟩ : ∃ ar, ar = g.arcs[k] := ⟨_, rfl⟩
   rw [← har] at p0 p1 p2 f1 f2 f3 f4
   obtain ⟨x1, x2, x3⟩ := ar
   simp only [] at p0 p1 p2 f1 f2 f3 f4
   have hal : Below wq.heap.size wq (wq.alloc (.cells #[.int .i64 (x1 : Int), .int .i64 (x2 : Int), .int .i64 x3] 146)) := (Below.refl _ _).alloc (Nat.le_refl _) _
   have RA := Row.new (w := wq) (g := wq.heap.size) (e := 146) (cs := [.int .i64 (x1 : Int), .int .i64 (x2 : Int), .int .i64 x3]) rfl
   have R1 := R.below hal
   have hb1 := below_step hb hal
   clear har g0 g1 g2
   go_upto_region 6 with fail
   generalize wq.alloc (.cells #[.int .i64 (x1 : Int), .int .i64 (x2 : Int), .int .i64 x3] 146) = wa at *
   obtain ⟨q0, q1⟩ := row2 R1
   have a0 := RA.cell (j := 0) (by simp)
   have a1 := RA.cell (j := 1) (by simp)
   have a2 := RA.cell (j := 2) (by simp)
   simp only [List.getElem_cons_zero, List.getElem_cons_succ] at a0 a1 a2
   go_wp2_with fail
   refine (has_c (by omega)).mono ?_
   rintro e w1 ⟨rfl, hb2⟩
   have RA1 := RA.below hb2
   have R2 := R1.below hb2
   obtain ⟨q0, q1⟩ := row2 R2
   have a0 := RA1.cell (j := 0) (by simp)
   have a1 := RA1.cell (j := 1) (by simp)
   have a2 := RA1.cell (j := 2) (by simp)
   simp only [List.getElem_cons_zero, List.getElem_cons_succ] at a0 a1 a2
   go_wp2_with fail
   refine (has_c f2).mono ?_
   rintro e w2 ⟨rfl, hb3⟩
   have RA2 := RA1.below hb3
   have R3 := R2.below hb3
   have hb4 := below_step (below_step hb1 hb2) hb3
   have a2 := RA2.cell (j := 2) (by simp)
   simp only [List.getElem_cons_zero, List.getElem_cons_succ] at a2
   clear R R1 R2 RA RA1 RA2 hb1 hb2 hb3 hal q0 q1 p0 p1 p2
   go_wp2
   go_roundw
   case rel => exact ⟨k + 1, by omega, by go_num, hb4, R3⟩
   case measure => simp [intOf]; omega
  ·have hke : k = g.arcs.length := by omega
   subst hke
   go_wp2
   go_ret
   exact ⟨rfl, hb⟩
def arcAt (g : GraphD) (k : Nat) : ArcD := g.arcs.getD k ⟨0, 0, 0⟩
def outUp (g : GraphD) (i k : Nat) : List Nat := (List.range k).filter fun j => (arcAt g j).frm == i
def natV (k : Nat) : Value := .int .i64 (k : Int)
theorem outUp_yes {g : GraphD} {i k : Nat} (h : (arcAt g k).frm = i) : outUp g i (k + 1) = outUp g i k ++ [k] := by
 unfold outUp; rw [List.range_succ, List.filter_append]; simp [h]
theorem outUp_no {g : GraphD} {i k : Nat} (h : (arcAt g k).frm ≠ i) : outUp g i (k + 1) = outUp g i k := by
 unfold outUp; rw [List.range_succ, List.filter_append]; simp [h]
theorem outUp_len (g : GraphD) (i k : Nat) : (outUp g i k).length ≤ k := by
 have := List.length_filter_le (fun j => (arcAt g j).frm == i) (List.range k); rw [List.length_range] at this; exact this
theorem arcAt_get {g : GraphD} {k : Nat} (h : k < g.arcs.length) : arcAt g k = g.arcs[k] := by
 unfold arcAt; rw [List.getD_eq_getElem?_getD, List.getElem?_eq_getElem h]; rfl
set_option maxRecDepth 100000 in
set_option maxHeartbeats 1600000 in
theorem graphOut_c {w : World} {F : Nat → Prop} {g : GraphD} {cs : List Value} (h : graphS.rep w F g cs) (hl : g.arcs.length ≤ 20000) (i : Nat) :
  Calls Try.prog 70 #[.agg cs.toArray, .int .i64 (i : Int)] w fun e w' => ∃ v, e = .returned v ∧ w'.ownsRow w.heap.size 3 1 v (outUp g i g.arcs.length).length ((outUp g i g.arcs.length).map natV) ∧ Below w.heap.size w w' := by
 obtain ⟨v, rfl, h⟩ := h
 obtain ⟨a, b, off, c, hs, -, -, ha, -, hcell⟩ := arcs_open h
 obtain rfl := List.cons.inj hs |>.1
 have HCELL := hid hcell
 have hli : (g.arcs.length : Int) ≤ 20000 := by omega
 clear hs h hcell
 go_enter Try.func70, Try.ntmps70
 go_wp2
 go_loopw [5, 11] (fun ov kv wr => ∃ (k : Nat) (ao : Option Addr) (cp : Nat), k ≤ g.arcs.length ∧ kv = .int .i64 k ∧ ov = .slice ao (outUp g i k).length cp ∧ wr.ownsRow w.heap.size 3 1 (.slice ao (outUp g i k).length cp) (outUp g i k).length ((outUp g i k).map natV) ∧
   Below w.heap.size w wr ∧ Row wr w.heap.size 116 [.int .i64 (g.n : Int), .slice a g.arcs.length c]) (fun _ kv _ => g.arcs.length - (intOf kv).toNat)
 case atStart => exact ⟨0, none, 0, Nat.zero_le _, rfl, rfl, World.ownsRow_nil _ _ _ _, (Below.refl _ _).alloc (Nat.le_refl _) _, Row.new rfl⟩
 case round =>
  obtain ⟨k, ao, cp, hk, rfl, rfl, hown, hb, R⟩ := hrel
  obtain ⟨wq, rfl⟩ : ∃ wq : World, wq = wr := ⟨_, rfl⟩
  by_cases hlt : k < g.arcs.length
  ·have hx := idx_at (c := c) Try.underlying114 sz_arc (ha (by omega)) hlt
   obtain ⟨g0, g1, g2⟩ := HCELL.out k hlt
   have p0 := below_cell hb g0
   have p1 := below_cell hb g1
   have p2 := below_cell hb g2
   obtain ⟨ar, har⟩ : ∃ ar, ar = g.arcs[k] := ⟨_, rfl⟩
   have har2 : arcAt g k = ar := by rw [har]; exact arcAt_get hlt
   rw [← har] at p0 p1 p2
   obtain ⟨x1, x2, x3⟩ := ar
   simp only [] at p0 p1 p2
   have hal : Below wq.heap.size wq (wq.alloc (.cells #[.int .i64 (x1 : Int), .int .i64 (x2 : Int), .int .i64 x3] 146)) := (Below.refl _ _).alloc (Nat.le_refl _) _
   have HR1 := hid (R.below hal)
   have HB1 := hid (below_step hb hal)
   have HO1 := hid (owns_below hown hal)
   have hsz := hb.size
   have hol := outUp_len g i k
   by_cases e : x1 = i
   ·have e1 : ((x1 : Int) == (i : Int)) = true := by simp [e]
    have HU := hid (outUp_yes (g := g) (i := i) (k := k) (by rw [har2]; exact e))
    clear har har2 g0 g1 g2 R hown hb e hal
    obtain ⟨i1, hi, hz0', hz1', hz2'⟩ := info_parts info_int
    obtain ⟨ol, hole⟩ : ∃ ol, ol = (outUp g i k).length := ⟨_, rfl⟩
    rw [← hole] at HO1 hol ⊢
    have HOL := hid hole
    clear hole
    go_upto_region 6 with fail
    generalize wq.alloc (.cells #[.int .i64 (x1 : Int), .int .i64 (x2 : Int), .int .i64 x3] 146) = wa at *
    have hown1 := HO1.out.alloc (.cells #[.int .i64 k] 3)
    have hwa := HB1.out.size
    go_wp2_with (at_builtin; refine wpList_append_own _ rfl _ _ 57 rfl w.heap.size 3 i1 (.int .i64 0) 1 8 Try.underlying57 hi hz0' hz1' hz2' rfl (by decide) _ _ _ rfl hown1 ⟨wa.heap.size, 0, none⟩ 1 1 [.int .i64 (k : Int)] rfl rfl ?c1 ?c2 ?c3 ?c4 ?c5 ?_)
    case c1 => exact cell_one_new _ _ _
    case c2 => intro u hu; simp at hu; subst hu; rfl
    case c3 => unfold maxLen; omega
    case c4 => omega
    case c5 => simp; omega
    intro v' w2 hown' hgrow _
    obtain ⟨ao', cp', hv', -, -⟩ := owns_slice hown'
    subst hv'
    have HB2 := hid (below_owned (w := wa.alloc (.cells #[.int .i64 k] 3)) (HB1.out.alloc hwa _) hown1 (by simp; omega) (Nat.le_refl _) hgrow)
    have HR2 := hid ((HR1.out.alloc (.cells #[.int .i64 k] 3)).grown hown1 (by decide) hgrow)
    have HO2 := hid (show w2.ownsRow w.heap.size 3 1 (.slice ao' (outUp g i (k + 1)).length cp') (outUp g i (k + 1)).length ((outUp g i (k + 1)).map natV) from by
     rw [HU.out, List.length_append, List.length_singleton, ← HOL.out, List.map_append]; exact hown')
    have HL := hid (show ol + 1 = (outUp g i (k + 1)).length from by rw [HU.out, List.length_append, List.length_singleton, ← HOL.out])
    clear hown' hgrow hown1 hi hz0' hz1' hz2'
    go_wp2
    go_roundw
    case rel => exact ⟨k + 1, ao', cp', by omega, by go_num, by rw [HL.out], HO2.out, HB2.out, HR2.out⟩
    case measure => simp [intOf]; omega
   ·have e1 : ((x1 : Int) == (i : Int)) = false := by simp; omega
    have HU := hid (outUp_no (g := g) (i := i) (k := k) (by rw [har2]; exact e))
    clear har har2 g0 g1 g2 R hown hb e hal
    obtain ⟨ol, hole⟩ : ∃ ol, ol = outUp g i k := ⟨_, rfl⟩
    rw [← hole] at HO1 hol HU ⊢
    clear hole
    go_wp2
    go_roundw
    case rel => exact ⟨k + 1, ao, cp, by omega, by go_num, by rw [HU.out], by rw [HU.out]; exact HO1.out, HB1.out, HR1.out⟩
    case measure => simp [intOf]; omega
  ·have hke : k = g.arcs.length := by omega
   subst hke
   go_wp2
   go_ret
   exact ⟨_, rfl, hown, hb⟩
end Go.Proofs.Ytahffcepagopmaa
