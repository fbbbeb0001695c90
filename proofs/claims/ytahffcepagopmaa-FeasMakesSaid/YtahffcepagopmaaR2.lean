/- Texts of the proof, joined: SoonM, Pc2, Same18, LawK, Cost17, Pc3, FeasMakes. -/
import Derived.Test.YtahffcepagopmaaCan
set_option linter.all false
namespace Go.Proofs.Ytahffcepagopmaa.Ab
open Go.RowKit
set_option maxRecDepth 100000
set_option linter.unusedSimpArgs false
set_option maxHeartbeats 2000000
def tsH (id : Nat) : List (List Int) → AV
 | [] => .nils
 | l => .h id 0 l.length
theorem tsH_ren {n : Nat} {ids : List Nat} (h : 5 < n) (l : List (List Int)) : renA n ids (tsH 5 l) = tsH 5 l := by
 cases l with
 | nil => rfl
 | cons a l => simp [tsH, renA, renI, h, mkH]
def eRow : List Int → AV
 | [] => .nils
 | l => eInts l
def tsR : List (List Int) → Root
 | [] => .dead
 | l => .live false 65 1 (.gen (l.map fun r => [eRow r]))
def headH (x : InstD) (p : PlanD) (ts : List (List Int)) (ready : List Int) : List Root :=
 [.live false 39 9 (.box (eInst x)), .live false 44 2 (.box (ePlan p)), .live false 50 2 (.box [.nils, .nils]), .live false 50 2 (.box [tsH 5 ts, .nils]), .live false 2 1 (.ints .i64 ready), tsR ts]
def lH (id : Nat) : List Int → AV
 | [] => .nils
 | l => .h id 0 l.length
def lR : List Int → Root
 | [] => .dead
 | l => .live false 2 1 (.ints .i64 l)
theorem tsR_ren {n : Nat} {ids : List Nat} (l : List (List Int)) : renRoot n ids (tsR l) = tsR l := by
 cases l <;> rfl
def headL (x : InstD) (p : PlanD) (ts : List (List Int)) (t : List StopD) (ready l : List Int) : List Root :=
 [.live false 39 9 (.box (eInst x)), .live false 44 2 (.box (ePlan p)), .live false 50 2 (.box [.nils, .nils]), .live false 50 2 (.box [tsH 5 ts, .nils]), .live false 2 1 (.ints .i64 ready), tsR ts, .live false 62 1 (.box [eStops t]), lR l]
def bsH (id : Nat) : List RideD → AV
 | [] => .nils
 | l => .h id 0 l.length
def bsR : List RideD → Root
 | [] => .dead
 | l => .live false 67 3 (.gen (l.map fun r => [I6 r.out, eRow r.starts, I6 r.back]))
def headB (x : InstD) (p : PlanD) (ts : List (List Int)) (ready : List Int) (rs : List RideD) : List Root :=
 [.live false 39 9 (.box (eInst x)), .live false 44 2 (.box (ePlan p)), .live false 50 2 (.box [.nils, .nils]), .live false 50 2 (.box [tsH 5 ts, bsH 6 rs]), .live false 2 1 (.ints .i64 ready), tsR ts, bsR rs]
def headC (x : InstD) (p : PlanD) (ts : List (List Int)) (ready : List Int) (rs : List RideD) (b : BikeD) (out : Int) (l : List Int) : List Root :=
 headB x p ts ready rs ++ [.live false 59 2 (.box [I6 b.sat, eInts b.stops]), .live false 67 3 (.box [I6 out, lH 9 l, I6 0]), lR l]
def upN (x : InstD) (A : SnA) (t : List StopD) (j : Nat) : SnT := (t.take j).foldl (soonStop x) ⟨0, 0, A.ready, []⟩
theorem eqv_row (l : List Int) : Eqv (eRow l) (eInts l) := by
 cases l with
 | nil => exact .inr ⟨1, _, rfl⟩
 | cons v l => exact ⟨_, rfl, fun i _ j _ => rfl⟩
theorem eqv_ts (l : List (List Int)) : Eqv (.sl l.length 1 fun i j => nth ((l.map fun r => [eRow r]).getD i []) j) (.sl l.length 1 fun i _ => eInts (l.getD i [])) :=
 ⟨_, rfl, fun i hi j hj => by
  obtain rfl : j = 0 := by omega
  dsimp only
  rw [getD_of (by simpa using hi), getD_of hi, List.getElem_map]
  exact eqv_row _⟩
theorem eqv_bs (l : List RideD) : Eqv (.sl l.length 3 fun i j => nth ((l.map fun r => [I6 r.out, eRow r.starts, I6 r.back]).getD i []) j) (.sl l.length 3 fun i => ix3 (I6 (l.getD i ⟨0, [], 0⟩).out) (eInts (l.getD i ⟨0, [], 0⟩).starts) (I6 (l.getD i ⟨0, [], 0⟩).back)) :=
 ⟨_, rfl, fun i hi j hj => by
  dsimp only
  rw [getD_of (by simpa using hi), getD_of hi, List.getElem_map]
  match j, hj with
  | 0, _ => exact rfl
  | 1, _ => exact eqv_row _
  | 2, _ => exact rfl⟩
def bkN (x : InstD) (ready : List Int) (b : BikeD) (j : Nat) : SnB := (b.stops.take j).foldl (soonCust x) ⟨ready.getD b.sat.toNat 0, 1 + b.sat, []⟩
theorem soon_m {x : InstD} {p : PlanD} (ok : SoonOk x p) : PCall Try.prog 11 [.agg (eInst x), .agg (ePlan p)] (fun r => r = .agg (eTimes (soonD x p))) := by
 have gd := ok.good
 have hs1 := gd.sats; have hc1 := gd.custs; have hf1 := gd.fin; have htl := ok.tl; have hbl := ok.bl
 have hndx : nodes x = 1 + x.sats.length + x.custs.length := rfl
 refine pcall_of ty_ok (by kernel_rfl) (fun n => match n with | 13 => ([], 1) | 25 => ([0,1,2,3,4,5,6,7,12,13,14,15,16,17,8,9,10,11,18,19], 0) | 29 => ([], 1) | _ => ([], 0)) Try.func11 rfl (by kernel_rfl) Try.ntmps11 (congrArg Array.toList Try.results11) (by kernel_rfl) (by simp) ?_
 simp -implicitDefEqProofs only [go_sem, ↓reduceIte, reduceCtorEq, Nat.reduceAdd, Nat.reduceLT, Nat.reduceEqDiff, Nat.reduceMul, Nat.reduceLeDiff, Nat.reduceSub, eInst, ePlan]
 refine ⟨by omega, ?_⟩
 refine awp_loop2 (ι := Nat) 1 [2, 3, 4, 5, 6, 26, 27] [28] (fun k => k ≤ p.trucks.length) (fun k => [.c (I6 k)]) (fun k => headH x p (soonTrucks x (p.trucks.take k)).ts (soonTrucks x (p.trucks.take k)).ready) (fun k => p.trucks.length - k) (by kernel_rfl) ⟨0, Nat.zero_le _, rfl, rfl⟩ (fun k _ => rfl) ?_
 intro k hk
 simp -implicitDefEqProofs only [go_sem, ↓reduceIte, reduceCtorEq, Nat.reduceAdd, Nat.reduceLT, Nat.reduceEqDiff, Nat.reduceMul, Nat.reduceLeDiff, Nat.reduceSub, headH, eInst, ePlan]
 refine ⟨fun h => ?_, fun h => ?_⟩
 ·have hlt : k < p.trucks.length := by omega
  have hst := ok.t1 _ (getD_mem hlt [])
  obtain ⟨hab, hts⟩ := soonTruck_up ok k hk
  have hst1 : (trkN p k).length ≤ 1000 := hst.1
  have hst2 : ∀ j, j < (trkN p k).length → 0 ≤ (stN (trkN p k) j).sat ∧ (stN (trkN p k) j).sat < x.sats.length := fun j hj => hst.2 _ (getD_mem hj _)
  generalize hA : soonTrucks x (p.trucks.take k) = A at hab hts
  obtain ⟨rdy0, ts⟩ := A
  simp only [] at hts
  refine ⟨by omega, ?_⟩
  refine awp_loop2 (ι := Nat) 1 [2, 3, 4, 5, 6, 26, 27, 28, 33, 34] [9, 10, 11, 35] (fun j => j ≤ (trkN p k).length) (fun j => [.c (I6 (upN x ⟨rdy0, ts⟩ (trkN p k) j).now), .c (I6 (upN x ⟨rdy0, ts⟩ (trkN p k) j).node), .c (lH 7 (upN x ⟨rdy0, ts⟩ (trkN p k) j).l), .c (I6 j)]) (fun j => headL x p ts (trkN p k) (upN x ⟨rdy0, ts⟩ (trkN p k) j).ready (upN x ⟨rdy0, ts⟩ (trkN p k) j).l) (fun j => (trkN p k).length - j) (by kernel_rfl) ⟨0, Nat.zero_le _, rfl, rfl⟩ (fun k _ => rfl) ?_
  intro j hj
  have hup : upN x ⟨rdy0, ts⟩ (trkN p k) (j + 1) = if h : j < (trkN p k).length then soonStop x (upN x ⟨rdy0, ts⟩ (trkN p k) j) (stN (trkN p k) j) else upN x ⟨rdy0, ts⟩ (trkN p k) j := by
   unfold upN
   split
   ·rename_i h
    rw [List.take_succ_eq_append_getElem h, List.foldl_append]
    show soonStop x _ _ = soonStop x _ _
    unfold stN
    rw [getD_of h]
   ·rename_i h
    rw [List.take_of_length_le (by omega), List.take_of_length_le (by omega)]
  obtain ⟨hbd, hln⟩ := soonStop_up gd (t := trkN p k) (SnAB.start x ⟨rdy0, ts⟩ hab) rfl ⟨hst.1, hst.2⟩ j hj
  have hbd : SnTB x (upN x ⟨rdy0, ts⟩ (trkN p k) j) := hbd
  have hln : (upN x ⟨rdy0, ts⟩ (trkN p k) j).l.length = j := hln
  generalize hsu : upN x ⟨rdy0, ts⟩ (trkN p k) j = st at hup hbd hln
  obtain ⟨now, node, ready, l⟩ := st
  have hrl : ready.length = x.sats.length := hbd.len
  have hln : l.length = j := hln
  have hend : j = (trkN p k).length → soonTrucks x (p.trucks.take (k + 1)) = ⟨ready, ts ++ [l]⟩ := fun e => by
   subst e
   have h1 : soonTruckE x ⟨rdy0, ts⟩ (trkN p k) = ⟨now, node, ready, l⟩ := by rw [← hsu]; unfold upN soonTruckE; rw [List.take_length]
   have h2 : soonTrucks x (p.trucks.take (k + 1)) = soonTruck x (soonTrucks x (p.trucks.take k)) (trkN p k) := by
    unfold soonTrucks trkN
    rw [List.take_succ_eq_append_getElem hlt, List.foldl_append, getD_of hlt]; rfl
   rw [h2, hA]; unfold soonTruck; rw [h1]
  have hs := fun h => hst2 j h
  have hn := hbd.now; have hnd := hbd.node; have tb := timeAt_bd gd node (1 + (stN (trkN p k) j).sat); have hb := hold_bd gd (stN (trkN p k) j).sat; have tb0 := timeAt_bd gd node 0
  have hjl1 : l.length ≤ 1000 := by omega
  clear hsu
  rcases l with _ | ⟨v, l⟩ <;> rcases ts with _ | ⟨a, ts⟩
  all_goals
   simp -implicitDefEqProofs only [go_sem, ↓reduceIte, reduceCtorEq, Nat.reduceAdd, Nat.reduceLT, Nat.reduceEqDiff, Nat.reduceMul, Nat.reduceLeDiff, Nat.reduceSub, headL, eInst, ePlan, lH, lR, tsH, tsR]
   refine ⟨fun h2 => ?_, fun h2 => ?_⟩
  ·have hjl : j < (trkN p k).length := by omega
   rw [dif_pos hjl] at hup
   have hs := hs hjl
   simp only [List.length_nil] at hn hnd
   refine ⟨by omega, hnd, by omega, by omega, by omega, by omega, ⟨by omega, by omega⟩, by omega, by omega, by omega, ⟨by omega, by omega⟩, by omega, by omega, j + 1, [10], by omega, ⟨rfl, rfl⟩, ?_, ?_, by omega⟩
   ·rw [hup]; rfl
   ·rw [hup]; rfl
  ·have hend := hend (by omega)
   refine ⟨by omega, k + 1, [9], by omega, ⟨rfl, rfl⟩, rfl, ?_, by omega⟩
   rw [hend]; rfl
  ·have hjl : j < (trkN p k).length := by omega
   rw [dif_pos hjl] at hup
   have hs := hs hjl
   simp only [List.length_nil] at hn hnd
   refine ⟨by omega, hnd, by omega, by omega, by omega, by omega, ⟨by omega, by omega⟩, by omega, by omega, by omega, ⟨by omega, by omega⟩, by omega, by omega, j + 1, [10], by omega, ⟨rfl, rfl⟩, ?_, ?_, by omega⟩
   ·rw [hup]; rfl
   ·rw [hup]; rfl
  ·have hend := hend (by omega)
   simp only [List.length_cons] at hts
   refine ⟨⟨by simp, by omega⟩, by omega, k + 1, [5], by omega, ⟨rfl, rfl⟩, rfl, ?_, by omega⟩
   rw [hend]; simp [pickR, rootAt, renRoot, renRow, pos, mkH, eRow]
  ·have hjl : j < (trkN p k).length := by omega
   rw [dif_pos hjl] at hup
   have hs := hs hjl
   simp only [List.length_cons] at hn hnd hln hjl1
   refine ⟨by omega, hnd, by omega, by omega, by omega, by omega, by omega, ⟨by omega, by omega⟩, by omega, by omega, by omega, ⟨by omega, by omega⟩, by omega, by omega, j + 1, [7], by omega, ⟨rfl, rfl⟩, ?_, ?_, by omega⟩
   ·rw [hup]; simp [soonStop, pos, mkH]
   ·rw [hup]; simp [soonStop, pickR, rootAt, renRoot, renRow]
  ·have hend := hend (by omega)
   refine ⟨by omega, k + 1, [9], by omega, ⟨rfl, rfl⟩, rfl, ?_, by omega⟩
   rw [hend]; rfl
  ·have hjl : j < (trkN p k).length := by omega
   rw [dif_pos hjl] at hup
   have hs := hs hjl
   simp only [List.length_cons] at hn hnd hln hjl1
   refine ⟨by omega, hnd, by omega, by omega, by omega, by omega, by omega, ⟨by omega, by omega⟩, by omega, by omega, by omega, ⟨by omega, by omega⟩, by omega, by omega, j + 1, [7], by omega, ⟨rfl, rfl⟩, ?_, ?_, by omega⟩
   ·rw [hup]; simp [soonStop, pos, mkH]
   ·rw [hup]; simp [soonStop, pickR, rootAt, renRoot, renRow]
  ·have hend := hend (by omega)
   simp only [List.length_cons] at hts
   refine ⟨⟨by simp, by omega⟩, by omega, k + 1, [5], by omega, ⟨rfl, rfl⟩, rfl, ?_, by omega⟩
   rw [hend]; simp [pickR, rootAt, renRoot, renRow, pos, mkH, eRow]
 ·obtain rfl : k = p.trucks.length := by omega
  obtain ⟨hab, hts⟩ := soonTruck_up ok _ (Nat.le_refl _)
  have hsd : soonD x p = ⟨(soonTrucks x p.trucks).ts, p.bikes.map (soonBike x (soonTrucks x p.trucks).ready)⟩ := rfl
  rw [List.take_length] at hab hts ⊢
  generalize soonTrucks x p.trucks = A at hab hts hsd
  obtain ⟨ready, ts⟩ := A
  simp only [] at hts hsd
  have hrl : ready.length = x.sats.length := hab.len
  rw [hsd]
  clear hsd
  refine awp_loop2 (ι := Nat) 1 [2, 4, 5, 6, 86, 87] [88] (fun k => k ≤ p.bikes.length) (fun k => [.c (I6 k)]) (fun k => headB x p ts ready ((p.bikes.take k).map (soonBike x ready))) (fun k => p.bikes.length - k) (by kernel_rfl) ⟨0, Nat.zero_le _, rfl, rfl⟩ (fun k _ => rfl) ?_
  intro k hk
  generalize hrs : (p.bikes.take k).map (soonBike x ready) = rs
  simp -implicitDefEqProofs only [go_sem, ↓reduceIte, reduceCtorEq, Nat.reduceAdd, Nat.reduceLT, Nat.reduceEqDiff, Nat.reduceMul, Nat.reduceLeDiff, Nat.reduceSub, headB, eInst, ePlan]
  refine ⟨fun h => ?_, fun h => ?_⟩
  ·have hlt : k < p.bikes.length := by omega
   have hb1 := ok.b1 _ (getD_mem hlt ⟨0, []⟩)
   have hsat : 0 ≤ (bikN p k).sat ∧ (bikN p k).sat < x.sats.length := hb1.2.1
   have hsl : (bikN p k).stops.length ≤ 1000 := hb1.1
   have hco : ∀ j, j < (bikN p k).stops.length → CustOk x ((bikN p k).stops.getD j 0) := fun j hj => hb1.2.2 _ (getD_mem hj _)
   refine ⟨by omega, ⟨⟨by omega, by omega⟩, by omega⟩, by omega, by omega, ?_⟩
   refine awp_loop2 (ι := Nat) 1 [2, 4, 5, 6, 15, 16, 86, 87, 88, 104, 105] [17, 18, 106] (fun j => j ≤ (bikN p k).stops.length) (fun j => [.c (I6 (bkN x ready (bikN p k) j).now), .c (I6 (bkN x ready (bikN p k) j).node), .c (I6 j)]) (fun j => headC x p ts ready rs (bikN p k) (ready.getD (bikN p k).sat.toNat 0) (bkN x ready (bikN p k) j).starts) (fun j => (bikN p k).stops.length - j) (by kernel_rfl) ⟨0, Nat.zero_le _, rfl, rfl⟩ (fun k _ => rfl) ?_
   intro j hj
   have hup : j < (bikN p k).stops.length → bkN x ready (bikN p k) (j + 1) = soonCust x (bkN x ready (bikN p k) j) ((bikN p k).stops.getD j 0) := fun h => by
    unfold bkN
    rw [List.take_succ_eq_append_getElem h, List.foldl_append, getD_of h]; rfl
   have hend : j = (bikN p k).stops.length → (p.bikes.take (k + 1)).map (soonBike x ready) = rs ++ [⟨ready.getD (bikN p k).sat.toNat 0, (bkN x ready (bikN p k) j).starts, (bkN x ready (bikN p k) j).now + timeAt x (bkN x ready (bikN p k) j).node (1 + (bikN p k).sat)⟩] := fun e => by
    subst e
    rw [List.take_succ_eq_append_getElem hlt, List.map_append, hrs]
    unfold bkN
    rw [List.take_length]
    have : bikN p k = p.bikes[k] := getD_of hlt _
    rw [this]; rfl
   obtain ⟨hbd, hln⟩ := soonCust_up gd (t := (bikN p k).stops) (soonB_start hrl hab.rdy hsat) rfl ⟨hb1.1, hb1.2.2⟩ j hj
   have hbd : SnBB x (bkN x ready (bikN p k) j) := hbd
   have hln : (bkN x ready (bikN p k) j).starts.length = j := hln
   generalize bkN x ready (bikN p k) j = st at hup hend hbd hln
   obtain ⟨now, node, l⟩ := st
   have hln : l.length = j := hln
   have hn := hbd.now; have hnd := hbd.node
   have tb := timeAt_bd gd node (1 + x.sats.length + (bikN p k).stops.getD j 0); have tb0 := timeAt_bd gd node (1 + (bikN p k).sat)
   rcases l with _ | ⟨v, l⟩ <;> rcases rs with _ | ⟨a, rs⟩
   all_goals
    simp -implicitDefEqProofs only [go_sem, ↓reduceIte, reduceCtorEq, Nat.reduceAdd, Nat.reduceLT, Nat.reduceEqDiff, Nat.reduceMul, Nat.reduceLeDiff, Nat.reduceSub, headC, headB, eInst, ePlan, lH, lR, tsR_ren, bsH, bsR, tsH_ren (show 5 < 9 by decide)]
    refine ⟨fun h2 => ?_, fun h2 => ?_⟩
   ·have hjl : j < (bikN p k).stops.length := by omega
    have hup := hup hjl
    have hcj := hco j hjl
    have cb := cust_bd gd hcj
    simp only [List.length_nil] at hn hnd
    refine ⟨by omega, hnd, hcj, ?_⟩
    refine callK_e (at_p x hcj gd) ⟨trivial, trivial, trivial⟩ rfl (fun r h => by subst h; rfl) ?_
    rintro r rfl
    simp -implicitDefEqProofs only [go_sem, ↓reduceIte, reduceCtorEq, Nat.reduceAdd, Nat.reduceLT, Nat.reduceEqDiff, Nat.reduceMul, Nat.reduceLeDiff, Nat.reduceSub]
    unfold CustOk at hcj
    refine ⟨by omega, by omega, by omega, by omega, ?_⟩
    refine callK_e (at_p x hcj gd) ⟨trivial, trivial, trivial⟩ rfl (fun r h => by subst h; rfl) ?_
    rintro r rfl
    refine ⟨by omega, j + 1, [11], by omega, ⟨rfl, rfl⟩, ?_, ?_, by omega⟩
    ·rw [hup]; rfl
    ·rw [hup]; simp -implicitDefEqProofs only [go_sem, ↓reduceIte, reduceCtorEq, Nat.reduceAdd, Nat.reduceLT, Nat.reduceEqDiff, Nat.reduceMul, Nat.reduceLeDiff, Nat.reduceSub, soonCust, headC, headB, bsH, bsR, lH, lR, tsR_ren, tsH_ren (show 5 < 9 by decide), eInst, ePlan, List.nil_append, List.cons_append, List.length_append]
   ·have hend := hend (by omega)
    simp only [List.length_nil] at hn hnd
    refine ⟨hnd, by omega, by omega, by omega, by omega, k + 1, [11], by omega, ⟨rfl, rfl⟩, rfl, ?_, by omega⟩
    rw [hend]; simp -implicitDefEqProofs only [go_sem, ↓reduceIte, reduceCtorEq, Nat.reduceAdd, Nat.reduceLT, Nat.reduceEqDiff, Nat.reduceMul, Nat.reduceLeDiff, Nat.reduceSub, headB, bsH, bsR, eRow, tsR_ren, tsH_ren (show 5 < 6 by decide), eInst, ePlan, List.nil_append, List.cons_append, List.length_append, List.map_append]
   ·have hjl : j < (bikN p k).stops.length := by omega
    have hup := hup hjl
    have hcj := hco j hjl
    have cb := cust_bd gd hcj
    simp only [List.length_nil] at hn hnd
    refine ⟨by omega, hnd, hcj, ?_⟩
    refine callK_e (at_p x hcj gd) ⟨trivial, trivial, trivial⟩ rfl (fun r h => by subst h; rfl) ?_
    rintro r rfl
    simp -implicitDefEqProofs only [go_sem, ↓reduceIte, reduceCtorEq, Nat.reduceAdd, Nat.reduceLT, Nat.reduceEqDiff, Nat.reduceMul, Nat.reduceLeDiff, Nat.reduceSub]
    unfold CustOk at hcj
    refine ⟨by omega, by omega, by omega, by omega, ?_⟩
    refine callK_e (at_p x hcj gd) ⟨trivial, trivial, trivial⟩ rfl (fun r h => by subst h; rfl) ?_
    rintro r rfl
    refine ⟨by omega, j + 1, [11], by omega, ⟨rfl, rfl⟩, ?_, ?_, by omega⟩
    ·rw [hup]; rfl
    ·rw [hup]; simp -implicitDefEqProofs only [go_sem, ↓reduceIte, reduceCtorEq, Nat.reduceAdd, Nat.reduceLT, Nat.reduceEqDiff, Nat.reduceMul, Nat.reduceLeDiff, Nat.reduceSub, soonCust, headC, headB, bsH, bsR, lH, lR, tsR_ren, tsH_ren (show 5 < 9 by decide), eInst, ePlan, List.nil_append, List.cons_append, List.length_append]
   ·have hend := hend (by omega)
    simp only [List.length_nil] at hn hnd
    have hlr : rs.length + 1 = k := by have := congrArg List.length hrs; simp at this; omega
    refine ⟨hnd, by omega, by omega, by omega, ⟨by simp, by omega⟩, by omega, k + 1, [6], by omega, ⟨rfl, rfl⟩, rfl, ?_, by omega⟩
    rw [hend]; simp -implicitDefEqProofs only [go_sem, ↓reduceIte, reduceCtorEq, Nat.reduceAdd, Nat.reduceLT, Nat.reduceEqDiff, Nat.reduceMul, Nat.reduceLeDiff, Nat.reduceSub, headB, bsH, bsR, eRow, tsR_ren, tsH_ren (show 5 < 6 by decide), eInst, ePlan, List.nil_append, List.cons_append, List.length_append, List.map_append]
   ·have hjl : j < (bikN p k).stops.length := by omega
    have hup := hup hjl
    have hcj := hco j hjl
    have cb := cust_bd gd hcj
    simp only [List.length_cons] at hn hnd hln
    refine ⟨by omega, hnd, hcj, ?_⟩
    refine callK_e (at_p x hcj gd) ⟨trivial, trivial, trivial⟩ rfl (fun r h => by subst h; rfl) ?_
    rintro r rfl
    simp -implicitDefEqProofs only [go_sem, ↓reduceIte, reduceCtorEq, Nat.reduceAdd, Nat.reduceLT, Nat.reduceEqDiff, Nat.reduceMul, Nat.reduceLeDiff, Nat.reduceSub]
    unfold CustOk at hcj
    refine ⟨by omega, by omega, by omega, by omega, by omega, ?_⟩
    refine callK_e (at_p x hcj gd) ⟨trivial, trivial, trivial⟩ rfl (fun r h => by subst h; rfl) ?_
    rintro r rfl
    refine ⟨by omega, j + 1, [9], by omega, ⟨rfl, rfl⟩, ?_, ?_, by omega⟩
    ·rw [hup]; rfl
    ·rw [hup]; simp -implicitDefEqProofs only [go_sem, ↓reduceIte, reduceCtorEq, Nat.reduceAdd, Nat.reduceLT, Nat.reduceEqDiff, Nat.reduceMul, Nat.reduceLeDiff, Nat.reduceSub, soonCust, headC, headB, bsH, bsR, lH, lR, tsR_ren, tsH_ren (show 5 < 9 by decide), eInst, ePlan, List.nil_append, List.cons_append, List.length_append]
   ·have hend := hend (by omega)
    simp only [List.length_cons] at hn hnd hln
    refine ⟨hnd, by omega, by omega, by omega, by omega, k + 1, [11], by omega, ⟨rfl, rfl⟩, rfl, ?_, by omega⟩
    rw [hend]; simp -implicitDefEqProofs only [go_sem, ↓reduceIte, reduceCtorEq, Nat.reduceAdd, Nat.reduceLT, Nat.reduceEqDiff, Nat.reduceMul, Nat.reduceLeDiff, Nat.reduceSub, headB, bsH, bsR, eRow, tsR_ren, tsH_ren (show 5 < 6 by decide), eInst, ePlan, List.nil_append, List.cons_append, List.length_append, List.map_append]; rfl
   ·have hjl : j < (bikN p k).stops.length := by omega
    have hup := hup hjl
    have hcj := hco j hjl
    have cb := cust_bd gd hcj
    simp only [List.length_cons] at hn hnd hln
    refine ⟨by omega, hnd, hcj, ?_⟩
    refine callK_e (at_p x hcj gd) ⟨trivial, trivial, trivial⟩ rfl (fun r h => by subst h; rfl) ?_
    rintro r rfl
    simp -implicitDefEqProofs only [go_sem, ↓reduceIte, reduceCtorEq, Nat.reduceAdd, Nat.reduceLT, Nat.reduceEqDiff, Nat.reduceMul, Nat.reduceLeDiff, Nat.reduceSub]
    unfold CustOk at hcj
    refine ⟨by omega, by omega, by omega, by omega, by omega, ?_⟩
    refine callK_e (at_p x hcj gd) ⟨trivial, trivial, trivial⟩ rfl (fun r h => by subst h; rfl) ?_
    rintro r rfl
    refine ⟨by omega, j + 1, [9], by omega, ⟨rfl, rfl⟩, ?_, ?_, by omega⟩
    ·rw [hup]; rfl
    ·rw [hup]; simp -implicitDefEqProofs only [go_sem, ↓reduceIte, reduceCtorEq, Nat.reduceAdd, Nat.reduceLT, Nat.reduceEqDiff, Nat.reduceMul, Nat.reduceLeDiff, Nat.reduceSub, soonCust, headC, headB, bsH, bsR, lH, lR, tsR_ren, tsH_ren (show 5 < 9 by decide), eInst, ePlan, List.nil_append, List.cons_append, List.length_append]
   ·have hend := hend (by omega)
    simp only [List.length_cons] at hn hnd hln
    have hlr : rs.length + 1 = k := by have := congrArg List.length hrs; simp at this; omega
    refine ⟨hnd, by omega, by omega, by omega, ⟨by simp, by omega⟩, by omega, k + 1, [6], by omega, ⟨rfl, rfl⟩, rfl, ?_, by omega⟩
    rw [hend]; simp -implicitDefEqProofs only [go_sem, ↓reduceIte, reduceCtorEq, Nat.reduceAdd, Nat.reduceLT, Nat.reduceEqDiff, Nat.reduceMul, Nat.reduceLeDiff, Nat.reduceSub, headB, bsH, bsR, eRow, tsR_ren, tsH_ren (show 5 < 6 by decide), eInst, ePlan, List.nil_append, List.cons_append, List.length_append, List.map_append]; rfl
  ·obtain rfl : k = p.bikes.length := by omega
   rw [List.take_length] at hrs
   rw [hrs]
   rcases ts with _ | ⟨a, ts⟩ <;> rcases rs with _ | ⟨b, rs⟩
   all_goals simp -implicitDefEqProofs only [go_sem, ↓reduceIte, reduceCtorEq, Nat.reduceAdd, Nat.reduceLT, Nat.reduceEqDiff, Nat.reduceMul, Nat.reduceLeDiff, Nat.reduceSub, tsH, tsR, bsH, bsR]
   ·exact ⟨_, ⟨_, rfl, _, _, rfl, .inr (.inr ⟨1, _, rfl⟩), _, _, rfl, .inr (.inr ⟨3, _, rfl⟩), rfl⟩, rfl⟩
   ·exact ⟨by simp, _, ⟨_, rfl, _, _, rfl, .inr (.inr ⟨1, _, rfl⟩), _, _, rfl, .inr (eqv_bs (b :: rs)), rfl⟩, rfl⟩
   ·exact ⟨by simp, _, ⟨_, rfl, _, _, rfl, .inr (eqv_ts (a :: ts)), _, _, rfl, .inr (.inr ⟨3, _, rfl⟩), rfl⟩, rfl⟩
   ·exact ⟨⟨by simp, by simp⟩, _, ⟨_, rfl, _, _, rfl, .inr (eqv_ts (a :: ts)), _, _, rfl, .inr (eqv_bs (b :: rs)), rfl⟩, rfl⟩
end Go.Proofs.Ytahffcepagopmaa.Ab
namespace Go.Proofs.Ytahffcepagopmaa.Ab
open Go.RowKit
def tSum (l : List (List StopD)) : Nat := (l.map List.length).sum
theorem tSum_eq (l : List (List StopD)) : tstopsUp l l.length = tSum l := by unfold tstopsUp tSum; rw [List.take_length]
theorem tSum_set (a : List StopD) : ∀ (l : List (List StopD)) (t : Nat), tSum (l.set t a) ≤ tSum l + a.length
 | [], t => by simp [tSum]
 | b :: l, 0 => by simp [tSum]; omega
 | b :: l, t + 1 => by have := tSum_set a l t; simp only [tSum, List.set_cons_succ, List.map_cons, List.sum_cons] at this ⊢; omega
theorem tSum_get : ∀ (l : List (List StopD)) (t : Nat), (l.getD t []).length ≤ tSum l
 | [], t => by simp [tSum]
 | b :: l, 0 => by simp [tSum]
 | b :: l, t + 1 => by have := tSum_get l t; simp only [tSum, List.getD_cons_succ, List.map_cons, List.sum_cons] at this ⊢; omega
theorem spoil_trucks {p : PlanD} (h : PlanFew p) (hs : tSum p.trucks ≤ 20000) (what at_ : Nat) (hat : at_ ≤ 255) {by_ : Int} (hby : -128 ≤ by_ ∧ by_ ≤ 127) : tSum (spoiltD p what at_ by_).trucks ≤ 100000 ∧ ∀ t ∈ (spoiltD p what at_ by_).trucks, ∀ s ∈ t, StopWf s := by
 have base : ∀ t ∈ p.trucks, ∀ s ∈ t, StopWf s := (few_wf h).trucks
 have small : ∀ T, ∀ s ∈ p.trucks.getD T [], (-1000000000 ≤ s.sat ∧ s.sat ≤ 1000000000) ∧ -1000000000 ≤ s.load ∧ s.load ≤ 1000000000 := fun T s hm => by
  rw [List.getD_eq_getElem?_getD] at hm
  by_cases hT : T < p.trucks.length
  ·rw [List.getElem?_eq_getElem hT] at hm; exact (h.ts _ (List.getElem_mem hT)).2 s hm
  ·rw [List.getElem?_eq_none (by omega)] at hm; cases hm
 have hset : ∀ (T : Nat) (a : List StopD), a.length ≤ 20001 → (∀ s ∈ a, StopWf s) → tSum (p.trucks.set T a) ≤ 100000 ∧ ∀ t ∈ p.trucks.set T a, ∀ s ∈ t, StopWf s := fun T a h1 h2 => by
  refine ⟨by have := tSum_set a p.trucks T; omega, fun t ht => ?_⟩
  rcases List.mem_or_eq_of_mem_set ht with h' | rfl
  ·exact base t h'
  ·exact h2
 unfold spoiltD
 split
 ·exact ⟨by omega, base⟩
 ·show tSum (spoilT p _ _ _ (at_ : Int) by_) ≤ 100000 ∧ ∀ t ∈ spoilT p _ _ _ (at_ : Int) by_, ∀ s ∈ t, StopWf s
  generalize at_ % p.trucks.length = T
  generalize (at_ / 3) % _ = K
  have hg := small T
  have hgl := tSum_get p.trucks T
  unfold spoilT
  generalize p.trucks.getD T [] = tl at *
  have hw : ∀ s ∈ tl, StopWf s := fun s hm => by have := hg s hm; unfold StopWf wf64; omega
  have hK : (-1000000000 ≤ (tl.getD K ⟨0, 0⟩).sat ∧ (tl.getD K ⟨0, 0⟩).sat ≤ 1000000000) ∧ -1000000000 ≤ (tl.getD K ⟨0, 0⟩).load ∧ (tl.getD K ⟨0, 0⟩).load ≤ 1000000000 := by
   rw [List.getD_eq_getElem?_getD]
   by_cases hK : K < tl.length
   ·rw [List.getElem?_eq_getElem hK]; exact hg _ (List.getElem_mem hK)
   ·rw [List.getElem?_eq_none (by omega)]; simp
  generalize tl.getD K ⟨0, 0⟩ = st at *
  have happ : ∀ u, StopWf u → ∀ s ∈ tl ++ [u], StopWf s := fun u hu s hm => by
   rcases List.mem_append.1 hm with hm | hm
   ·exact hw s hm
   ·obtain rfl := List.mem_singleton.1 hm; exact hu
  have hst : ∀ u, StopWf u → ∀ s ∈ tl.set K u, StopWf s := fun u hu s hm => by
   rcases List.mem_or_eq_of_mem_set hm with hm | rfl
   ·exact hw s hm
   ·exact hu
  split
  ·exact hset _ _ (by rw [List.length_set]; omega) (hst _ (by unfold StopWf wf64; simp only; omega))
  ·exact hset _ _ (by rw [List.length_set]; omega) (hst _ (by unfold StopWf wf64; simp only; omega))
  ·exact hset _ _ (by rw [List.length_append, List.length_singleton]; omega) (happ _ (by unfold StopWf wf64; simp only; omega))
  ·refine ⟨by simp [tSum] at hs ⊢; omega, fun t ht => ?_⟩
   rcases List.mem_append.1 ht with ht | ht
   ·exact base t ht
   ·obtain rfl := List.mem_singleton.1 ht; intro s hs; cases hs
  ·exact hset _ _ (by rw [List.length_append, List.length_singleton]; omega) (happ _ (by unfold StopWf wf64; simp only; omega))
  ·exact ⟨by omega, base⟩
structure POk (p : PlanD) : Prop where
 wf : PlanWf p
 small : PlanSmall p
theorem draft_tsum {x : InstD} (w : WishD) (hns : 1 ≤ x.sats.length ∧ x.sats.length ≤ 3) (hnc : 1 ≤ x.custs.length ∧ x.custs.length ≤ 6) (hcl : ∀ c ∈ x.custs, 1 ≤ c.load ∧ c.load ≤ 1000) : tSum (draftD x w).trucks ≤ 18000 := by
 have hol : (draftOrd x w).length = x.custs.length := orderUp_len _ _
 have hk := draftUp_ok (x := x) w (os := draftOrd x w) (fun c hc => by have := hcl c hc; omega) (by omega) (orderUp_lt _ _) (draftOrd x w).length (Nat.le_refl _)
 have hlv : ∀ s, (draftLB x w).1.getD s 0 ≤ 6000 := fun s => by
  rw [List.getD_eq_getElem?_getD]
  by_cases hs : s < (draftLB x w).1.length
  ·rw [List.getElem?_eq_getElem hs]
   have := hk.loB _ (List.getElem_mem hs)
   exact Int.le_trans this.2 (by rw [hol]; omega)
  ·rw [List.getElem?_eq_none (by omega)]; simp
 have hd := tst_dUp (x := x) (w := w) hlv (draftLB x w).1.length
 have hll : (draftLB x w).1.length ≤ 3 := by unfold draftLB; rw [hk.loL]; omega
 have h3 : 6000 * (draftLB x w).1.length ≤ 6000 * 3 := Nat.mul_le_mul_left _ hll
 show ((dUp x w (draftLB x w).1 (draftLB x w).1.length).1.map List.length).sum ≤ _
 omega
theorem draft_ok {y : InstD} (h : YOk y) (wi : WishD) : POk (draftD y wi) :=
 ⟨few_wf (draft_small wi h.ns h.nc h.ld h.troom), draft_stops wi h.ns h.nc h.ld h.troom⟩
theorem spoil_ok {y : InstD} (h : YOk y) (wi : WishD) (what at_ : Nat) (hat : at_ ≤ 255) {by_ : Int} (hby : -128 ≤ by_ ∧ by_ ≤ 127) : POk (spoiltD (draftD y wi) what at_ by_) := by
 have hf := draft_small wi h.ns h.nc h.ld h.troom
 have h1 := spoil_bikes hf what at_ hby
 have h2 := spoil_trucks hf (by have := draft_tsum wi h.ns h.nc h.ld; omega) what at_ hat hby
 refine ⟨⟨h2.2, fun b hb => ⟨(h1.2 b hb).1, (h1.2 b hb).2.2⟩⟩, ?_, ?_⟩
 ·have h3 := stopsUp_bd (m := 200) (fun b hb => (h1.2 b hb).2.1) (spoiltD (draftD y wi) what at_ by_).bikes.length (Nat.le_refl _)
  have h4 := Nat.mul_le_mul_left 200 h1.1
  omega
 ·rw [tSum_eq]; omega
theorem spoilt_p {y : InstD} (h : YOk y) (wi : WishD) {what at_ : Nat} (hwh : what ≤ 255) (hat : at_ ≤ 255) {by_ : Int} (hby : -128 ≤ by_ ∧ by_ ≤ 127) :
  PCall Try.prog 14 [.agg (ePlan (draftD y wi)), .c (.int .u8 what), .c (.int .u8 at_), .c (.int .i8 by_)] (fun r => r = .agg (ePlan (spoiltD (draftD y wi) what at_ by_))) :=
 pcall_mk ⟨_, _, Try.func14, by kernel_rfl, rfl⟩ fun rho w vs hc => by
  obtain ⟨_, _, rfl, ⟨cs, rfl, h1⟩, _, _, rfl, rfl, _, _, rfl, rfl, _, _, rfl, rfl, rfl⟩ := hc
  have hf := draft_small wi h.ns h.nc h.ld h.troom
  refine (spoilt_c (plan_b h1 (draft_ok h wi).wf) hwh hat hby hf.tl (by have := hf.bl; omega) hf.ts (fun b hb => by have := hf.bs b hb; exact ⟨this.1, by omega, this.2.2⟩)).mono ?_
  rintro e w' ⟨tv, bv, ts, vs, rfl, hT, hB, hb⟩
  exact ⟨_, _, rfl, rfl, plan_res hT hB (spoil_ok h wi what at_ hat hby).wf, hb⟩
theorem code_p {y : InstD} {p : PlanD} (h : YOk y) (hp : POk p) : PCall Try.prog 9 [.agg (eInst y), .agg (ePlan p)] (fun r => r = .c (I6 (planCheck y p))) :=
 pcall_mk ⟨_, _, Try.func9, by kernel_rfl, rfl⟩ fun rho w vs hc => by
  obtain ⟨_, _, rfl, ⟨cs, rfl, h1⟩, _, _, rfl, ⟨ds, rfl, h2⟩, rfl⟩ := hc
  refine (code_c (inst_b h1 h.k) (plan_b h2 hp.wf) h.chk h.nc.2 hp.small).mono ?_
  rintro e w' ⟨rfl, hb⟩
  exact ⟨_, _, rfl, rfl, rfl, hb⟩
theorem soon_ok {y : InstD} {p : PlanD} (h : YOk y) (hc : planCheck y p = 0) : SoonOk y p := by
 have hb := planBd_of hc h.nc.2
 have gd := good_of h.chk
 have hl := hb.b
 refine ⟨gd, by have := hb.tl; omega, fun t ht => ⟨by have := hb.t1 t ht; omega, fun s hs => ((hb.ok.truck t ht).2 s hs).1⟩, by omega, fun b hbm => ?_⟩
 have h1 := hb.ok.bike b hbm
 have h2 := len_mem_stops hbm
 have h3 := hb.s
 exact ⟨by omega, h1.1, h1.2.2⟩
theorem tms_wf {t : TimesD} (h : (∀ l ∈ t.trucks, ∀ v ∈ l, 0 ≤ v ∧ v ≤ 10000000000000) ∧ ∀ r ∈ t.bikes, (0 ≤ r.out ∧ r.out ≤ 10000000000000) ∧ (0 ≤ r.back ∧ r.back ≤ 10000000000000) ∧ ∀ v ∈ r.starts, 0 ≤ v ∧ v ≤ 10000000000000) : TmsWf t :=
 ⟨fun l hl v hv => by have := h.1 l hl v hv; unfold wf64; omega, fun r hr => by
  have := h.2 r hr
  exact ⟨by unfold wf64; omega, by unfold wf64; omega, fun v hv => by have := this.2.2 v hv; unfold wf64; omega⟩⟩
theorem soon_p {y : InstD} {p : PlanD} (h : YOk y) (_hp : POk p) (hc : planCheck y p = 0) : PCall Try.prog 11 [.agg (eInst y), .agg (ePlan p)] (fun r => r = .agg (eTimes (soonD y p))) := soon_m (soon_ok h hc)
end Go.Proofs.Ytahffcepagopmaa.Ab
namespace Go.Proofs.Ytahffcepagopmaa.Ab
open Go.RowKit
set_option maxRecDepth 100000
set_option linter.unusedSimpArgs false
set_option maxHeartbeats 2000000
theorem eq64_p {xs ys : List Int} (hx : ∀ v ∈ xs, wf64 v) (hy : ∀ v ∈ ys, wf64 v) : PCall Try.prog 27 [.c (eInts xs), .c (eInts ys)] (fun r => r = .c (.bool (decide (xs = ys)))) :=
 pcall_mk ⟨_, _, Try.func27, by kernel_rfl, rfl⟩ fun rho w vs hcv => by
  obtain ⟨_, _, rfl, h1, _, _, rfl, h2, rfl⟩ := hcv
  refine (eqI64s_c (bs (e := fun (x : Int) _ => I6 x) 0 int_b h1 hx) (bs (e := fun (x : Int) _ => I6 x) 0 int_b h2 hy)).mono ?_
  rintro e w' ⟨rfl, n, rfl⟩
  exact ⟨_, _, rfl, rfl, rfl, below_drewN (Below.refl _ _) n⟩
theorem tms_wfN {t : TimesD} (h : TmsWf t) (k : Nat) : ∀ v ∈ tmsN t k, wf64 v := by
 unfold tmsN
 rw [List.getD_eq_getElem?_getD]
 by_cases hk : k < t.trucks.length
 ·rw [List.getElem?_eq_getElem hk]; exact h.trucks _ (List.getElem_mem hk)
 ·rw [List.getElem?_eq_none (by omega)]; intro v hv; cases hv
theorem rid_wfN {t : TimesD} (h : TmsWf t) (k : Nat) : RideWf (ridN t k) := by
 unfold ridN
 rw [List.getD_eq_getElem?_getD]
 by_cases hk : k < t.bikes.length
 ·rw [List.getElem?_eq_getElem hk]; exact h.bikes _ (List.getElem_mem hk)
 ·rw [List.getElem?_eq_none (by omega)]; exact ⟨by unfold wf64; simp, by unfold wf64; simp, fun v hv => by cases hv⟩
theorem times_ext {a b : TimesD} (h1 : a.trucks.length = b.trucks.length) (h2 : a.bikes.length = b.bikes.length) (h3 : ∀ i, i < a.trucks.length → tmsN a i = tmsN b i) (h4 : ∀ i, i < a.bikes.length → ridN a i = ridN b i) : a = b := by
 obtain ⟨at_, ab⟩ := a
 obtain ⟨bt, bb⟩ := b
 simp only [TimesD.mk.injEq]
 constructor
 ·refine List.ext_getElem h1 fun i k1 k2 => ?_
  have := h3 i k1
  unfold tmsN at this
  rw [getD_get k1, getD_get k2] at this
  exact this
 ·refine List.ext_getElem h2 fun i k1 k2 => ?_
  have := h4 i k1
  unfold ridN at this
  rw [getD_get k1, getD_get k2] at this
  exact this
theorem ride_ext {r q : RideD} (h1 : r.out = q.out) (h2 : r.starts = q.starts) (h3 : r.back = q.back) : r = q := by
 cases r; cases q; cases h1; cases h2; cases h3; rfl
theorem same_p {a b : TimesD} (ha : TmsWf a) (hb : TmsWf b) (hla : a.trucks.length ≤ 1000000 ∧ a.bikes.length ≤ 1000000) : PCall Try.prog 19 [.agg (eTimes a), .agg (eTimes b)] (fun r => r = .c (.bool (decide (a = b)))) := by
 refine pcall_of ty_ok (by kernel_rfl) (fun _ => ([], 0)) Try.func19 rfl (by kernel_rfl) Try.ntmps19 (congrArg Array.toList Try.results19) (by kernel_rfl) (by simp) ?_
 simp -implicitDefEqProofs only [go_sem, ↓reduceIte, reduceCtorEq, Nat.reduceAdd, Nat.reduceLT, Nat.reduceEqDiff, Nat.reduceMul, Nat.reduceLeDiff, Nat.reduceSub, eTimes]
 refine ⟨fun h => ?_, fun h => ?_⟩
 ·simp only [Bool.or_eq_true, decide_eq_true_eq] at h
  rw [decide_eq_false]
  rintro rfl
  simp at h
 ·simp only [Bool.or_eq_false_iff, decide_eq_false_iff_not, Decidable.not_not] at h
  obtain ⟨hl1, hl2⟩ : a.trucks.length = b.trucks.length ∧ a.bikes.length = b.bikes.length := by omega
  refine awp_loop (ι := Nat) [2, 3, 25] [26] (fun k => k ≤ a.trucks.length ∧ ∀ i, i < k → tmsN a i = tmsN b i) (fun k => [.c (I6 k)]) (fun _ => _) (fun k => a.trucks.length - k) (by kernel_rfl) ⟨0, ⟨Nat.zero_le _, fun i hi => absurd hi (Nat.not_lt_zero _)⟩, rfl, rfl⟩ (fun k _ => ⟨rfl, rfl, rfl, rfl⟩) ?_
  rintro k ⟨hk, hi⟩
  simp -implicitDefEqProofs only [go_sem, ↓reduceIte, reduceCtorEq, Nat.reduceAdd, Nat.reduceLT, Nat.reduceEqDiff, Nat.reduceMul, Nat.reduceLeDiff, Nat.reduceSub]
  refine ⟨fun h => ?_, fun h => ?_⟩
  ·have hlt : k < a.trucks.length := by omega
   refine ⟨by omega, by omega, ?_⟩
   refine callK_e (eq64_p (tms_wfN ha k) (tms_wfN hb k)) ⟨trivial, trivial, trivial⟩ rfl (fun r h => by subst h; rfl) ?_
   rintro r rfl
   simp -implicitDefEqProofs only [go_sem, ↓reduceIte, reduceCtorEq, Nat.reduceAdd, Nat.reduceLT, Nat.reduceEqDiff, Nat.reduceMul, Nat.reduceLeDiff, Nat.reduceSub]
   refine ⟨fun hne => ?_, fun he => ?_⟩
   ·rw [decide_eq_false]
    rintro rfl
    exact hne rfl
   ·simp only [Bool.not_eq_false', decide_eq_true_eq] at he
    refine ⟨by omega, k + 1, ⟨by omega, fun i h => ?_⟩, rfl, by omega⟩
    by_cases e : i = k
    ·subst e; exact he
    ·exact hi i (by omega)
  ·obtain rfl : k = a.trucks.length := by omega
   refine awp_loop (ι := Nat) [2, 3, 44] [45] (fun k => k ≤ a.bikes.length ∧ ∀ i, i < k → ridN a i = ridN b i) (fun k => [.c (I6 k)]) (fun _ => _) (fun k => a.bikes.length - k) (by kernel_rfl) ⟨0, ⟨Nat.zero_le _, fun i hi => absurd hi (Nat.not_lt_zero _)⟩, rfl, rfl⟩ (fun k _ => ⟨rfl, rfl, rfl, rfl⟩) ?_
   rintro k ⟨hk, hj⟩
   simp -implicitDefEqProofs only [go_sem, ↓reduceIte, reduceCtorEq, Nat.reduceAdd, Nat.reduceLT, Nat.reduceEqDiff, Nat.reduceMul, Nat.reduceLeDiff, Nat.reduceSub]
   refine ⟨fun h => ?_, fun h => ?_⟩
   ·have hlt : k < a.bikes.length := by omega
    have hwa := rid_wfN ha k
    have hwb := rid_wfN hb k
    refine ⟨by omega, by omega, fun _ => by omega, fun _ => by omega, fun _ => by omega, fun _ => by omega, fun h1 => ?_, fun h1 => ?_⟩
    ·refine callK_e (eq64_p hwa.2.2 hwb.2.2) ⟨trivial, trivial, trivial⟩ rfl (fun r h => by subst h; rfl) ?_
     rintro r rfl
     simp -implicitDefEqProofs only [go_sem, ↓reduceIte, reduceCtorEq, Nat.reduceAdd, Nat.reduceLT, Nat.reduceEqDiff, Nat.reduceMul, Nat.reduceLeDiff, Nat.reduceSub]
     refine ⟨fun hne => ?_, fun he => ?_⟩
     ·rw [decide_eq_false]
      rintro rfl
      simp at hne
     ·simp only [Bool.or_eq_false_iff, decide_eq_false_iff_not, Bool.not_eq_false', decide_eq_true_eq, Decidable.not_not] at he
      refine ⟨by omega, k + 1, ⟨by omega, fun i h => ?_⟩, rfl, by omega⟩
      by_cases e : i = k
      ·subst e; exact ride_ext he.1.1 he.2 he.1.2
      ·exact hj i (by omega)
    ·have h2 : (decide ¬(ridN a k).out = (ridN b k).out || decide ¬(ridN a k).back = (ridN b k).back) = true := by
      simpa only [Bool.not_eq_false'] using h1
     refine ⟨fun h3 => (by rw [h2] at h3; cases h3), h2, ?_⟩
     rw [decide_eq_false]
     rintro rfl
     simp at h2
   ·obtain rfl : k = a.bikes.length := by omega
    rw [decide_eq_true (times_ext hl1 hl2 hi hj)]
end Go.Proofs.Ytahffcepagopmaa.Ab
namespace Go.Proofs.Ytahffcepagopmaa.Ab
open Go.RowKit
set_option maxRecDepth 100000
set_option linter.unusedSimpArgs false
set_option maxHeartbeats 2000000
theorem callK_p {P : Program} {pu : Bool} {f : FuncId} {H : List Root} {args args' : List RV} {post : RV → Prop} {K : RV → List Root → Prop} (hp : PCall P f args' post) (ho : okRL H args) (he : frzRL H args = args') (hH : frzHRL H args = H) (hK : ∀ r, post r → K r H) : callK P pu f args H K :=
 callK_f hp ho (by rw [he]; exact eqvRL_refl _) (by rw [hH]; exact hK)
theorem soon_fits (x : InstD) (p : PlanD) : fitsD p (soonD x p) = true := by
 unfold fitsD fitsT fitsB
 simp only [Bool.and_eq_true, decide_eq_true_eq, List.all_eq_true, List.mem_range]
 refine ⟨⟨soon_tl x p, soon_bl x p⟩, fun k hk => ?_, fun k hk => ?_⟩
 ·have h := soon_tl x p
  rw [getD_get (by omega), getD_get hk, soon_tk x p hk (by omega)]
 ·have h := soon_bl x p
  show ((soonD x p).bikes.getD k ⟨0, [], 0⟩).starts.length = _
  rw [getD_get (by omega), getD_get hk, soon_bk x p hk (by omega)]
theorem getD_wf {l : List Int} (h : ∀ v ∈ l, wf64 v) (j : Nat) : wf64 (l.getD j 0) := by
 rw [List.getD_eq_getElem?_getD]
 by_cases hj : j < l.length
 ·rw [List.getElem?_eq_getElem hj]; exact h _ (List.getElem_mem hj)
 ·rw [List.getElem?_eq_none (by omega)]; unfold wf64; simp
theorem times_wf {t : TimesD} (h : TmsWf t) : TimesWf t :=
 ⟨fun k j => getD_wf (tms_wfN h k) j, fun k => ⟨(rid_wfN h k).1, (rid_wfN h k).2.1, fun j => getD_wf (rid_wfN h k).2.2 j⟩⟩
theorem law_of {P : Program} {f : FuncId} {args : List RV} {w : World} {vs : List Value} (h : PCall P f args (fun r => r = .c (.bool true))) (hc : Con0RL (fun b => b < w.heap.size) w args vs) : Calls P f vs.toArray w fun e w' => e = .returned (.bool true) ∧ Below w.heap.size w w' := by
 refine (h.2 _ w vs (fun _ h => h) hc).mono ?_
 rintro e w' ⟨r, v, rho', rfl, rfl, h1, -, h2⟩
 obtain rfl : v = .bool true := h1
 exact ⟨rfl, h2⟩
end Go.Proofs.Ytahffcepagopmaa.Ab
namespace Go.Proofs.Ytahffcepagopmaa.Ab
open Go.RowKit
theorem cs_fold (x : InstD) (a b : Int) : costN x a.toNat b.toNat = costAt x a b := rfl
theorem cs_foldL (x : InstD) (a : Int) : costN x a.toNat 0 = costAt x a 0 := rfl
theorem cs_foldR (x : InstD) (b : Int) : costN x 0 b.toNat = costAt x 0 b := rfl
theorem nd_len {α : Type} (z : Int) (m : List α) (f : α → Int) : (z :: m.map f).length = m.length + 1 := by simp
theorem nd_get {α : Type} (z : Int) (m : List α) (f : α → Int) (d : α) {j : Nat} (h : j < m.length) : (z :: m.map f).getD (j + 1) 0 = f (m.getD j d) := by
 rw [getD_of (by rw [nd_len]; omega), getD_of h]; simp
theorem nd_step {x : InstD} {α : Type} (z : Int) (m : List α) (f : α → Int) (d : α) {j : Nat} (h : j < m.length) : wayUp x (z :: m.map f) (j + 1) = wayUp x (z :: m.map f) j + costAt x ((z :: m.map f).getD j 0) (f (m.getD j d)) := by
 rw [wayUp_succ, nd_len, Nat.mod_eq_of_lt (by omega), nd_get z m f d h]
theorem nd_end {x : InstD} {α : Type} (z : Int) (m : List α) (f : α → Int) : wayD x (z :: m.map f) = wayUp x (z :: m.map f) m.length + costAt x ((z :: m.map f).getD m.length 0) z := by
 unfold wayD
 rw [nd_len, wayUp_succ, nd_len, Nat.mod_self]; rfl
set_option maxRecDepth 100000
set_option linter.unusedSimpArgs false
set_option maxHeartbeats 2000000
theorem cost17_p {x : InstD} {p : PlanD} (ok : SoonOk x p) (hsm : PlanSmall p) : PCall Try.prog 12 [.agg (eInst x), .agg (ePlan p)] (fun r => r = .c (I6 (costD x p))) := by
 have gd := ok.good
 have hs1 := gd.sats; have hc1 := gd.custs; have htl := ok.tl; have hbl := ok.bl
 have hndx : nodes x = 1 + x.sats.length + x.custs.length := rfl
 unfold PlanSmall at hsm
 refine pcall_of ty_ok (by kernel_rfl) (fun _ => ([], 0)) Try.func12 rfl (by kernel_rfl) Try.ntmps12 (congrArg Array.toList Try.results12) (by kernel_rfl) (by simp) ?_
 simp -implicitDefEqProofs only [go_sem, ↓reduceIte, reduceCtorEq, Nat.reduceAdd, Nat.reduceLT, Nat.reduceEqDiff, Nat.reduceMul, Nat.reduceLeDiff, Nat.reduceSub, eInst, ePlan]
 refine awp_loop (ι := Nat) [2, 3, 17, 18] [5, 19] (fun k => k ≤ p.trucks.length) (fun k => [.c (I6 (costT x p.trucks k)), .c (I6 k)]) (fun _ => _) (fun k => p.trucks.length - k) (by kernel_rfl) ⟨0, Nat.zero_le _, rfl, rfl⟩ (fun k _ => ⟨rfl, rfl, rfl, rfl⟩) ?_
 intro k hk
 have hcb := costT_bd gd p.trucks k hk
 have htu := tstopsUp_le (l := p.trucks) (k := k)
 simp -implicitDefEqProofs only [go_sem, ↓reduceIte, reduceCtorEq, Nat.reduceAdd, Nat.reduceLT, Nat.reduceEqDiff, Nat.reduceMul, Nat.reduceLeDiff, Nat.reduceSub]
 refine ⟨fun h => ?_, fun h => ?_⟩
 ·have hlt : k < p.trucks.length := by omega
  have hst := ok.t1 _ (getD_mem hlt [])
  have hst1 : (trkN p k).length ≤ 1000 := hst.1
  have hst2 : ∀ j, j < (trkN p k).length → 0 ≤ (stN (trkN p k) j).sat ∧ (stN (trkN p k) j).sat < x.sats.length := fun j hj => hst.2 _ (getD_mem hj _)
  have hsucc : costT x p.trucks (k + 1) = costT x p.trucks k + wayD x (truckNodes (trkN p k)) := by rw [costT_succ hlt]; unfold trkN; rw [getD_of hlt]
  refine ⟨by omega, ?_⟩
  refine awp_loop (ι := Nat) [2, 3, 17, 18, 19, 24, 25] [5, 8, 26] (fun j => j ≤ (trkN p k).length) (fun j => [.c (I6 (costT x p.trucks k + wayUp x (truckNodes (trkN p k)) j)), .c (I6 ((truckNodes (trkN p k)).getD j 0)), .c (I6 j)]) (fun _ => _) (fun j => (trkN p k).length - j) (by kernel_rfl) ⟨0, Nat.zero_le _, by simp [wayUp, gets, lk, tvals, truckNodes], rfl⟩ (fun k _ => ⟨rfl, rfl, rfl, rfl⟩) ?_
  intro j hj
  have hwb := wayUp_bd gd (truckNodes (trkN p k)) j
  have hnd : 0 ≤ (truckNodes (trkN p k)).getD j 0 ∧ (truckNodes (trkN p k)).getD j 0 < (nodes x : Int) := by
   cases j with
   | zero => show (0 : Int) ≤ 0 ∧ (0 : Int) < _; omega
   | succ i =>
    have := hst2 i hj
    have e : (truckNodes (trkN p k)).getD (i + 1) 0 = 1 + (stN (trkN p k) i).sat := nd_get 0 (trkN p k) (fun s => 1 + s.sat) ⟨0, 0⟩ hj
    rw [e]; omega
  have hse : j < (trkN p k).length → wayUp x (truckNodes (trkN p k)) (j + 1) = wayUp x (truckNodes (trkN p k)) j + costAt x ((truckNodes (trkN p k)).getD j 0) (1 + (stN (trkN p k) j).sat) ∧ (truckNodes (trkN p k)).getD (j + 1) 0 = 1 + (stN (trkN p k) j).sat := fun h => ⟨nd_step 0 (trkN p k) (fun s => 1 + s.sat) ⟨0, 0⟩ h, nd_get 0 (trkN p k) (fun s => 1 + s.sat) ⟨0, 0⟩ h⟩
  have hen : j = (trkN p k).length → wayD x (truckNodes (trkN p k)) = wayUp x (truckNodes (trkN p k)) j + costAt x ((truckNodes (trkN p k)).getD j 0) 0 := fun e => by subst e; exact nd_end 0 (trkN p k) (fun s => 1 + s.sat)
  have hca := costAt_bd gd ((truckNodes (trkN p k)).getD j 0) (1 + (stN (trkN p k) j).sat)
  have hca0 := costAt_bd gd ((truckNodes (trkN p k)).getD j 0) 0
  generalize (truckNodes (trkN p k)).getD j 0 = node at hnd hse hen hca hca0
  generalize wayUp x (truckNodes (trkN p k)) j = way at hwb hse hen
  simp -implicitDefEqProofs only [go_sem, ↓reduceIte, reduceCtorEq, Nat.reduceAdd, Nat.reduceLT, Nat.reduceEqDiff, Nat.reduceMul, Nat.reduceLeDiff, Nat.reduceSub, cs_fold, cs_foldL, cs_foldR]
  refine ⟨fun h2 => ?_, fun h2 => ?_⟩
  ·have hjl : j < (trkN p k).length := by omega
   have h3 := hst2 j hjl
   obtain ⟨h4, h5⟩ := hse hjl
   refine ⟨by omega, hnd, by omega, by omega, by omega, by omega, by omega, j + 1, by omega, ?_, by omega⟩
   rw [h4, h5, Int.add_assoc]; rfl
  ·obtain rfl : j = (trkN p k).length := by omega
   refine ⟨hnd, by omega, by omega, by omega, k + 1, by omega, ?_, by omega⟩
   rw [hsucc, hen rfl, Int.add_assoc]; rfl
 ·obtain rfl : k = p.trucks.length := by omega
  have hcd : costD x p = costT x p.trucks p.trucks.length + costB x p.bikes p.bikes.length := rfl
  generalize costT x p.trucks p.trucks.length = ct at hcb hcd
  rw [hcd]
  refine awp_loop (ι := Nat) [2, 57, 58] [5, 59] (fun k => k ≤ p.bikes.length) (fun k => [.c (I6 (ct + costB x p.bikes k)), .c (I6 k)]) (fun _ => _) (fun k => p.bikes.length - k) (by kernel_rfl) ⟨0, Nat.zero_le _, by simp [costB, gets, lk, tvals], rfl⟩ (fun k _ => ⟨rfl, rfl, rfl, rfl⟩) ?_
  intro k hk
  have hcb2 := costB_bd gd p.bikes k hk
  have htu2 := stopsUp_le (l := p.bikes) (k := k)
  simp -implicitDefEqProofs only [go_sem, ↓reduceIte, reduceCtorEq, Nat.reduceAdd, Nat.reduceLT, Nat.reduceEqDiff, Nat.reduceMul, Nat.reduceLeDiff, Nat.reduceSub]
  refine ⟨fun h => ?_, fun h => ?_⟩
  ·have hlt : k < p.bikes.length := by omega
   have hb1 := ok.b1 _ (getD_mem hlt ⟨0, []⟩)
   have hsat : 0 ≤ (bikN p k).sat ∧ (bikN p k).sat < x.sats.length := hb1.2.1
   have hsl : (bikN p k).stops.length ≤ 1000 := hb1.1
   have hco : ∀ j, j < (bikN p k).stops.length → CustOk x ((bikN p k).stops.getD j 0) := fun j hj => hb1.2.2 _ (getD_mem hj _)
   have hsucc : costB x p.bikes (k + 1) = costB x p.bikes k + wayD x (bikeNodes x (bikN p k)) := by rw [costB_succ hlt]; unfold bikN; rw [getD_of hlt]
   refine ⟨by omega, by omega, ?_⟩
   refine awp_loop (ι := Nat) [2, 12, 57, 58, 59, 67, 68] [5, 13, 69] (fun j => j ≤ (bikN p k).stops.length) (fun j => [.c (I6 (ct + costB x p.bikes k + wayUp x (bikeNodes x (bikN p k)) j)), .c (I6 ((bikeNodes x (bikN p k)).getD j 0)), .c (I6 j)]) (fun _ => _) (fun j => (bikN p k).stops.length - j) (by kernel_rfl) ⟨0, Nat.zero_le _, by simp [wayUp, gets, lk, tvals, bikeNodes], rfl⟩ (fun k _ => ⟨rfl, rfl, rfl, rfl⟩) ?_
   intro j hj
   have hwb := wayUp_bd gd (bikeNodes x (bikN p k)) j
   have hng : j < (bikN p k).stops.length → (bikeNodes x (bikN p k)).getD (j + 1) 0 = 1 + x.sats.length + (bikN p k).stops.getD j 0 := fun h => nd_get (1 + (bikN p k).sat) (bikN p k).stops (fun c => 1 + x.sats.length + c) 0 h
   have hnd : 0 ≤ (bikeNodes x (bikN p k)).getD j 0 ∧ (bikeNodes x (bikN p k)).getD j 0 < (nodes x : Int) := by
    cases j with
    | zero => show 0 ≤ 1 + (bikN p k).sat ∧ 1 + (bikN p k).sat < (nodes x : Int); omega
    | succ i =>
     have h3 := hco i hj
     unfold CustOk at h3
     have e : (bikeNodes x (bikN p k)).getD (i + 1) 0 = 1 + x.sats.length + (bikN p k).stops.getD i 0 := nd_get (1 + (bikN p k).sat) (bikN p k).stops (fun c => 1 + x.sats.length + c) 0 hj
     rw [e]; omega
   have hse : j < (bikN p k).stops.length → wayUp x (bikeNodes x (bikN p k)) (j + 1) = wayUp x (bikeNodes x (bikN p k)) j + costAt x ((bikeNodes x (bikN p k)).getD j 0) (1 + x.sats.length + (bikN p k).stops.getD j 0) := fun h => nd_step (1 + (bikN p k).sat) (bikN p k).stops (fun c => 1 + x.sats.length + c) 0 h
   have hen : j = (bikN p k).stops.length → wayD x (bikeNodes x (bikN p k)) = wayUp x (bikeNodes x (bikN p k)) j + costAt x ((bikeNodes x (bikN p k)).getD j 0) (1 + (bikN p k).sat) := fun e => by subst e; exact nd_end (1 + (bikN p k).sat) (bikN p k).stops (fun c => 1 + x.sats.length + c)
   have hca := costAt_bd gd ((bikeNodes x (bikN p k)).getD j 0) (1 + x.sats.length + (bikN p k).stops.getD j 0)
   have hca0 := costAt_bd gd ((bikeNodes x (bikN p k)).getD j 0) (1 + (bikN p k).sat)
   generalize (bikeNodes x (bikN p k)).getD j 0 = node at hnd hse hen hca hca0
   generalize wayUp x (bikeNodes x (bikN p k)) j = way at hwb hse hen
   simp -implicitDefEqProofs only [go_sem, ↓reduceIte, reduceCtorEq, Nat.reduceAdd, Nat.reduceLT, Nat.reduceEqDiff, Nat.reduceMul, Nat.reduceLeDiff, Nat.reduceSub, cs_fold, cs_foldL, cs_foldR]
   refine ⟨fun h2 => ?_, fun h2 => ?_⟩
   ·have hjl : j < (bikN p k).stops.length := by omega
    have h3 := hco j hjl
    have h4 := hse hjl
    have h5 := hng hjl
    refine ⟨by omega, hnd, ?_⟩
    refine callK_e (at_p x h3 gd) ⟨trivial, trivial, trivial⟩ rfl (fun r h => by subst h; rfl) ?_
    rintro r rfl
    simp -implicitDefEqProofs only [go_sem, ↓reduceIte, reduceCtorEq, Nat.reduceAdd, Nat.reduceLT, Nat.reduceEqDiff, Nat.reduceMul, Nat.reduceLeDiff, Nat.reduceSub, cs_fold, cs_foldL, cs_foldR]
    unfold CustOk at h3
    refine ⟨by omega, by omega, ?_⟩
    refine callK_e (at_p x (hco j hjl) gd) ⟨trivial, trivial, trivial⟩ rfl (fun r h => by subst h; rfl) ?_
    rintro r rfl
    simp -implicitDefEqProofs only [go_sem, ↓reduceIte, reduceCtorEq, Nat.reduceAdd, Nat.reduceLT, Nat.reduceEqDiff, Nat.reduceMul, Nat.reduceLeDiff, Nat.reduceSub]
    refine ⟨by omega, j + 1, by omega, ?_, by omega⟩
    rw [h4, h5, Int.add_assoc]; rfl
   ·obtain rfl : j = (bikN p k).stops.length := by omega
    refine ⟨hnd, by omega, by omega, by omega, by omega, k + 1, by omega, ?_, by omega⟩
    rw [hsucc, hen rfl, ← Int.add_assoc, ← Int.add_assoc]; rfl
  ·obtain rfl : k = p.bikes.length := by omega
   rfl
end Go.Proofs.Ytahffcepagopmaa.Ab
namespace Go.Proofs.Ytahffcepagopmaa.Ab
open Go.RowKit
def eSheet (s : SheetD) : List AV := ePlan s.plan ++ (eTimes s.times ++ [I6 s.cost])
theorem sheet_f {w : World} {F : Nat → Prop} {s : SheetD} {cs : List Value} (h : sheetS.rep w F s cs) : Con0L F w (eSheet s) cs := by
 obtain ⟨a, b, c, d, rfl, -, h1, h2⟩ := h
 obtain ⟨_, _, e1, k1, _, _, e2, k2, -⟩ := plan_f h1
 obtain ⟨_, _, e3, k3, _, _, e4, k4, -⟩ := times_f h2
 cases e1; cases e2; cases e3; cases e4
 exact ⟨_, _, rfl, k1, _, _, rfl, k2, _, _, rfl, k3, _, _, rfl, k4, _, _, rfl, rfl, rfl⟩
theorem sheet_b {w : World} {F : Nat → Prop} {s : SheetD} {cs : List Value} (h : Con0L F w (eSheet s) cs) (hp : PlanWf s.plan) (ht : TmsWf s.times) (hc : wf64 s.cost) : sheetS.rep w F s cs := by
 obtain ⟨a, _, rfl, k1, b, _, rfl, k2, c, _, rfl, k3, d, _, rfl, k4, _, _, rfl, rfl, rfl⟩ := h
 exact ⟨a, b, c, d, rfl, hc, plan_b ⟨_, _, rfl, k1, _, _, rfl, k2, rfl⟩ hp, times_b ⟨_, _, rfl, k3, _, _, rfl, k4, rfl⟩ ht⟩
theorem awake19_p : PCall Try.prog 6 [] (fun r => r = .c (.bool true)) :=
 pcall_mk ⟨_, _, Try.func6, by kernel_rfl, rfl⟩ fun rho w vs hcv => by
  obtain rfl := hcv
  refine (awake19_c w).mono ?_
  rintro e w' ⟨rfl, hb⟩
  exact ⟨_, _, rfl, rfl, rfl, hb⟩
theorem same17_p {p q : PlanD} (hp : PlanWf p) (hq : PlanWf q) : PCall Try.prog 18 [.agg (ePlan p), .agg (ePlan q)] (fun r => r = .c (.bool (decide (p = q)))) :=
 pcall_mk ⟨_, _, Try.func18, by kernel_rfl, rfl⟩ fun rho w vs hcv => by
  obtain ⟨_, _, rfl, ⟨cs, rfl, h1⟩, _, _, rfl, ⟨ds, rfl, h2⟩, rfl⟩ := hcv
  refine (same17_c (plan_b h1 hp) (plan_b h2 hq)).mono ?_
  rintro e w' ⟨rfl, hb⟩
  exact ⟨_, _, rfl, rfl, rfl, hb⟩
theorem cost_wf {y : InstD} {p : PlanD} (h : YOk y) (hp : POk p) : wf64 (costOf y p) := by
 unfold costOf
 split
 ·rename_i hc
  have ok := soon_ok h hc
  have h1 := costT_bd ok.good p.trucks p.trucks.length (Nat.le_refl _)
  have h2 := costB_bd ok.good p.bikes p.bikes.length (Nat.le_refl _)
  have h3 := hp.small; have h4 := ok.tl; have h5 := ok.bl
  unfold PlanSmall at h3
  unfold costD wf64
  omega
 ·unfold wf64; omega
theorem make_wf {y : InstD} {p : PlanD} (h : YOk y) (hp : POk p) : PlanWf (makeF y p).plan ∧ TmsWf (makeF y p).times ∧ wf64 (makeF y p).cost := by
 unfold makeF
 split
 ·rename_i hc
  have hpc : planCheck y p = 0 := by
   unfold clockCheck at hc
   by_cases e : planCheck y p = 0
   ·exact e
   ·rw [if_pos e] at hc; exact hc
  exact ⟨hp.wf, tms_wf (soon_wf (soon_ok h hpc)), cost_wf h hp⟩
 ·exact ⟨⟨fun t ht => (by cases ht), fun b hb => (by cases hb)⟩, ⟨fun l hl => (by cases hl), fun r hr => (by cases hr)⟩, by unfold wf64; simp⟩
theorem feasMake_p {y : InstD} {p : PlanD} (h : YOk y) (hp : POk p) : PCall Try.prog 16 [.agg (eInst y), .agg (ePlan p)] (fun r => r = .tup [.agg (eSheet (makeF y p)), .c (I6 (clockCheck y p (soonD y p)))]) :=
 pcall_mk ⟨_, _, Try.func16, by kernel_rfl, rfl⟩ fun rho w vs hcv => by
  obtain ⟨_, _, rfl, ⟨cs, rfl, h1⟩, _, _, rfl, ⟨ds, rfl, h2⟩, rfl⟩ := hcv
  refine (feasMake_c (inst_b h1 h.k) (plan_b h2 hp.wf) (fun _ => h.nc.2) hp.small (cost_wf h hp) ⟨fun t ht s hs => hp.wf.trucks t ht s hs, fun b hb => hp.wf.bikes b hb⟩).mono ?_
  rintro e w' ⟨ys, rfl, hr, hb⟩
  exact ⟨_, _, rfl, rfl, ⟨_, rfl, ⟨_, _, rfl, ⟨_, rfl, sheet_f (sheetS.lt hr)⟩, _, _, rfl, rfl, rfl⟩⟩, hb⟩
theorem feasCheck_p {y : InstD} {s : SheetD} (h : YOk y) (hp : POk s.plan) (ht : TmsWf s.times) (hc : wf64 s.cost) : PCall Try.prog 13 [.agg (eInst y), .agg (eSheet s)] (fun r => r = .c (I6 (feasD y s))) :=
 pcall_mk ⟨_, _, Try.func13, by kernel_rfl, rfl⟩ fun rho w vs hcv => by
  obtain ⟨_, _, rfl, ⟨cs, rfl, h1⟩, _, _, rfl, ⟨ds, rfl, h2⟩, rfl⟩ := hcv
  refine (feasCheck_c (inst_b h1 h.k) (sheet_b h2 hp.wf ht hc) (fun _ => h.nc.2) hp.small).mono ?_
  rintro e w' ⟨rfl, hb⟩
  exact ⟨_, _, rfl, rfl, rfl, hb⟩
end Go.Proofs.Ytahffcepagopmaa.Ab
namespace Go.Proofs.Ytahffcepagopmaa.Ab
open Go.RowKit
set_option maxRecDepth 100000
set_option linter.unusedSimpArgs false
set_option maxHeartbeats 2000000
theorem feasMakes_p {s : SmallD} {wi : WishD} {what at_ : Nat} {by_ : Int} (hs : SmallK s) (hw : WishK wi) (hwh : what ≤ 255) (hat : at_ ≤ 255) (hby : -128 ≤ by_ ∧ by_ ≤ 127) :
  PCall Try.prog 5 [.agg (eSmall s), .agg (eWish wi), .c (.int .u8 what), .c (.int .u8 at_), .c (.int .i8 by_)] (fun r => r = .c (.bool true)) := by
 refine pcall_of ty_ok (by kernel_rfl) (fun _ => ([], 0)) Try.func5 rfl (by kernel_rfl) Try.ntmps5 (congrArg Array.toList Try.results5) (by kernel_rfl) (by simp) ?_
 simp -implicitDefEqProofs only [go_sem, ↓reduceIte, reduceCtorEq, Nat.reduceAdd, Nat.reduceLT, Nat.reduceEqDiff, Nat.reduceMul, Nat.reduceLeDiff, Nat.reduceSub, eSmall, eWish]
 refine callK_e awake19_p trivial rfl (fun r h => by subst h; rfl) ?_
 rintro r rfl
 simp -implicitDefEqProofs only [go_sem, ↓reduceIte, reduceCtorEq, Nat.reduceAdd, Nat.reduceLT, Nat.reduceEqDiff, Nat.reduceMul, Nat.reduceLeDiff, Nat.reduceSub]
 intro _
 refine callK_p (make_p hs) (by simp -implicitDefEqProofs only [go_sem, ↓reduceIte, reduceCtorEq, Nat.reduceAdd, Nat.reduceLT, Nat.reduceEqDiff, Nat.reduceMul, Nat.reduceLeDiff, Nat.reduceSub]) rfl rfl ?_
 rintro r rfl
 have hy := make_y hs
 generalize makeD s = y at hy
 simp -implicitDefEqProofs only [go_sem, ↓reduceIte, reduceCtorEq, Nat.reduceAdd, Nat.reduceLT, Nat.reduceEqDiff, Nat.reduceMul, Nat.reduceLeDiff, Nat.reduceSub, eInst]
 refine callK_p (draft_p hy hw) (by simp -implicitDefEqProofs only [go_sem, ↓reduceIte, reduceCtorEq, Nat.reduceAdd, Nat.reduceLT, Nat.reduceEqDiff, Nat.reduceMul, Nat.reduceLeDiff, Nat.reduceSub]) rfl rfl ?_
 rintro r rfl
 refine callK_p (spoilt_p hy wi hwh hat hby) (by simp -implicitDefEqProofs only [go_sem, ↓reduceIte, reduceCtorEq, Nat.reduceAdd, Nat.reduceLT, Nat.reduceEqDiff, Nat.reduceMul, Nat.reduceLeDiff, Nat.reduceSub, ePlan]) rfl rfl ?_
 rintro r rfl
 have hp := spoil_ok hy wi what at_ hat hby
 generalize spoiltD (draftD y wi) what at_ by_ = p at hp
 simp -implicitDefEqProofs only [go_sem, ↓reduceIte, reduceCtorEq, Nat.reduceAdd, Nat.reduceLT, Nat.reduceEqDiff, Nat.reduceMul, Nat.reduceLeDiff, Nat.reduceSub, ePlan]
 refine callK_p (feasMake_p hy hp) (by simp -implicitDefEqProofs only [go_sem, ↓reduceIte, reduceCtorEq, Nat.reduceAdd, Nat.reduceLT, Nat.reduceEqDiff, Nat.reduceMul, Nat.reduceLeDiff, Nat.reduceSub]) rfl rfl ?_
 rintro r rfl
 have hck : clockCheck y p (soonD y p) = if planCheck y p = 0 then (if canL y p (soonD y p) = false then 12 else 0) else planCheck y p := by
  by_cases hc : planCheck y p = 0
  ·rw [if_pos hc, canL_eq (soonD y p) (planOk_of hc)]
   unfold clockCheck
   rw [if_neg (by simpa using hc), soon_fits, if_neg (by simp)]
  ·unfold clockCheck
   rw [if_pos hc, if_neg hc]
 have hmf : makeF y p = if clockCheck y p (soonD y p) = 0 then ⟨p, soonD y p, costOf y p⟩ else ⟨⟨[], []⟩, ⟨[], []⟩, 0⟩ := rfl
 by_cases hc : planCheck y p = 0
 ·have hsk := soon_ok hy hc
  have hwf := tms_wf (soon_wf hsk)
  rw [if_pos hc] at hck
  have hco : costOf y p = costD y p := by unfold costOf; rw [if_pos hc]
  have hcw := cost_wf hy hp
  have hcode := code_p hy hp
  rw [hc] at hcode
  by_cases hcn : canL y p (soonD y p) = false
  ·rw [if_pos hcn] at hck
   rw [hck, if_neg (by decide)] at hmf
   rw [hmf, hck]
   simp -implicitDefEqProofs only [go_sem, ↓reduceIte, reduceCtorEq, Nat.reduceAdd, Nat.reduceLT, Nat.reduceEqDiff, Nat.reduceMul, Nat.reduceLeDiff, Nat.reduceSub, eSheet, ePlan, eTimes]
   refine callK_e hcode (by simp -implicitDefEqProofs only [go_sem, ↓reduceIte, reduceCtorEq, Nat.reduceAdd, Nat.reduceLT, Nat.reduceEqDiff, Nat.reduceMul, Nat.reduceLeDiff, Nat.reduceSub]) rfl (fun r h => by subst h; rfl) ?_
   rintro r rfl
   simp -implicitDefEqProofs only [go_sem, ↓reduceIte, reduceCtorEq, Nat.reduceAdd, Nat.reduceLT, Nat.reduceEqDiff, Nat.reduceMul, Nat.reduceLeDiff, Nat.reduceSub, eq_self]
   refine callK_p (soon_p hy hp hc) (by simp -implicitDefEqProofs only [go_sem, ↓reduceIte, reduceCtorEq, Nat.reduceAdd, Nat.reduceLT, Nat.reduceEqDiff, Nat.reduceMul, Nat.reduceLeDiff, Nat.reduceSub]) rfl rfl ?_
   rintro r rfl
   simp -implicitDefEqProofs only [go_sem, ↓reduceIte, reduceCtorEq, Nat.reduceAdd, Nat.reduceLT, Nat.reduceEqDiff, Nat.reduceMul, Nat.reduceLeDiff, Nat.reduceSub, eTimes]
   refine callK_e (can_p hsk (soon_fits y p) (times_wf hwf)) (by simp -implicitDefEqProofs only [go_sem, ↓reduceIte, reduceCtorEq, Nat.reduceAdd, Nat.reduceLT, Nat.reduceEqDiff, Nat.reduceMul, Nat.reduceLeDiff, Nat.reduceSub]) rfl (fun r h => by subst h; rfl) ?_
   rintro r rfl
   rw [hcn]
   simp -implicitDefEqProofs only [go_sem, ↓reduceIte, reduceCtorEq, Nat.reduceAdd, Nat.reduceLT, Nat.reduceEqDiff, Nat.reduceMul, Nat.reduceLeDiff, Nat.reduceSub, eq_self, Bool.not_false, show ((12 : Int) = 0) = False by simp]
   exact ⟨by decide, by decide, by decide, rfl⟩
  ·have hcn : canL y p (soonD y p) = true := by simpa using hcn
   have hlen : (soonD y p).trucks.length ≤ 1000000 ∧ (soonD y p).bikes.length ≤ 1000000 := by have h1 := hsk.tl; have h2 := hsk.bl; rw [soon_tl, soon_bl]; omega
   rw [if_neg (by rw [hcn]; simp)] at hck
   rw [hck, if_pos rfl, hco] at hmf
   rw [hmf, hck]
   simp -implicitDefEqProofs only [go_sem, ↓reduceIte, reduceCtorEq, Nat.reduceAdd, Nat.reduceLT, Nat.reduceEqDiff, Nat.reduceMul, Nat.reduceLeDiff, Nat.reduceSub, eSheet, ePlan, eTimes]
   refine callK_e hcode (by simp -implicitDefEqProofs only [go_sem, ↓reduceIte, reduceCtorEq, Nat.reduceAdd, Nat.reduceLT, Nat.reduceEqDiff, Nat.reduceMul, Nat.reduceLeDiff, Nat.reduceSub]) rfl (fun r h => by subst h; rfl) ?_
   rintro r rfl
   simp -implicitDefEqProofs only [go_sem, ↓reduceIte, reduceCtorEq, Nat.reduceAdd, Nat.reduceLT, Nat.reduceEqDiff, Nat.reduceMul, Nat.reduceLeDiff, Nat.reduceSub, eq_self]
   refine callK_p (soon_p hy hp hc) (by simp -implicitDefEqProofs only [go_sem, ↓reduceIte, reduceCtorEq, Nat.reduceAdd, Nat.reduceLT, Nat.reduceEqDiff, Nat.reduceMul, Nat.reduceLeDiff, Nat.reduceSub]) rfl rfl ?_
   rintro r rfl
   simp -implicitDefEqProofs only [go_sem, ↓reduceIte, reduceCtorEq, Nat.reduceAdd, Nat.reduceLT, Nat.reduceEqDiff, Nat.reduceMul, Nat.reduceLeDiff, Nat.reduceSub, eTimes]
   refine callK_e (can_p hsk (soon_fits y p) (times_wf hwf)) (by simp -implicitDefEqProofs only [go_sem, ↓reduceIte, reduceCtorEq, Nat.reduceAdd, Nat.reduceLT, Nat.reduceEqDiff, Nat.reduceMul, Nat.reduceLeDiff, Nat.reduceSub]) rfl (fun r h => by subst h; rfl) ?_
   rintro r rfl
   rw [hcn]
   simp -implicitDefEqProofs only [go_sem, ↓reduceIte, reduceCtorEq, Nat.reduceAdd, Nat.reduceLT, Nat.reduceEqDiff, Nat.reduceMul, Nat.reduceLeDiff, Nat.reduceSub, eq_self, Bool.not_true, not_true_eq_false]
   refine callK_e (same17_p hp.wf hp.wf) (by simp -implicitDefEqProofs only [go_sem, ↓reduceIte, reduceCtorEq, Nat.reduceAdd, Nat.reduceLT, Nat.reduceEqDiff, Nat.reduceMul, Nat.reduceLeDiff, Nat.reduceSub]) rfl (fun r h => by subst h; rfl) ?_
   rintro r rfl
   simp -implicitDefEqProofs only [go_sem, ↓reduceIte, reduceCtorEq, Nat.reduceAdd, Nat.reduceLT, Nat.reduceEqDiff, Nat.reduceMul, Nat.reduceLeDiff, Nat.reduceSub, eq_self]
   refine callK_p (soon_p hy hp hc) (by simp -implicitDefEqProofs only [go_sem, ↓reduceIte, reduceCtorEq, Nat.reduceAdd, Nat.reduceLT, Nat.reduceEqDiff, Nat.reduceMul, Nat.reduceLeDiff, Nat.reduceSub]) rfl rfl ?_
   rintro r rfl
   simp -implicitDefEqProofs only [go_sem, ↓reduceIte, reduceCtorEq, Nat.reduceAdd, Nat.reduceLT, Nat.reduceEqDiff, Nat.reduceMul, Nat.reduceLeDiff, Nat.reduceSub, eTimes]
   refine callK_e (same_p hwf hwf hlen) (by simp -implicitDefEqProofs only [go_sem, ↓reduceIte, reduceCtorEq, Nat.reduceAdd, Nat.reduceLT, Nat.reduceEqDiff, Nat.reduceMul, Nat.reduceLeDiff, Nat.reduceSub]) rfl (fun r h => by subst h; rfl) ?_
   rintro r rfl
   simp -implicitDefEqProofs only [go_sem, ↓reduceIte, reduceCtorEq, Nat.reduceAdd, Nat.reduceLT, Nat.reduceEqDiff, Nat.reduceMul, Nat.reduceLeDiff, Nat.reduceSub, eq_self]
   refine callK_e (cost17_p hsk hp.small) (by simp -implicitDefEqProofs only [go_sem, ↓reduceIte, reduceCtorEq, Nat.reduceAdd, Nat.reduceLT, Nat.reduceEqDiff, Nat.reduceMul, Nat.reduceLeDiff, Nat.reduceSub]) rfl (fun r h => by subst h; rfl) ?_
   rintro r rfl
   simp -implicitDefEqProofs only [go_sem, ↓reduceIte, reduceCtorEq, Nat.reduceAdd, Nat.reduceLT, Nat.reduceEqDiff, Nat.reduceMul, Nat.reduceLeDiff, Nat.reduceSub, eq_self]
   refine callK_e (feasCheck_p (s := ⟨p, soonD y p, costD y p⟩) hy hp hwf (by rw [hco] at hcw; exact hcw)) (by simp -implicitDefEqProofs only [go_sem, ↓reduceIte, reduceCtorEq, Nat.reduceAdd, Nat.reduceLT, Nat.reduceEqDiff, Nat.reduceMul, Nat.reduceLeDiff, Nat.reduceSub]) rfl (fun r h => by subst h; rfl) ?_
   rintro r rfl
   have hfd : feasD y ⟨p, soonD y p, costD y p⟩ = 0 := by
    unfold feasD
    rw [if_neg (by simpa using hck), if_neg (by simpa using hco)]
   rw [hfd]
   simp -implicitDefEqProofs only [go_sem, ↓reduceIte, reduceCtorEq, Nat.reduceAdd, Nat.reduceLT, Nat.reduceEqDiff, Nat.reduceMul, Nat.reduceLeDiff, Nat.reduceSub, eq_self]
 ·rw [if_neg hc] at hck
  rw [hck, if_neg hc] at hmf
  rw [hmf, hck]
  simp -implicitDefEqProofs only [go_sem, ↓reduceIte, reduceCtorEq, Nat.reduceAdd, Nat.reduceLT, Nat.reduceEqDiff, Nat.reduceMul, Nat.reduceLeDiff, Nat.reduceSub, eSheet, ePlan, eTimes]
  refine callK_e (code_p hy hp) (by simp -implicitDefEqProofs only [go_sem, ↓reduceIte, reduceCtorEq, Nat.reduceAdd, Nat.reduceLT, Nat.reduceEqDiff, Nat.reduceMul, Nat.reduceLeDiff, Nat.reduceSub]) rfl (fun r h => by subst h; rfl) ?_
  rintro r rfl
  generalize planCheck y p = c at hc
  simp -implicitDefEqProofs only [go_sem, ↓reduceIte, reduceCtorEq, Nat.reduceAdd, Nat.reduceLT, Nat.reduceEqDiff, Nat.reduceMul, Nat.reduceLeDiff, Nat.reduceSub, eq_false hc, eq_self]
  exact ⟨by decide, by decide, by decide, rfl⟩
theorem feasMakes_c {w : World} {F G : Nat → Prop} {s : SmallD} {wi : WishD} {cs1 cs2 : List Value} {what at_ : Nat} {by_ : Int} (h1 : smallS.rep w F s cs1) (h2 : wishS.rep w G wi cs2) (hwh : what ≤ 255) (hat : at_ ≤ 255) (hby : -128 ≤ by_ ∧ by_ ≤ 127) :
  Calls Try.prog 5 #[.agg cs1.toArray, .agg cs2.toArray, .int .u8 (what : Int), .int .u8 (at_ : Int), .int .i8 by_] w fun e w' => e = .returned (.bool true) ∧ Below w.heap.size w w' :=
 law_of (vs := [.agg cs1.toArray, .agg cs2.toArray, .int .u8 (what : Int), .int .u8 (at_ : Int), .int .i8 by_]) (feasMakes_p (small_k h1) (wish_k h2) hwh hat hby) ⟨_, _, rfl, ⟨_, rfl, small_f (smallS.old h1)⟩, _, _, rfl, ⟨_, rfl, wish_f (wishS.old h2)⟩, _, _, rfl, rfl, _, _, rfl, rfl, _, _, rfl, rfl, rfl⟩
end Go.Proofs.Ytahffcepagopmaa.Ab
