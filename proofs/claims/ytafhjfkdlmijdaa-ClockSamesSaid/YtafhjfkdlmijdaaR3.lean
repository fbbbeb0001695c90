/- Texts of the proof, joined: SoonM, Pc2, Same18, CSame, LawK, MoreK, MovedF, Up, Moved, MvLaw. -/
import Derived.Laws.IdiomCopy
import Derived.Test.YtafhjfkdlmijdaaCan
set_option linter.all false
namespace Go.Proofs.Ytafhjfkdlmijdaa.Ab
open Go.RowKit
set_option maxRecDepth 100000
set_option linter.unusedSimpArgs false
set_option maxHeartbeats 2000000
def tsH (id : Nat) : List (List Int) → AV
 | [] => .nils
 | l => .h id 0 l.length
theorem tsH_ren {n : Nat} {ids : List Nat} (h : 5 < n) (l : List (List Int)) : renA n ids (tsH 5 l) = tsH 5 l := by
 cases l with
 | nil => rfl
 | cons a l => simp [tsH, renA, renI, h, mkH]
def eRow : List Int → AV
 | [] => .nils
 | l => eInts l
def tsR : List (List Int) → Root
 | [] => .dead
 | l => .live false 34 1 (.gen (l.map fun r => [eRow r]))
def headH (x : InstD) (p : PlanD) (ts : List (List Int)) (ready : List Int) : List Root :=
 [.live false 33 9 (.box (eInst x)), .live false 46 2 (.box (ePlan p)), .live false 54 2 (.box [.nils, .nils]), .live false 54 2 (.box [tsH 5 ts, .nils]), .live false 2 1 (.ints .i64 ready), tsR ts]
def lH (id : Nat) : List Int → AV
 | [] => .nils
 | l => .h id 0 l.length
def lR : List Int → Root
 | [] => .dead
 | l => .live false 2 1 (.ints .i64 l)
theorem tsR_ren {n : Nat} {ids : List Nat} (l : List (List Int)) : renRoot n ids (tsR l) = tsR l := by
 cases l <;> rfl
def headL (x : InstD) (p : PlanD) (ts : List (List Int)) (t : List StopD) (ready l : List Int) : List Root :=
 [.live false 33 9 (.box (eInst x)), .live false 46 2 (.box (ePlan p)), .live false 54 2 (.box [.nils, .nils]), .live false 54 2 (.box [tsH 5 ts, .nils]), .live false 2 1 (.ints .i64 ready), tsR ts, .live false 108 1 (.box [eStops t]), lR l]
def bsH (id : Nat) : List RideD → AV
 | [] => .nils
 | l => .h id 0 l.length
def bsR : List RideD → Root
 | [] => .dead
 | l => .live false 85 3 (.gen (l.map fun r => [I6 r.out, eRow r.starts, I6 r.back]))
def headB (x : InstD) (p : PlanD) (ts : List (List Int)) (ready : List Int) (rs : List RideD) : List Root :=
 [.live false 33 9 (.box (eInst x)), .live false 46 2 (.box (ePlan p)), .live false 54 2 (.box [.nils, .nils]), .live false 54 2 (.box [tsH 5 ts, bsH 6 rs]), .live false 2 1 (.ints .i64 ready), tsR ts, bsR rs]
def headC (x : InstD) (p : PlanD) (ts : List (List Int)) (ready : List Int) (rs : List RideD) (b : BikeD) (out : Int) (l : List Int) : List Root :=
 headB x p ts ready rs ++ [.live false 128 2 (.box [I6 b.sat, eInts b.stops]), .live false 85 3 (.box [I6 out, lH 9 l, I6 0]), lR l]
def upN (x : InstD) (A : SnA) (t : List StopD) (j : Nat) : SnT := (t.take j).foldl (soonStop x) ⟨0, 0, A.ready, []⟩
theorem eqv_row (l : List Int) : Eqv (eRow l) (eInts l) := by
 cases l with
 | nil => exact .inr ⟨1, _, rfl⟩
 | cons v l => exact ⟨_, rfl, fun i _ j _ => rfl⟩
theorem eqv_ts (l : List (List Int)) : Eqv (.sl l.length 1 fun i j => nth ((l.map fun r => [eRow r]).getD i []) j) (.sl l.length 1 fun i _ => eInts (l.getD i [])) :=
 ⟨_, rfl, fun i hi j hj => by
  obtain rfl : j = 0 := by omega
  dsimp only
  rw [getD_of (by simpa using hi), getD_of hi, List.getElem_map]
  exact eqv_row _⟩
theorem eqv_bs (l : List RideD) : Eqv (.sl l.length 3 fun i j => nth ((l.map fun r => [I6 r.out, eRow r.starts, I6 r.back]).getD i []) j) (.sl l.length 3 fun i => ix3 (I6 (l.getD i ⟨0, [], 0⟩).out) (eInts (l.getD i ⟨0, [], 0⟩).starts) (I6 (l.getD i ⟨0, [], 0⟩).back)) :=
 ⟨_, rfl, fun i hi j hj => by
  dsimp only
  rw [getD_of (by simpa using hi), getD_of hi, List.getElem_map]
  match j, hj with
  | 0, _ => exact rfl
  | 1, _ => exact eqv_row _
  | 2, _ => exact rfl⟩
def bkN (x : InstD) (ready : List Int) (b : BikeD) (j : Nat) : SnB := (b.stops.take j).foldl (soonCust x) ⟨ready.getD b.sat.toNat 0, 1 + b.sat, []⟩
theorem soon_m {x : InstD} {p : PlanD} (ok : SoonOk x p) : PCall Try.prog 38 [.agg (eInst x), .agg (ePlan p)] (fun r => r = .agg (eTimes (soonD x p))) := by
 have gd := ok.good
 have hs1 := gd.sats; have hc1 := gd.custs; have hf1 := gd.fin; have htl := ok.tl; have hbl := ok.bl
 have hndx : nodes x = 1 + x.sats.length + x.custs.length := rfl
 refine pcall_of ty_ok (by kernel_rfl) (fun n => match n with | 13 => ([], 1, none) | 25 => ([0,1,2,3,4,5,6,7,12,13,14,15,16,17,8,9,10,11,18,19], 0, none) | 29 => ([], 1, none) | _ => ([], 0, none)) Try.func38 rfl (by kernel_rfl) Try.ntmps38 (congrArg Array.toList Try.results38) (by kernel_rfl) (by simp) ?_
 simp -implicitDefEqProofs only [go_sem, ↓reduceIte, reduceCtorEq, Nat.reduceAdd, Nat.reduceLT, Nat.reduceEqDiff, Nat.reduceMul, Nat.reduceLeDiff, Nat.reduceSub, eInst, ePlan]
 refine ⟨by omega, ?_⟩
 refine awp_loop2 (ι := Nat) 1 [2, 3, 4, 5, 6, 26, 27] [28] (fun k => k ≤ p.trucks.length) (fun k => [.c (I6 k)]) (fun k => headH x p (soonTrucks x (p.trucks.take k)).ts (soonTrucks x (p.trucks.take k)).ready) (fun k => p.trucks.length - k) (by kernel_rfl) ⟨0, Nat.zero_le _, rfl, rfl⟩ (fun k _ => rfl) ?_
 intro k hk
 simp -implicitDefEqProofs only [go_sem, ↓reduceIte, reduceCtorEq, Nat.reduceAdd, Nat.reduceLT, Nat.reduceEqDiff, Nat.reduceMul, Nat.reduceLeDiff, Nat.reduceSub, headH, eInst, ePlan]
 refine ⟨fun h => ?_, fun h => ?_⟩
 ·have hlt : k < p.trucks.length := by omega
  have hst := ok.t1 _ (getD_mem hlt [])
  obtain ⟨hab, hts⟩ := soonTruck_up ok k hk
  have hst1 : (trkN p k).length ≤ 100000 := hst.1
  have hst2 : ∀ j, j < (trkN p k).length → 0 ≤ (stN (trkN p k) j).sat ∧ (stN (trkN p k) j).sat < x.sats.length := fun j hj => hst.2 _ (getD_mem hj _)
  generalize hA : soonTrucks x (p.trucks.take k) = A at hab hts
  obtain ⟨rdy0, ts⟩ := A
  simp only [] at hts
  refine ⟨by omega, ?_⟩
  refine awp_loop2 (ι := Nat) 1 [2, 3, 4, 5, 6, 26, 27, 28, 33, 34] [9, 10, 11, 35] (fun j => j ≤ (trkN p k).length) (fun j => [.c (I6 (upN x ⟨rdy0, ts⟩ (trkN p k) j).now), .c (I6 (upN x ⟨rdy0, ts⟩ (trkN p k) j).node), .c (lH 7 (upN x ⟨rdy0, ts⟩ (trkN p k) j).l), .c (I6 j)]) (fun j => headL x p ts (trkN p k) (upN x ⟨rdy0, ts⟩ (trkN p k) j).ready (upN x ⟨rdy0, ts⟩ (trkN p k) j).l) (fun j => (trkN p k).length - j) (by kernel_rfl) ⟨0, Nat.zero_le _, rfl, rfl⟩ (fun k _ => rfl) ?_
  intro j hj
  have hup : upN x ⟨rdy0, ts⟩ (trkN p k) (j + 1) = if h : j < (trkN p k).length then soonStop x (upN x ⟨rdy0, ts⟩ (trkN p k) j) (stN (trkN p k) j) else upN x ⟨rdy0, ts⟩ (trkN p k) j := by
   unfold upN
   split
   ·rename_i h
    rw [List.take_succ_eq_append_getElem h, List.foldl_append]
    show soonStop x _ _ = soonStop x _ _
    unfold stN
    rw [getD_of h]
   ·rename_i h
    rw [List.take_of_length_le (by omega), List.take_of_length_le (by omega)]
  obtain ⟨hbd, hln⟩ := soonStop_up gd (t := trkN p k) (SnAB.start x ⟨rdy0, ts⟩ hab) rfl ⟨hst.1, hst.2⟩ j hj
  have hbd : SnTB x (upN x ⟨rdy0, ts⟩ (trkN p k) j) := hbd
  have hln : (upN x ⟨rdy0, ts⟩ (trkN p k) j).l.length = j := hln
  generalize hsu : upN x ⟨rdy0, ts⟩ (trkN p k) j = st at hup hbd hln
  obtain ⟨now, node, ready, l⟩ := st
  have hrl : ready.length = x.sats.length := hbd.len
  have hln : l.length = j := hln
  have hend : j = (trkN p k).length → soonTrucks x (p.trucks.take (k + 1)) = ⟨ready, ts ++ [l]⟩ := fun e => by
   subst e
   have h1 : soonTruckE x ⟨rdy0, ts⟩ (trkN p k) = ⟨now, node, ready, l⟩ := by rw [← hsu]; unfold upN soonTruckE; rw [List.take_length]
   have h2 : soonTrucks x (p.trucks.take (k + 1)) = soonTruck x (soonTrucks x (p.trucks.take k)) (trkN p k) := by
    unfold soonTrucks trkN
    rw [List.take_succ_eq_append_getElem hlt, List.foldl_append, getD_of hlt]; rfl
   rw [h2, hA]; unfold soonTruck; rw [h1]
  have hs := fun h => hst2 j h
  have hn := hbd.now; have hnd := hbd.node; have tb := timeAt_bd gd node (1 + (stN (trkN p k) j).sat); have hb := hold_bd gd (stN (trkN p k) j).sat; have tb0 := timeAt_bd gd node 0
  have hjl1 : l.length ≤ 100000 := by omega
  clear hsu
  rcases l with _ | ⟨v, l⟩ <;> rcases ts with _ | ⟨a, ts⟩
  all_goals
   simp -implicitDefEqProofs only [go_sem, ↓reduceIte, reduceCtorEq, Nat.reduceAdd, Nat.reduceLT, Nat.reduceEqDiff, Nat.reduceMul, Nat.reduceLeDiff, Nat.reduceSub, headL, eInst, ePlan, lH, lR, tsH, tsR]
   refine ⟨fun h2 => ?_, fun h2 => ?_⟩
  ·have hjl : j < (trkN p k).length := by omega
   rw [dif_pos hjl] at hup
   have hs := hs hjl
   simp only [List.length_nil] at hn hnd
   refine ⟨by omega, hnd, by omega, by omega, by omega, by omega, ⟨by omega, by omega⟩, by omega, by omega, by omega, ⟨by omega, by omega⟩, by omega, by omega, j + 1, [10], by omega, ⟨rfl, rfl⟩, ?_, ?_, by omega⟩
   ·rw [hup]; rfl
   ·rw [hup]; rfl
  ·have hend := hend (by omega)
   refine ⟨by omega, k + 1, [9], by omega, ⟨rfl, rfl⟩, rfl, ?_, by omega⟩
   rw [hend]; rfl
  ·have hjl : j < (trkN p k).length := by omega
   rw [dif_pos hjl] at hup
   have hs := hs hjl
   simp only [List.length_nil] at hn hnd
   refine ⟨by omega, hnd, by omega, by omega, by omega, by omega, ⟨by omega, by omega⟩, by omega, by omega, by omega, ⟨by omega, by omega⟩, by omega, by omega, j + 1, [10], by omega, ⟨rfl, rfl⟩, ?_, ?_, by omega⟩
   ·rw [hup]; rfl
   ·rw [hup]; rfl
  ·have hend := hend (by omega)
   simp only [List.length_cons] at hts
   refine ⟨⟨by simp, by omega⟩, by omega, k + 1, [5], by omega, ⟨rfl, rfl⟩, rfl, ?_, by omega⟩
   rw [hend]; simp [pickR, rootAt, renRoot, renRow, pos, mkH, eRow]
  ·have hjl : j < (trkN p k).length := by omega
   rw [dif_pos hjl] at hup
   have hs := hs hjl
   simp only [List.length_cons] at hn hnd hln hjl1
   refine ⟨by omega, hnd, by omega, by omega, by omega, by omega, by omega, ⟨by omega, by omega⟩, by omega, by omega, by omega, ⟨by omega, by omega⟩, by omega, by omega, j + 1, [7], by omega, ⟨rfl, rfl⟩, ?_, ?_, by omega⟩
   ·rw [hup]; simp [soonStop, pos, mkH]
   ·rw [hup]; simp [soonStop, pickR, rootAt, renRoot, renRow]
  ·have hend := hend (by omega)
   refine ⟨by omega, k + 1, [9], by omega, ⟨rfl, rfl⟩, rfl, ?_, by omega⟩
   rw [hend]; rfl
  ·have hjl : j < (trkN p k).length := by omega
   rw [dif_pos hjl] at hup
   have hs := hs hjl
   simp only [List.length_cons] at hn hnd hln hjl1
   refine ⟨by omega, hnd, by omega, by omega, by omega, by omega, by omega, ⟨by omega, by omega⟩, by omega, by omega, by omega, ⟨by omega, by omega⟩, by omega, by omega, j + 1, [7], by omega, ⟨rfl, rfl⟩, ?_, ?_, by omega⟩
   ·rw [hup]; simp [soonStop, pos, mkH]
   ·rw [hup]; simp [soonStop, pickR, rootAt, renRoot, renRow]
  ·have hend := hend (by omega)
   simp only [List.length_cons] at hts
   refine ⟨⟨by simp, by omega⟩, by omega, k + 1, [5], by omega, ⟨rfl, rfl⟩, rfl, ?_, by omega⟩
   rw [hend]; simp [pickR, rootAt, renRoot, renRow, pos, mkH, eRow]
 ·obtain rfl : k = p.trucks.length := by omega
  obtain ⟨hab, hts⟩ := soonTruck_up ok _ (Nat.le_refl _)
  have hsd : soonD x p = ⟨(soonTrucks x p.trucks).ts, p.bikes.map (soonBike x (soonTrucks x p.trucks).ready)⟩ := rfl
  rw [List.take_length] at hab hts ⊢
  generalize soonTrucks x p.trucks = A at hab hts hsd
  obtain ⟨ready, ts⟩ := A
  simp only [] at hts hsd
  have hrl : ready.length = x.sats.length := hab.len
  rw [hsd]
  clear hsd
  refine awp_loop2 (ι := Nat) 1 [2, 4, 5, 6, 86, 87] [88] (fun k => k ≤ p.bikes.length) (fun k => [.c (I6 k)]) (fun k => headB x p ts ready ((p.bikes.take k).map (soonBike x ready))) (fun k => p.bikes.length - k) (by kernel_rfl) ⟨0, Nat.zero_le _, rfl, rfl⟩ (fun k _ => rfl) ?_
  intro k hk
  generalize hrs : (p.bikes.take k).map (soonBike x ready) = rs
  simp -implicitDefEqProofs only [go_sem, ↓reduceIte, reduceCtorEq, Nat.reduceAdd, Nat.reduceLT, Nat.reduceEqDiff, Nat.reduceMul, Nat.reduceLeDiff, Nat.reduceSub, headB, eInst, ePlan]
  refine ⟨fun h => ?_, fun h => ?_⟩
  ·have hlt : k < p.bikes.length := by omega
   have hb1 := ok.b1 _ (getD_mem hlt ⟨0, []⟩)
   have hsat : 0 ≤ (bikN p k).sat ∧ (bikN p k).sat < x.sats.length := hb1.2.1
   have hsl : (bikN p k).stops.length ≤ 100000 := hb1.1
   have hco : ∀ j, j < (bikN p k).stops.length → CustOk x ((bikN p k).stops.getD j 0) := fun j hj => hb1.2.2 _ (getD_mem hj _)
   refine ⟨by omega, ⟨⟨by omega, by omega⟩, by omega⟩, by omega, by omega, ?_⟩
   refine awp_loop2 (ι := Nat) 1 [2, 4, 5, 6, 15, 16, 86, 87, 88, 104, 105] [17, 18, 106] (fun j => j ≤ (bikN p k).stops.length) (fun j => [.c (I6 (bkN x ready (bikN p k) j).now), .c (I6 (bkN x ready (bikN p k) j).node), .c (I6 j)]) (fun j => headC x p ts ready rs (bikN p k) (ready.getD (bikN p k).sat.toNat 0) (bkN x ready (bikN p k) j).starts) (fun j => (bikN p k).stops.length - j) (by kernel_rfl) ⟨0, Nat.zero_le _, rfl, rfl⟩ (fun k _ => rfl) ?_
   intro j hj
   have hup : j < (bikN p k).stops.length → bkN x ready (bikN p k) (j + 1) = soonCust x (bkN x ready (bikN p k) j) ((bikN p k).stops.getD j 0) := fun h => by
    unfold bkN
    rw [List.take_succ_eq_append_getElem h, List.foldl_append, getD_of h]; rfl
   have hend : j = (bikN p k).stops.length → (p.bikes.take (k + 1)).map (soonBike x ready) = rs ++ [⟨ready.getD (bikN p k).sat.toNat 0, (bkN x ready (bikN p k) j).starts, (bkN x ready (bikN p k) j).now + timeAt x (bkN x ready (bikN p k) j).node (1 + (bikN p k).sat)⟩] := fun e => by
    subst e
    rw [List.take_succ_eq_append_getElem hlt, List.map_append, hrs]
    unfold bkN
    rw [List.take_length]
    have : bikN p k = p.bikes[k] := getD_of hlt _
    rw [this]; rfl
   obtain ⟨hbd, hln⟩ := soonCust_up gd (t := (bikN p k).stops) (soonB_start hrl hab.rdy hsat) rfl ⟨hb1.1, hb1.2.2⟩ j hj
   have hbd : SnBB x (bkN x ready (bikN p k) j) := hbd
   have hln : (bkN x ready (bikN p k) j).starts.length = j := hln
   generalize bkN x ready (bikN p k) j = st at hup hend hbd hln
   obtain ⟨now, node, l⟩ := st
   have hln : l.length = j := hln
   have hn := hbd.now; have hnd := hbd.node
   have tb := timeAt_bd gd node (1 + x.sats.length + (bikN p k).stops.getD j 0); have tb0 := timeAt_bd gd node (1 + (bikN p k).sat)
   rcases l with _ | ⟨v, l⟩ <;> rcases rs with _ | ⟨a, rs⟩
   all_goals
    simp -implicitDefEqProofs only [go_sem, ↓reduceIte, reduceCtorEq, Nat.reduceAdd, Nat.reduceLT, Nat.reduceEqDiff, Nat.reduceMul, Nat.reduceLeDiff, Nat.reduceSub, headC, headB, eInst, ePlan, lH, lR, tsR_ren, bsH, bsR, tsH_ren (show 5 < 9 by decide)]
    refine ⟨fun h2 => ?_, fun h2 => ?_⟩
   ·have hjl : j < (bikN p k).stops.length := by omega
    have hup := hup hjl
    have hcj := hco j hjl
    have cb := cust_bd gd hcj
    simp only [List.length_nil] at hn hnd
    refine ⟨by omega, hnd, hcj, ?_⟩
    refine callK_e (at_p x hcj gd) ⟨trivial, trivial, trivial⟩ rfl (fun r h => by subst h; rfl) ?_
    rintro r rfl
    simp -implicitDefEqProofs only [go_sem, ↓reduceIte, reduceCtorEq, Nat.reduceAdd, Nat.reduceLT, Nat.reduceEqDiff, Nat.reduceMul, Nat.reduceLeDiff, Nat.reduceSub]
    unfold CustOk at hcj
    refine ⟨by omega, by omega, by omega, by omega, ?_⟩
    refine callK_e (at_p x hcj gd) ⟨trivial, trivial, trivial⟩ rfl (fun r h => by subst h; rfl) ?_
    rintro r rfl
    refine ⟨by omega, j + 1, [11], by omega, ⟨rfl, rfl⟩, ?_, ?_, by omega⟩
    ·rw [hup]; rfl
    ·rw [hup]; simp -implicitDefEqProofs only [go_sem, ↓reduceIte, reduceCtorEq, Nat.reduceAdd, Nat.reduceLT, Nat.reduceEqDiff, Nat.reduceMul, Nat.reduceLeDiff, Nat.reduceSub, soonCust, headC, headB, bsH, bsR, lH, lR, tsR_ren, tsH_ren (show 5 < 9 by decide), eInst, ePlan, List.nil_append, List.cons_append, List.length_append]
   ·have hend := hend (by omega)
    simp only [List.length_nil] at hn hnd
    refine ⟨hnd, by omega, by omega, by omega, by omega, k + 1, [11], by omega, ⟨rfl, rfl⟩, rfl, ?_, by omega⟩
    rw [hend]; simp -implicitDefEqProofs only [go_sem, ↓reduceIte, reduceCtorEq, Nat.reduceAdd, Nat.reduceLT, Nat.reduceEqDiff, Nat.reduceMul, Nat.reduceLeDiff, Nat.reduceSub, headB, bsH, bsR, eRow, tsR_ren, tsH_ren (show 5 < 6 by decide), eInst, ePlan, List.nil_append, List.cons_append, List.length_append, List.map_append]
   ·have hjl : j < (bikN p k).stops.length := by omega
    have hup := hup hjl
    have hcj := hco j hjl
    have cb := cust_bd gd hcj
    simp only [List.length_nil] at hn hnd
    refine ⟨by omega, hnd, hcj, ?_⟩
    refine callK_e (at_p x hcj gd) ⟨trivial, trivial, trivial⟩ rfl (fun r h => by subst h; rfl) ?_
    rintro r rfl
    simp -implicitDefEqProofs only [go_sem, ↓reduceIte, reduceCtorEq, Nat.reduceAdd, Nat.reduceLT, Nat.reduceEqDiff, Nat.reduceMul, Nat.reduceLeDiff, Nat.reduceSub]
    unfold CustOk at hcj
    refine ⟨by omega, by omega, by omega, by omega, ?_⟩
    refine callK_e (at_p x hcj gd) ⟨trivial, trivial, trivial⟩ rfl (fun r h => by subst h; rfl) ?_
    rintro r rfl
    refine ⟨by omega, j + 1, [11], by omega, ⟨rfl, rfl⟩, ?_, ?_, by omega⟩
    ·rw [hup]; rfl
    ·rw [hup]; simp -implicitDefEqProofs only [go_sem, ↓reduceIte, reduceCtorEq, Nat.reduceAdd, Nat.reduceLT, Nat.reduceEqDiff, Nat.reduceMul, Nat.reduceLeDiff, Nat.reduceSub, soonCust, headC, headB, bsH, bsR, lH, lR, tsR_ren, tsH_ren (show 5 < 9 by decide), eInst, ePlan, List.nil_append, List.cons_append, List.length_append]
   ·have hend := hend (by omega)
    simp only [List.length_nil] at hn hnd
    have hlr : rs.length + 1 = k := by have := congrArg List.length hrs; simp at this; omega
    refine ⟨hnd, by omega, by omega, by omega, ⟨by simp, by omega⟩, by omega, k + 1, [6], by omega, ⟨rfl, rfl⟩, rfl, ?_, by omega⟩
    rw [hend]; simp -implicitDefEqProofs only [go_sem, ↓reduceIte, reduceCtorEq, Nat.reduceAdd, Nat.reduceLT, Nat.reduceEqDiff, Nat.reduceMul, Nat.reduceLeDiff, Nat.reduceSub, headB, bsH, bsR, eRow, tsR_ren, tsH_ren (show 5 < 6 by decide), eInst, ePlan, List.nil_append, List.cons_append, List.length_append, List.map_append]
   ·have hjl : j < (bikN p k).stops.length := by omega
    have hup := hup hjl
    have hcj := hco j hjl
    have cb := cust_bd gd hcj
    simp only [List.length_cons] at hn hnd hln
    refine ⟨by omega, hnd, hcj, ?_⟩
    refine callK_e (at_p x hcj gd) ⟨trivial, trivial, trivial⟩ rfl (fun r h => by subst h; rfl) ?_
    rintro r rfl
    simp -implicitDefEqProofs only [go_sem, ↓reduceIte, reduceCtorEq, Nat.reduceAdd, Nat.reduceLT, Nat.reduceEqDiff, Nat.reduceMul, Nat.reduceLeDiff, Nat.reduceSub]
    unfold CustOk at hcj
    refine ⟨by omega, by omega, by omega, by omega, by omega, ?_⟩
    refine callK_e (at_p x hcj gd) ⟨trivial, trivial, trivial⟩ rfl (fun r h => by subst h; rfl) ?_
    rintro r rfl
    refine ⟨by omega, j + 1, [9], by omega, ⟨rfl, rfl⟩, ?_, ?_, by omega⟩
    ·rw [hup]; rfl
    ·rw [hup]; simp -implicitDefEqProofs only [go_sem, ↓reduceIte, reduceCtorEq, Nat.reduceAdd, Nat.reduceLT, Nat.reduceEqDiff, Nat.reduceMul, Nat.reduceLeDiff, Nat.reduceSub, soonCust, headC, headB, bsH, bsR, lH, lR, tsR_ren, tsH_ren (show 5 < 9 by decide), eInst, ePlan, List.nil_append, List.cons_append, List.length_append]
   ·have hend := hend (by omega)
    simp only [List.length_cons] at hn hnd hln
    refine ⟨hnd, by omega, by omega, by omega, by omega, k + 1, [11], by omega, ⟨rfl, rfl⟩, rfl, ?_, by omega⟩
    rw [hend]; simp -implicitDefEqProofs only [go_sem, ↓reduceIte, reduceCtorEq, Nat.reduceAdd, Nat.reduceLT, Nat.reduceEqDiff, Nat.reduceMul, Nat.reduceLeDiff, Nat.reduceSub, headB, bsH, bsR, eRow, tsR_ren, tsH_ren (show 5 < 6 by decide), eInst, ePlan, List.nil_append, List.cons_append, List.length_append, List.map_append]; rfl
   ·have hjl : j < (bikN p k).stops.length := by omega
    have hup := hup hjl
    have hcj := hco j hjl
    have cb := cust_bd gd hcj
    simp only [List.length_cons] at hn hnd hln
    refine ⟨by omega, hnd, hcj, ?_⟩
    refine callK_e (at_p x hcj gd) ⟨trivial, trivial, trivial⟩ rfl (fun r h => by subst h; rfl) ?_
    rintro r rfl
    simp -implicitDefEqProofs only [go_sem, ↓reduceIte, reduceCtorEq, Nat.reduceAdd, Nat.reduceLT, Nat.reduceEqDiff, Nat.reduceMul, Nat.reduceLeDiff, Nat.reduceSub]
    unfold CustOk at hcj
    refine ⟨by omega, by omega, by omega, by omega, by omega, ?_⟩
    refine callK_e (at_p x hcj gd) ⟨trivial, trivial, trivial⟩ rfl (fun r h => by subst h; rfl) ?_
    rintro r rfl
    refine ⟨by omega, j + 1, [9], by omega, ⟨rfl, rfl⟩, ?_, ?_, by omega⟩
    ·rw [hup]; rfl
    ·rw [hup]; simp -implicitDefEqProofs only [go_sem, ↓reduceIte, reduceCtorEq, Nat.reduceAdd, Nat.reduceLT, Nat.reduceEqDiff, Nat.reduceMul, Nat.reduceLeDiff, Nat.reduceSub, soonCust, headC, headB, bsH, bsR, lH, lR, tsR_ren, tsH_ren (show 5 < 9 by decide), eInst, ePlan, List.nil_append, List.cons_append, List.length_append]
   ·have hend := hend (by omega)
    simp only [List.length_cons] at hn hnd hln
    have hlr : rs.length + 1 = k := by have := congrArg List.length hrs; simp at this; omega
    refine ⟨hnd, by omega, by omega, by omega, ⟨by simp, by omega⟩, by omega, k + 1, [6], by omega, ⟨rfl, rfl⟩, rfl, ?_, by omega⟩
    rw [hend]; simp -implicitDefEqProofs only [go_sem, ↓reduceIte, reduceCtorEq, Nat.reduceAdd, Nat.reduceLT, Nat.reduceEqDiff, Nat.reduceMul, Nat.reduceLeDiff, Nat.reduceSub, headB, bsH, bsR, eRow, tsR_ren, tsH_ren (show 5 < 6 by decide), eInst, ePlan, List.nil_append, List.cons_append, List.length_append, List.map_append]; rfl
  ·obtain rfl : k = p.bikes.length := by omega
   rw [List.take_length] at hrs
   rw [hrs]
   rcases ts with _ | ⟨a, ts⟩ <;> rcases rs with _ | ⟨b, rs⟩
   all_goals simp -implicitDefEqProofs only [go_sem, ↓reduceIte, reduceCtorEq, Nat.reduceAdd, Nat.reduceLT, Nat.reduceEqDiff, Nat.reduceMul, Nat.reduceLeDiff, Nat.reduceSub, tsH, tsR, bsH, bsR]
   ·exact ⟨_, ⟨_, rfl, _, _, rfl, .inr (.inr ⟨1, _, rfl⟩), _, _, rfl, .inr (.inr ⟨3, _, rfl⟩), rfl⟩, rfl⟩
   ·exact ⟨by simp, _, ⟨_, rfl, _, _, rfl, .inr (.inr ⟨1, _, rfl⟩), _, _, rfl, .inr (eqv_bs (b :: rs)), rfl⟩, rfl⟩
   ·exact ⟨by simp, _, ⟨_, rfl, _, _, rfl, .inr (eqv_ts (a :: ts)), _, _, rfl, .inr (.inr ⟨3, _, rfl⟩), rfl⟩, rfl⟩
   ·exact ⟨⟨by simp, by simp⟩, _, ⟨_, rfl, _, _, rfl, .inr (eqv_ts (a :: ts)), _, _, rfl, .inr (eqv_bs (b :: rs)), rfl⟩, rfl⟩
end Go.Proofs.Ytafhjfkdlmijdaa.Ab
namespace Go.Proofs.Ytafhjfkdlmijdaa.Ab
open Go.RowKit
def tSum (l : List (List StopD)) : Nat := (l.map List.length).sum
structure POk (p : PlanD) : Prop where
 wf : PlanWf p
 small : PlanSmall p
theorem tms_wf {t : TimesD} (h : (∀ l ∈ t.trucks, ∀ v ∈ l, 0 ≤ v ∧ v ≤ 1000000000000000) ∧ ∀ r ∈ t.bikes, (0 ≤ r.out ∧ r.out ≤ 1000000000000000) ∧ (0 ≤ r.back ∧ r.back ≤ 1000000000000000) ∧ ∀ v ∈ r.starts, 0 ≤ v ∧ v ≤ 1000000000000000) : TmsWf t :=
 ⟨fun l hl v hv => by have := h.1 l hl v hv; unfold wf64; omega, fun r hr => by
  have := h.2 r hr
  exact ⟨by unfold wf64; omega, by unfold wf64; omega, fun v hv => by have := this.2.2 v hv; unfold wf64; omega⟩⟩
end Go.Proofs.Ytafhjfkdlmijdaa.Ab
namespace Go.Proofs.Ytafhjfkdlmijdaa.Ab
open Go.RowKit
set_option maxRecDepth 100000
set_option linter.unusedSimpArgs false
set_option maxHeartbeats 2000000
theorem eq64_p {xs ys : List Int} (hx : ∀ v ∈ xs, wf64 v) (hy : ∀ v ∈ ys, wf64 v) : PCall Try.prog 68 [.c (eInts xs), .c (eInts ys)] (fun r => r = .c (.bool (decide (xs = ys)))) :=
 pcall_mk ⟨_, _, Try.func68, by kernel_rfl, rfl⟩ fun rho w vs hcv => by
  obtain ⟨_, _, rfl, h1, _, _, rfl, h2, rfl⟩ := hcv
  refine (eqI64s_c (bs (e := fun (x : Int) _ => I6 x) 0 int_b h1 hx) (bs (e := fun (x : Int) _ => I6 x) 0 int_b h2 hy)).mono ?_
  rintro e w' ⟨rfl, n, rfl⟩
  exact ⟨_, _, rfl, rfl, rfl, below_drewN (Below.refl _ _) n⟩
theorem tms_wfN {t : TimesD} (h : TmsWf t) (k : Nat) : ∀ v ∈ tmsN t k, wf64 v := by
 unfold tmsN
 rw [List.getD_eq_getElem?_getD]
 by_cases hk : k < t.trucks.length
 ·rw [List.getElem?_eq_getElem hk]; exact h.trucks _ (List.getElem_mem hk)
 ·rw [List.getElem?_eq_none (by omega)]; intro v hv; cases hv
theorem rid_wfN {t : TimesD} (h : TmsWf t) (k : Nat) : RideWf (ridN t k) := by
 unfold ridN
 rw [List.getD_eq_getElem?_getD]
 by_cases hk : k < t.bikes.length
 ·rw [List.getElem?_eq_getElem hk]; exact h.bikes _ (List.getElem_mem hk)
 ·rw [List.getElem?_eq_none (by omega)]; exact ⟨by unfold wf64; simp, by unfold wf64; simp, fun v hv => by cases hv⟩
theorem times_ext {a b : TimesD} (h1 : a.trucks.length = b.trucks.length) (h2 : a.bikes.length = b.bikes.length) (h3 : ∀ i, i < a.trucks.length → tmsN a i = tmsN b i) (h4 : ∀ i, i < a.bikes.length → ridN a i = ridN b i) : a = b := by
 obtain ⟨at_, ab⟩ := a
 obtain ⟨bt, bb⟩ := b
 simp only [TimesD.mk.injEq]
 constructor
 ·refine List.ext_getElem h1 fun i k1 k2 => ?_
  have := h3 i k1
  unfold tmsN at this
  rw [getD_get k1, getD_get k2] at this
  exact this
 ·refine List.ext_getElem h2 fun i k1 k2 => ?_
  have := h4 i k1
  unfold ridN at this
  rw [getD_get k1, getD_get k2] at this
  exact this
theorem ride_ext {r q : RideD} (h1 : r.out = q.out) (h2 : r.starts = q.starts) (h3 : r.back = q.back) : r = q := by
 cases r; cases q; cases h1; cases h2; cases h3; rfl
theorem same_p {a b : TimesD} (ha : TmsWf a) (hb : TmsWf b) (hla : a.trucks.length ≤ 1000000000000000 ∧ a.bikes.length ≤ 1000000000000000) : PCall Try.prog 47 [.agg (eTimes a), .agg (eTimes b)] (fun r => r = .c (.bool (decide (a = b)))) := by
 refine pcall_of ty_ok (by kernel_rfl) (fun _ => ([], 0, none)) Try.func47 rfl (by kernel_rfl) Try.ntmps47 (congrArg Array.toList Try.results47) (by kernel_rfl) (by simp) ?_
 simp -implicitDefEqProofs only [go_sem, ↓reduceIte, reduceCtorEq, Nat.reduceAdd, Nat.reduceLT, Nat.reduceEqDiff, Nat.reduceMul, Nat.reduceLeDiff, Nat.reduceSub, eTimes]
 refine ⟨fun h => ?_, fun h => ?_⟩
 ·simp only [Bool.or_eq_true, decide_eq_true_eq] at h
  rw [decide_eq_false]
  rintro rfl
  simp at h
 ·simp only [Bool.or_eq_false_iff, decide_eq_false_iff_not, Decidable.not_not] at h
  obtain ⟨hl1, hl2⟩ : a.trucks.length = b.trucks.length ∧ a.bikes.length = b.bikes.length := by omega
  refine awp_loop (ι := Nat) [2, 3, 25] [26] (fun k => k ≤ a.trucks.length ∧ ∀ i, i < k → tmsN a i = tmsN b i) (fun k => [.c (I6 k)]) (fun _ => _) (fun k => a.trucks.length - k) (by kernel_rfl) ⟨0, ⟨Nat.zero_le _, fun i hi => absurd hi (Nat.not_lt_zero _)⟩, rfl, rfl⟩ (fun k _ => ⟨rfl, rfl, rfl, rfl⟩) ?_
  rintro k ⟨hk, hi⟩
  simp -implicitDefEqProofs only [go_sem, ↓reduceIte, reduceCtorEq, Nat.reduceAdd, Nat.reduceLT, Nat.reduceEqDiff, Nat.reduceMul, Nat.reduceLeDiff, Nat.reduceSub]
  refine ⟨fun h => ?_, fun h => ?_⟩
  ·have hlt : k < a.trucks.length := by omega
   refine ⟨by omega, by omega, ?_⟩
   refine callK_e (eq64_p (tms_wfN ha k) (tms_wfN hb k)) ⟨trivial, trivial, trivial⟩ rfl (fun r h => by subst h; rfl) ?_
   rintro r rfl
   simp -implicitDefEqProofs only [go_sem, ↓reduceIte, reduceCtorEq, Nat.reduceAdd, Nat.reduceLT, Nat.reduceEqDiff, Nat.reduceMul, Nat.reduceLeDiff, Nat.reduceSub]
   refine ⟨fun hne => ?_, fun he => ?_⟩
   ·rw [decide_eq_false]
    rintro rfl
    exact hne rfl
   ·simp only [Bool.not_eq_false', decide_eq_true_eq] at he
    refine ⟨by omega, k + 1, ⟨by omega, fun i h => ?_⟩, rfl, by omega⟩
    by_cases e : i = k
    ·subst e; exact he
    ·exact hi i (by omega)
  ·obtain rfl : k = a.trucks.length := by omega
   refine awp_loop (ι := Nat) [2, 3, 44] [45] (fun k => k ≤ a.bikes.length ∧ ∀ i, i < k → ridN a i = ridN b i) (fun k => [.c (I6 k)]) (fun _ => _) (fun k => a.bikes.length - k) (by kernel_rfl) ⟨0, ⟨Nat.zero_le _, fun i hi => absurd hi (Nat.not_lt_zero _)⟩, rfl, rfl⟩ (fun k _ => ⟨rfl, rfl, rfl, rfl⟩) ?_
   rintro k ⟨hk, hj⟩
   simp -implicitDefEqProofs only [go_sem, ↓reduceIte, reduceCtorEq, Nat.reduceAdd, Nat.reduceLT, Nat.reduceEqDiff, Nat.reduceMul, Nat.reduceLeDiff, Nat.reduceSub]
   refine ⟨fun h => ?_, fun h => ?_⟩
   ·have hlt : k < a.bikes.length := by omega
    have hwa := rid_wfN ha k
    have hwb := rid_wfN hb k
    refine ⟨by omega, by omega, fun _ => by omega, fun _ => by omega, fun _ => by omega, fun _ => by omega, fun h1 => ?_, fun h1 => ?_⟩
    ·refine callK_e (eq64_p hwa.2.2 hwb.2.2) ⟨trivial, trivial, trivial⟩ rfl (fun r h => by subst h; rfl) ?_
     rintro r rfl
     simp -implicitDefEqProofs only [go_sem, ↓reduceIte, reduceCtorEq, Nat.reduceAdd, Nat.reduceLT, Nat.reduceEqDiff, Nat.reduceMul, Nat.reduceLeDiff, Nat.reduceSub]
     refine ⟨fun hne => ?_, fun he => ?_⟩
     ·rw [decide_eq_false]
      rintro rfl
      simp at hne
     ·simp only [Bool.or_eq_false_iff, decide_eq_false_iff_not, Bool.not_eq_false', decide_eq_true_eq, Decidable.not_not] at he
      refine ⟨by omega, k + 1, ⟨by omega, fun i h => ?_⟩, rfl, by omega⟩
      by_cases e : i = k
      ·subst e; exact ride_ext he.1.1 he.2 he.1.2
      ·exact hj i (by omega)
    ·have h2 : (decide ¬(ridN a k).out = (ridN b k).out || decide ¬(ridN a k).back = (ridN b k).back) = true := by
      simpa only [Bool.not_eq_false'] using h1
     refine ⟨fun h3 => (by rw [h2] at h3; cases h3), h2, ?_⟩
     rw [decide_eq_false]
     rintro rfl
     simp at h2
   ·obtain rfl : k = a.bikes.length := by omega
    rw [decide_eq_true (times_ext hl1 hl2 hi hj)]
end Go.Proofs.Ytafhjfkdlmijdaa.Ab
namespace Go.Proofs.Ytafhjfkdlmijdaa.Ab
open Go.RowKit
set_option maxRecDepth 100000
set_option linter.unusedSimpArgs false
set_option maxHeartbeats 2000000
def eTm (t : TimesD) : AV := .sl t.trucks.length 1 (fun i _ => eInts (tmsN t i))
def eRd (t : TimesD) : AV := .sl t.bikes.length 3 (fun i => ix3 (I6 (ridN t i).out) (eInts (ridN t i).starts) (I6 (ridN t i).back))
theorem trucks_ext {a b : TimesD} (h1 : a.trucks.length = b.trucks.length) (h3 : ∀ i, i < a.trucks.length → tmsN a i = tmsN b i) : a.trucks = b.trucks :=
 List.ext_getElem h1 fun i k1 k2 => by
  have := h3 i k1
  unfold tmsN at this
  rwa [getD_get k1, getD_get k2] at this
theorem bikes_ext {a b : TimesD} (h1 : a.bikes.length = b.bikes.length) (h3 : ∀ i, i < a.bikes.length → ridN a i = ridN b i) : a.bikes = b.bikes :=
 List.ext_getElem h1 fun i k1 k2 => by
  have := h3 i k1
  unfold ridN at this
  rwa [getD_get k1, getD_get k2] at this
theorem ride_dec (r q : RideD) : decide (r = q) = (decide (r.out = q.out) && decide (r.back = q.back) && decide (r.starts = q.starts)) := by
 rw [Bool.eq_iff_iff]
 simp only [decide_eq_true_eq, Bool.and_eq_true]
 exact ⟨fun h => by subst h; exact ⟨⟨rfl, rfl⟩, rfl⟩, fun ⟨⟨h1, h2⟩, h3⟩ => ride_ext h1 h3 h2⟩
theorem rideEq_p {r q : RideD} (hr : RideWf r) (hq : RideWf q) : PCall Try.prog 85 [.agg [I6 r.out, eInts r.starts, I6 r.back], .agg [I6 q.out, eInts q.starts, I6 q.back]] (fun v => v = .c (.bool (decide (r = q)))) := by
 refine pcall_of ty_ok (by kernel_rfl) (fun _ => ([], 0, none)) Try.func85 rfl (by kernel_rfl) Try.ntmps85 (congrArg Array.toList Try.results85) (by kernel_rfl) (by simp) ?_
 simp -implicitDefEqProofs only [go_sem, ↓reduceIte, reduceCtorEq, Nat.reduceAdd, Nat.reduceLT, Nat.reduceEqDiff, Nat.reduceMul, Nat.reduceLeDiff, Nat.reduceSub]
 rw [ride_dec]
 refine ⟨fun h1 h2 => ?_, fun h => ⟨h, by rw [h]; rfl⟩⟩
 refine callK_e (eq64_p hr.2.2 hq.2.2) (by simp -implicitDefEqProofs only [go_sem, ↓reduceIte, reduceCtorEq, Nat.reduceAdd, Nat.reduceLT, Nat.reduceEqDiff, Nat.reduceMul, Nat.reduceLeDiff, Nat.reduceSub]) rfl (fun r h => by subst h; rfl) ?_
 rintro v rfl
 simp -implicitDefEqProofs only [go_sem, ↓reduceIte, reduceCtorEq, Nat.reduceAdd, Nat.reduceLT, Nat.reduceEqDiff, Nat.reduceMul, Nat.reduceLeDiff, Nat.reduceSub, decide_eq_true h1, decide_eq_true h2, Bool.true_and]
theorem eqfT_p {a b : TimesD} (ha : TmsWf a) (hb : TmsWf b) (hla : a.trucks.length ≤ 1000000000000000) : PCall Try.prog 83 [.c (eTm a), .c (eTm b), .fn 68 []] (fun r => r = .c (.bool (decide (a.trucks = b.trucks)))) := by
 refine pcall_of ty_ok (by kernel_rfl) (fun _ => ([], 0, none)) Try.func83 rfl (by kernel_rfl) Try.ntmps83 (congrArg Array.toList Try.results83) (by kernel_rfl) (by simp) ?_
 simp -implicitDefEqProofs only [go_sem, ↓reduceIte, reduceCtorEq, Nat.reduceAdd, Nat.reduceLT, Nat.reduceEqDiff, Nat.reduceMul, Nat.reduceLeDiff, Nat.reduceSub, eTm]
 refine ⟨fun h => ?_, fun h => ?_⟩
 ·rw [decide_eq_false]
  intro e
  rw [e] at h
  simp at h
 ·have hl1 : a.trucks.length = b.trucks.length := by omega
  refine awp_loop (ι := Nat) [1, 2, 15, 16] [17] (fun k => k ≤ a.trucks.length ∧ ∀ i, i < k → tmsN a i = tmsN b i) (fun k => [.c (I6 k)]) (fun _ => _) (fun k => a.trucks.length - k) (by kernel_rfl) ⟨0, ⟨Nat.zero_le _, fun i hi => absurd hi (Nat.not_lt_zero _)⟩, rfl, rfl⟩ (fun k _ => ⟨rfl, rfl, rfl, rfl⟩) ?_
  rintro k ⟨hk, hi⟩
  simp -implicitDefEqProofs only [go_sem, ↓reduceIte, reduceCtorEq, Nat.reduceAdd, Nat.reduceLT, Nat.reduceEqDiff, Nat.reduceMul, Nat.reduceLeDiff, Nat.reduceSub]
  refine ⟨fun h => ?_, fun h => ?_⟩
  ·have hlt : k < a.trucks.length := by omega
   refine ⟨by omega, by omega, ?_⟩
   refine callK_e (eq64_p (tms_wfN ha k) (tms_wfN hb k)) ⟨trivial, trivial, trivial⟩ rfl (fun r h => by subst h; rfl) ?_
   rintro r rfl
   simp -implicitDefEqProofs only [go_sem, ↓reduceIte, reduceCtorEq, Nat.reduceAdd, Nat.reduceLT, Nat.reduceEqDiff, Nat.reduceMul, Nat.reduceLeDiff, Nat.reduceSub]
   refine ⟨fun hne => ?_, fun he => ?_⟩
   ·rw [decide_eq_false]
    intro e
    have : tmsN a k = tmsN b k := by unfold tmsN; rw [e]
    simp [this] at hne
   ·simp only [Bool.not_eq_false', decide_eq_true_eq] at he
    refine ⟨by omega, k + 1, ⟨by omega, fun i h => ?_⟩, rfl, by omega⟩
    by_cases e : i = k
    ·subst e; exact he
    ·exact hi i (by omega)
  ·obtain rfl : k = a.trucks.length := by omega
   rw [decide_eq_true (trucks_ext hl1 hi)]
theorem eqfB_p {a b : TimesD} (ha : TmsWf a) (hb : TmsWf b) (hla : a.bikes.length ≤ 1000000000000000) : PCall Try.prog 84 [.c (eRd a), .c (eRd b), .fn 85 []] (fun r => r = .c (.bool (decide (a.bikes = b.bikes)))) := by
 refine pcall_of ty_ok (by kernel_rfl) (fun _ => ([], 0, none)) Try.func84 rfl (by kernel_rfl) Try.ntmps84 (congrArg Array.toList Try.results84) (by kernel_rfl) (by simp) ?_
 simp -implicitDefEqProofs only [go_sem, ↓reduceIte, reduceCtorEq, Nat.reduceAdd, Nat.reduceLT, Nat.reduceEqDiff, Nat.reduceMul, Nat.reduceLeDiff, Nat.reduceSub, eRd]
 refine ⟨fun h => ?_, fun h => ?_⟩
 ·rw [decide_eq_false]
  intro e
  rw [e] at h
  simp at h
 ·have hl1 : a.bikes.length = b.bikes.length := by omega
  refine awp_loop (ι := Nat) [1, 2, 15, 16] [17] (fun k => k ≤ a.bikes.length ∧ ∀ i, i < k → ridN a i = ridN b i) (fun k => [.c (I6 k)]) (fun _ => _) (fun k => a.bikes.length - k) (by kernel_rfl) ⟨0, ⟨Nat.zero_le _, fun i hi => absurd hi (Nat.not_lt_zero _)⟩, rfl, rfl⟩ (fun k _ => ⟨rfl, rfl, rfl, rfl⟩) ?_
  rintro k ⟨hk, hi⟩
  simp -implicitDefEqProofs only [go_sem, ↓reduceIte, reduceCtorEq, Nat.reduceAdd, Nat.reduceLT, Nat.reduceEqDiff, Nat.reduceMul, Nat.reduceLeDiff, Nat.reduceSub]
  refine ⟨fun h => ?_, fun h => ?_⟩
  ·have hlt : k < a.bikes.length := by omega
   refine ⟨by omega, by omega, ?_⟩
   refine callK_e (rideEq_p (rid_wfN ha k) (rid_wfN hb k)) (by simp -implicitDefEqProofs only [go_sem, ↓reduceIte, reduceCtorEq, Nat.reduceAdd, Nat.reduceLT, Nat.reduceEqDiff, Nat.reduceMul, Nat.reduceLeDiff, Nat.reduceSub]) rfl (fun r h => by subst h; rfl) ?_
   rintro r rfl
   simp -implicitDefEqProofs only [go_sem, ↓reduceIte, reduceCtorEq, Nat.reduceAdd, Nat.reduceLT, Nat.reduceEqDiff, Nat.reduceMul, Nat.reduceLeDiff, Nat.reduceSub]
   refine ⟨fun hne => ?_, fun he => ?_⟩
   ·rw [decide_eq_false]
    intro e
    have : ridN a k = ridN b k := by unfold ridN; rw [e]
    simp [this] at hne
   ·simp only [Bool.not_eq_false', decide_eq_true_eq] at he
    refine ⟨by omega, k + 1, ⟨by omega, fun i h => ?_⟩, rfl, by omega⟩
    by_cases e : i = k
    ·subst e; exact he
    ·exact hi i (by omega)
  ·obtain rfl : k = a.bikes.length := by omega
   rw [decide_eq_true (bikes_ext hl1 hi)]
theorem times_dec (a b : TimesD) : decide (a = b) = (decide (a.trucks = b.trucks) && decide (a.bikes = b.bikes)) := by
 rw [Bool.eq_iff_iff]
 simp only [decide_eq_true_eq, Bool.and_eq_true]
 exact ⟨fun h => by subst h; exact ⟨rfl, rfl⟩, fun ⟨h1, h2⟩ => by cases a; cases b; cases h1; cases h2; rfl⟩
theorem csame_p {a b : TimesD} (ha : TmsWf a) (hb : TmsWf b) (hla : a.trucks.length ≤ 1000000000000000 ∧ a.bikes.length ≤ 1000000000000000) : PCall Try.prog 46 [.agg (eTimes a), .agg (eTimes b)] (fun r => r = .c (.bool (decide (a = b)))) := by
 refine pcall_of ty_ok (by kernel_rfl) (fun _ => ([], 0, none)) Try.func46 rfl (by kernel_rfl) Try.ntmps46 (congrArg Array.toList Try.results46) (by kernel_rfl) (by simp) ?_
 simp -implicitDefEqProofs only [go_sem, ↓reduceIte, reduceCtorEq, Nat.reduceAdd, Nat.reduceLT, Nat.reduceEqDiff, Nat.reduceMul, Nat.reduceLeDiff, Nat.reduceSub, eTimes]
 refine callK_e (eqfT_p ha hb hla.1) (by simp -implicitDefEqProofs only [go_sem, ↓reduceIte, reduceCtorEq, Nat.reduceAdd, Nat.reduceLT, Nat.reduceEqDiff, Nat.reduceMul, Nat.reduceLeDiff, Nat.reduceSub]) rfl (fun r h => by subst h; rfl) ?_
 rintro r rfl
 simp -implicitDefEqProofs only [go_sem, ↓reduceIte, reduceCtorEq, Nat.reduceAdd, Nat.reduceLT, Nat.reduceEqDiff, Nat.reduceMul, Nat.reduceLeDiff, Nat.reduceSub]
 rw [times_dec]
 refine ⟨fun h => ?_, fun h => ?_⟩
 ·refine callK_e (eqfB_p ha hb hla.2) (by simp -implicitDefEqProofs only [go_sem, ↓reduceIte, reduceCtorEq, Nat.reduceAdd, Nat.reduceLT, Nat.reduceEqDiff, Nat.reduceMul, Nat.reduceLeDiff, Nat.reduceSub]) rfl (fun r h => by subst h; rfl) ?_
  rintro r rfl
  simp -implicitDefEqProofs only [go_sem, ↓reduceIte, reduceCtorEq, Nat.reduceAdd, Nat.reduceLT, Nat.reduceEqDiff, Nat.reduceMul, Nat.reduceLeDiff, Nat.reduceSub]
 ·exact ⟨h, by rw [decide_eq_false h]; rfl⟩
end Go.Proofs.Ytafhjfkdlmijdaa.Ab
namespace Go.Proofs.Ytafhjfkdlmijdaa.Ab
open Go.RowKit
set_option maxRecDepth 100000
set_option linter.unusedSimpArgs false
set_option maxHeartbeats 2000000
theorem callK_p {P : Program} {pu : Pu} {f : FuncId} {H : List Root} {args args' : List RV} {post : RV → Prop} {K : RV → List Root → Prop} (hp : PCall P f args' post) (ho : okRL H args) (he : frzRL H args = args') (hH : frzHRL H args = H) (hK : ∀ r, post r → K r H) : callK P pu f args H K :=
 callK_f hp ho (by rw [he]; exact eqvRL_refl _) (by rw [hH]; exact hK)
theorem law_of {P : Program} {f : FuncId} {args : List RV} {w : World} {vs : List Value} (h : PCall P f args (fun r => r = .c (.bool true))) (hc : Con0RL (fun b => b < w.heap.size) w args vs) : Calls P f vs.toArray w fun e w' => e = .returned (.bool true) ∧ Below w.heap.size w w' := by
 refine (h.2 _ w vs (fun _ h => h) hc).mono ?_
 rintro e w' ⟨r, v, rho', rfl, rfl, h1, -, h2⟩
 obtain rfl : v = .bool true := h1
 exact ⟨rfl, h2⟩
end Go.Proofs.Ytafhjfkdlmijdaa.Ab
namespace Go.Proofs.Ytafhjfkdlmijdaa.Ab
open Go.RowKit
abbrev eI8 (l : List Int) : AV := .sl l.length 1 (fun i _ => .int .i8 (l.getD i 0))
theorem more_k {H : List Root} {pu : Pu} {kn ks : Nat} {x n what : Int} {l : List Int} (hpu : pu = none ∨ pu = some (some kn)) (r1 : rootAt H kn = .live false 3 1 (.box [.int .i64 n])) (r2 : rootAt H ks = .live false 94 2 (.box [eI8 l, .int .u8 what])) (hne : ks ≠ kn)
  (hl : ∀ v ∈ l, -128 ≤ v ∧ v ≤ 127) (hll : l.length ≤ 9223372036854775807) (hn : 0 ≤ n ∧ n ≤ 1000000000000) (hx : -10000000000000000 ≤ x ∧ x ≤ 10000000000000000) {K : RV → List Root → Prop}
  (hK : K (.c (.int .i64 (x + addAt l n))) (setRoot H kn (.live false 3 1 (.box [.int .i64 (n + 1)])))) :
  callK Try.prog pu 78 [.c (.int .i64 x), .c (.ptr kn 1 0 0), .c (.ptr ks 1 0 0)] H K := by
 refine ⟨⟨_, _, Try.func78, by kernel_rfl, rfl⟩, fun E M w vs h hc => ?_⟩
 obtain ⟨_, _, rfl, c0, v1, _, rfl, c1, v2, _, rfl, c2, rfl⟩ := hc
 obtain rfl := c0
 obtain rfl : v1 = .pointer (some ⟨M.phi kn, 0 * 1 + 0, none⟩) := (c1.2 _ _ _ _ r1).2 rfl
 obtain rfl : v2 = .pointer (some ⟨M.phi ks, 0 * 2 + 0, none⟩) := (c2.2 _ _ _ _ r2).2 rfl
 obtain ⟨cur, a1, a2, a3, a4, a5, a6⟩ := h.row _ _ _ _ _ r1
 obtain ⟨u, u1, -, u2⟩ := a6 0 (Nat.zero_lt_one) 0 (Nat.zero_lt_one)
 obtain rfl : u = .int .i64 n := u2
 have R : _root_.Go.Proofs.Ytafhjfkdlmijdaa.Row w (M.phi kn) 3 [.int .i64 n] := ⟨cur, cur.toList.drop 1, a1, by
  obtain ⟨cl⟩ := cur
  cases cl with
  | nil => simp at u1
  | cons q cl => simp at u1; simp [u1]⟩
 obtain ⟨cur2, b1, b2, b3, b4, b5, b6⟩ := h.row _ _ _ _ _ r2
 obtain ⟨sv, s1, -, s2⟩ := b6 0 (Nat.zero_lt_one) 0 (by decide)
 obtain ⟨a, b, off, c, rfl, g1, g2, g3, g4⟩ : Con0 M.rho w (eI8 l) sv := s2
 have hs : w.cell? ⟨M.phi ks, 0, none⟩ = some (.slice a l.length c) := by
  have : cur2[0]? = some (.slice a l.length c) := s1
  simp [World.cell?, b1, this]
 have hphi : M.phi ks ≠ M.phi kn := fun e => hne (h.inj _ _ _ _ _ _ _ _ r2 r1 e)
 obtain ⟨b', hb1, hb2, hb3⟩ : ∃ b', b' ≠ M.phi kn ∧ (0 < l.length → a = some ⟨b', off, none⟩) ∧ (0 < l.length → b' = b) := by
  by_cases h0 : 0 < l.length
  ·exact ⟨b, fun e => h.thaw _ _ _ _ r1 (e ▸ (g3 h0).2), fun _ => (g3 h0).1, fun _ => rfl⟩
  ·exact ⟨M.phi kn + 1, by omega, fun h => absurd h h0, fun h => absurd h h0⟩
 obtain ⟨w2, q1, q2, q3⟩ := store_ok (P := Try.prog) h r1 (i := 0) (o := 0) (cs := [.int .i64 (n + 1)]) (vs := [.int .i64 (n + 1)]) Nat.zero_lt_one (Nat.le_refl _) (fun v hv => by obtain rfl := List.mem_singleton.1 hv; rfl) rfl (fun j v hv => by
  cases j with
  | zero => cases hv; exact rfl
  | succ j => simp at hv) trivial
 have hw2 : w2 = w.setCell ⟨M.phi kn, 0, none⟩ (.int .i64 (n + 1)) := by
  have c0 := R.cell (j := 0) (by simp)
  have f0 := R.frozen 0
  have := run_storeCells_cells (P := Try.prog) (M.phi kn) 0 [.int .i64 (n + 1)] 0 w (fun j hj => by
   obtain rfl : j = 0 := by simpa using hj
   simp [c0]) (fun j hj => by
   obtain rfl : j = 0 := by simpa using hj
   simpa using f0) (fun v hv => by obtain rfl := List.mem_singleton.1 hv; rfl)
  rw [show (⟨M.phi kn, 0 * 1 + 0, none⟩ : Addr) = ⟨M.phi kn, 0, none⟩ from rfl, this] at q3
  cases q3
  rfl
 subst hw2
 refine (more_c (x := x) R hs hphi hb1 hb2 (fun k hk => ?_) hn hx hll).mono ?_
 ·obtain ⟨u, k1, k2⟩ := g4 k hk 0 (by decide)
  obtain rfl := hb3 (by omega)
  have k2 : u = .int .i8 (l.getD k 0) := k2
  rw [List.getD_eq_getElem?_getD, List.getElem?_eq_getElem hk] at k2
  simp only [Option.getD_some] at k2
  subst k2
  refine ⟨by rw [← k1]; congr 2; omega, hl _ (List.getElem_mem hk)⟩
 ·rintro e w' ⟨rfl, hb⟩
  refine ⟨M, _, .c (.int .i64 (x + addAt l n)), _, rfl, q1.below hb, q2.trans (Kp.below q1 hb), rfl, fun g hg => ?_, by rw [setRoot_len]; exact Nat.le_refl _, hK⟩
  rcases hpu with rfl | rfl
  ·cases hg
  ·cases hg
   refine ⟨Nat.le_trans (by simp [World.setCell]) hb.size, fun k hk hk2 => ?_⟩
   rw [hb.block k (by simpa [World.setCell] using hk)]
   exact Below.heap_setCell _ _ _ _ (fun e => hk2 (by rw [e]; rfl))
end Go.Proofs.Ytafhjfkdlmijdaa.Ab
namespace Go.Proofs.Ytafhjfkdlmijdaa.Ab
open Go.RowKit
abbrev ckI : List CK := [.i .i64]
abbrev ckTb (b : Nat) : List CK := [.s 2 ckI b]
abbrev ckRb (b : Nat) : List CK := [.i .i64, .s 2 ckI b, .i .i64]
abbrev ckT : List CK := ckTb 200000
abbrev ckR : List CK := ckRb 200000
def MovedPost (r : RV) : Prop := ∃ t : TimesD, r = .agg (eTimes t) ∧ (∀ l ∈ t.trucks, ∀ v ∈ l, wf64 v) ∧ (∀ r ∈ t.bikes, wf64 r.out ∧ wf64 r.back ∧ ∀ v ∈ r.starts, wf64 v) ∧ t.trucks.length ≤ 200000 ∧ t.bikes.length ≤ 200000
theorem mkL {α : Type} {n : Nat} {P : Nat → α → Prop} (d : α) (key : ∀ i, i < n → ∃ a, P i a) : ∃ l : List α, l.length = n ∧ ∀ i, i < n → P i (l.getD i d) := by
 refine ⟨(List.range n).map fun i => if h : i < n then (key i h).choose else d, by simp, fun i hi => ?_⟩
 have e : ((List.range n).map fun i => if h : i < n then (key i h).choose else d).getD i d = (key i hi).choose := by
  rw [getD_of (by simpa using hi)]; simp [hi]
 rw [e]; exact (key i hi).choose_spec
theorem rd_int {d : Nat} {x : AV} (h : Rd d (.i .i64) x) : ∃ v, x = .int .i64 v ∧ wf64 v := by
 cases d <;> exact h
theorem rd_ints {x : AV} {b : Nat} (h : Rd 1 (.s 2 ckI b) x) : ∃ l : List Int, (∀ v ∈ l, wf64 v) ∧ Eqv x (eInts l) := by
 obtain ⟨n, f, rfl, -, h2⟩ := h
 obtain ⟨l, hl, h4⟩ := mkL (n := n) (P := fun i v => f i 0 = .int .i64 v ∧ wf64 v) (0 : Int) fun i hi => rd_int (h2 i hi 0 (.i .i64) rfl)
 subst hl
 refine ⟨l, fun v hv => ?_, _, rfl, fun i hi j hj => ?_⟩
 ·obtain ⟨i, hi, rfl⟩ := List.getElem_of_mem hv
  have := (h4 i hi).2
  rwa [getD_of hi] at this
 ·obtain rfl : j = 0 := Nat.lt_one_iff.1 hj
  rw [(h4 i hi).1]; rfl
theorem rd_trucks {n b : Nat} {x : AV} (h : RdS 1 (ckTb b) n x) : ∃ L : List (List Int), L.length = n ∧ (∀ l ∈ L, ∀ v ∈ l, wf64 v) ∧ Eqv x (.sl L.length 1 (fun i _ => eInts (L.getD i []))) := by
 obtain ⟨f, rfl, h2⟩ := h
 obtain ⟨L, hl, h4⟩ := mkL (n := n) (P := fun i l => (∀ v ∈ l, wf64 v) ∧ Eqv (f i 0) (eInts l)) ([] : List Int) fun i hi => rd_ints (h2 i hi 0 _ rfl)
 subst hl
 refine ⟨L, rfl, fun l hm => ?_, _, rfl, fun i hi j hj => ?_⟩
 ·obtain ⟨i, hi, rfl⟩ := List.getElem_of_mem hm
  have := (h4 i hi).1
  rwa [getD_of hi] at this
 ·obtain rfl : j = 0 := Nat.lt_one_iff.1 hj
  exact (h4 i hi).2
theorem rd_rides {n b : Nat} {x : AV} (h : RdS 1 (ckRb b) n x) : ∃ L : List RideD, L.length = n ∧ (∀ r ∈ L, wf64 r.out ∧ wf64 r.back ∧ ∀ v ∈ r.starts, wf64 v) ∧ Eqv x (.sl L.length 3 (fun i => ix3 (I6 (L.getD i ⟨0, [], 0⟩).out) (eInts (L.getD i ⟨0, [], 0⟩).starts) (I6 (L.getD i ⟨0, [], 0⟩).back))) := by
 obtain ⟨f, rfl, h2⟩ := h
 obtain ⟨L, hl, h4⟩ := mkL (n := n) (P := fun i (r : RideD) => (wf64 r.out ∧ wf64 r.back ∧ ∀ v ∈ r.starts, wf64 v) ∧ f i 0 = I6 r.out ∧ Eqv (f i 1) (eInts r.starts) ∧ f i 2 = I6 r.back) (⟨0, [], 0⟩ : RideD) fun i hi => by
  obtain ⟨a, a1, a2⟩ := rd_int (h2 i hi 0 (.i .i64) rfl)
  obtain ⟨l, l1, l2⟩ := rd_ints (h2 i hi 1 _ rfl)
  obtain ⟨c, c1, c2⟩ := rd_int (h2 i hi 2 (.i .i64) rfl)
  exact ⟨⟨a, l, c⟩, ⟨a2, c2, l1⟩, a1, l2, c1⟩
 subst hl
 refine ⟨L, rfl, fun l hm => ?_, _, rfl, fun i hi j hj => ?_⟩
 ·obtain ⟨i, hi, rfl⟩ := List.getElem_of_mem hm
  have := (h4 i hi).1
  rwa [getD_of hi] at this
 ·obtain ⟨-, k1, k2, k3⟩ := h4 i hi
  match j, hj with
  | 0, _ => rw [k1]; rfl
  | 1, _ => exact k2
  | 2, _ => rw [k3]; rfl
theorem fin_mv {k : Nat} {a b : AV} {H : List Root} (ha : a = .nils ∨ ∃ n, n ≤ 200000 ∧ a = .ws 34 (ckTb k) n) (hb : b = .nils ∨ ∃ n, n ≤ 200000 ∧ b = .ws 85 (ckRb k) n) : finW 1 MovedPost (.agg [a, b]) H := by
 refine ⟨[a, b], rfl, ?_, ?_⟩
 ·rcases ha with rfl | ⟨n, -, rfl⟩ <;> rcases hb with rfl | ⟨m, -, rfl⟩ <;> rfl
 ·rintro l' ⟨x, _, rfl, hx, y, _, rfl, hy, rfl⟩
  have h1 : ∃ L : List (List Int), L.length ≤ 200000 ∧ (∀ l ∈ L, ∀ v ∈ l, wf64 v) ∧ Eqv x (.sl L.length 1 (fun i _ => eInts (L.getD i []))) := by
   rcases ha with rfl | ⟨n, hn, rfl⟩
   ·obtain rfl : x = .nils := hx
    exact ⟨[], Nat.zero_le _, fun l h => (by cases h), .inr ⟨1, _, rfl⟩⟩
   ·obtain ⟨L, l1, l2, l3⟩ := rd_trucks hx
    exact ⟨L, by omega, l2, l3⟩
  have h2 : ∃ L : List RideD, L.length ≤ 200000 ∧ (∀ r ∈ L, wf64 r.out ∧ wf64 r.back ∧ ∀ v ∈ r.starts, wf64 v) ∧ Eqv y (.sl L.length 3 (fun i => ix3 (I6 (L.getD i ⟨0, [], 0⟩).out) (eInts (L.getD i ⟨0, [], 0⟩).starts) (I6 (L.getD i ⟨0, [], 0⟩).back))) := by
   rcases hb with rfl | ⟨n, hn, rfl⟩
   ·obtain rfl : y = .nils := hy
    exact ⟨[], Nat.zero_le _, fun l h => (by cases h), .inr ⟨3, _, rfl⟩⟩
   ·obtain ⟨L, l1, l2, l3⟩ := rd_rides hy
    exact ⟨L, by omega, l2, l3⟩
  obtain ⟨L, l1, l2, l3⟩ := h1
  obtain ⟨B, b1, b2, b3⟩ := h2
  exact ⟨eTimes ⟨L, B⟩, ⟨_, _, rfl, .inr l3, _, _, rfl, .inr b3, rfl⟩, ⟨L, B⟩, rfl, l2, b2, l1, b1⟩
end Go.Proofs.Ytafhjfkdlmijdaa.Ab
namespace Go.Proofs.Ytafhjfkdlmijdaa.Ab
open Go.RowKit
def upK : CK → CK
 | .i k => .i k
 | .s t ck b => .s t (upKs ck) (b + 1)
where upKs : List CK → List CK
 | [] => []
 | q :: l => upK q :: upKs l
def upA : AV → AV
 | .ws t ck n => .ws t (upK.upKs ck) n
 | .wu t ck b => .wu t (upK.upKs ck) b
 | .wp t ck o => .wp t (upK.upKs ck) o
 | x => x
def upL : List AV → List AV
 | [] => []
 | x :: l => upA x :: upL l
mutual
def upR : RV → RV
 | .c a => .c (upA a)
 | .agg l => .agg (upL l)
 | .fn f l => .fn f (upL l)
 | .tup l => .tup (upRL l)
def upRL : List RV → List RV
 | [] => []
 | x :: l => upR x :: upRL l
end
def upW : Row → Row
 | .box l => .box (upL l)
 | r => r
def upRoot : Root → Root
 | .live fz t sz r => .live fz t sz (upW r)
 | .dead => .dead
def upH : List Root → List Root
 | [] => []
 | r :: l => upRoot r :: upH l
def upT : Tm → Tm
 | [] => []
 | (k, g, v) :: l => (k, g, upR v) :: upT l
def upM (M : Mp) : Mp := ⟨M.phi, M.rho, fun b => (M.tau b).map fun q => (q.1, upK.upKs q.2)⟩
section
variable {P : Program} {E : Env} {nt : Nat} {M : Mp} {H : List Root} {σ : AS} {a : Act} {w : World}
theorem upKs_len : ∀ l : List CK, (upK.upKs l).length = l.length
 | [] => rfl
 | _ :: l => by simp [upK.upKs, upKs_len l]
theorem upKs_at : ∀ (l : List CK) (j : Nat) (q : CK), (upK.upKs l)[j]? = some q → ∃ q0, l[j]? = some q0 ∧ q = upK q0
 | [], j, q, h => by simp [upK.upKs] at h
 | x :: l, 0, q, h => ⟨x, rfl, by simpa [upK.upKs] using h.symm⟩
 | x :: l, j + 1, q, h => by simpa using upKs_at l j q (by simpa [upK.upKs] using h)
theorem upM_tau {b : Nat} {t : TypeId} {ck : List CK} (h : M.tau b = some (t, ck)) : (upM M).tau b = some (t, upK.upKs ck) := by
 show (M.tau b).map _ = _
 rw [h]; rfl
theorem upM_inv {b : Nat} {q : TypeId × List CK} (h : (upM M).tau b = some q) : ∃ q0, M.tau b = some q0 ∧ q = (q0.1, upK.upKs q0.2) := by
 have h : (M.tau b).map _ = some q := h
 cases hq : M.tau b with
 | none => rw [hq] at h; cases h
 | some q0 => rw [hq] at h; exact ⟨q0, rfl, (Option.some.inj h).symm⟩
theorem WSl.up {t : TypeId} {ck : List CK} {n : Nat} {v : Value} (h : WSl M w t ck n v) : WSl (upM M) w t (upK.upKs ck) n v := by
 obtain ⟨x, c, rfl, h1, h2, h3, h4⟩ := h
 refine ⟨x, c, rfl, h1, h2, h3, fun ad e => ?_⟩
 obtain ⟨b, cur, e, g1, g2, g3⟩ := h4 ad e
 exact ⟨b, cur, e, upM_tau g1, g2, by rw [upKs_len]; exact g3⟩
theorem CkOk.up {q : CK} {v : Value} (h : CkOk M w q v) : CkOk (upM M) w (upK q) v := by
 cases q with
 | i k => exact h
 | s t ck b => obtain ⟨n, h1, h2⟩ := h; exact ⟨n, by omega, h2.up⟩
theorem up_live {id : Nat} {fz : Bool} {t : TypeId} {sz : Nat} {r : Row} : ∀ {H : List Root}, rootAt (upH H) id = .live fz t sz r → ∃ r0, rootAt H id = .live fz t sz r0 ∧ r = upW r0 := by
 intro H
 induction H generalizing id with
 | nil => intro h; cases h
 | cons x l ih =>
  cases id with
  | zero =>
   intro h
   cases x with
   | dead => cases h
   | live fz' t' sz' r' => cases h; exact ⟨r', rfl, rfl⟩
  | succ id => exact fun h => ih h
theorem upH_len : ∀ H : List Root, (upH H).length = H.length
 | [] => rfl
 | _ :: l => by simp [upH, upH_len l]
theorem upW_len (r : Row) : (upW r).len = r.len := by cases r <;> rfl
theorem upW_box (r : Row) : (upW r).isBox = r.isBox := by cases r <;> rfl
theorem nth_up : ∀ (l : List AV) (o : Nat), nth (upL l) o = upA (nth l o)
 | [], _ => rfl
 | _ :: _, 0 => rfl
 | _ :: l, o + 1 => by simp only [upL, nth]; exact nth_up l o
theorem Con.up {x : AV} {v : Value} (h : Con M H w x v) : Con (upM M) (upH H) w (upA x) v := by
 cases x with
 | ptr id n i o =>
  refine ⟨⟨by rw [upH_len]; exact h.1.1, h.1.2⟩, fun fz t sz r hr => ?_⟩
  obtain ⟨r0, k1, rfl⟩ := up_live hr
  rw [upW_len]
  exact h.2 _ _ _ _ k1
 | h id st len =>
  refine ⟨⟨by rw [upH_len]; exact h.1.1, h.1.2⟩, fun fz t sz r hr => ?_⟩
  obtain ⟨r0, k1, rfl⟩ := up_live hr
  rw [upW_len]
  exact h.2 _ _ _ _ k1
 | ws t ck n => exact WSl.up h
 | wu t ck b => obtain ⟨n, hb, h⟩ := h; exact ⟨n, hb, WSl.up h⟩
 | wp t ck o =>
  obtain ⟨b, cur, i, rfl, h1, h2, h3⟩ := h
  exact ⟨b, cur, i, by rw [upKs_len], upM_tau h1, h2, by rw [upKs_len]; exact h3⟩
 | junk => trivial
 | _ => exact h
theorem ConL.up : ∀ {l : List AV} {vs : List Value}, ConL M H w l vs → ConL (upM M) (upH H) w (upL l) vs
 | [], _, h => h
 | _ :: _, _, ⟨v, r, e, h1, h2⟩ => ⟨v, r, e, h1.up, ConL.up h2⟩
mutual
theorem ConR.up : ∀ {x : RV} {v : Value}, ConR M H w x v → ConR (upM M) (upH H) w (upR x) v
 | .c _, _, h => Con.up h
 | .agg _, _, ⟨vs, e, h⟩ => ⟨vs, e, ConL.up h⟩
 | .fn _ _, _, ⟨vs, e, h⟩ => ⟨vs, e, ConL.up h⟩
 | .tup _, _, ⟨vs, e, h⟩ => ⟨vs, e, ConRL.up h⟩
theorem ConRL.up : ∀ {x : List RV} {vs : List Value}, ConRL M H w x vs → ConRL (upM M) (upH H) w (upRL x) vs
 | [], _, h => h
 | _ :: _, _, ⟨v, r, e, h1, h2⟩ => ⟨v, r, e, ConR.up h1, ConRL.up h2⟩
end
theorem Rel.up (h : Rel E M H w) : Rel E (upM M) (upH H) w := by
 refine ⟨h.bel, fun id fz t sz r hr => ?_, fun id fz t sz r hr => ?_, fun id t sz r hr => ?_, fun id t sz r hr => ?_, fun i j t s r t' s' r' hi hj he => ?_, h.rlt, h.src, ⟨fun b q hq => ?_, fun b q id fz t sz r hq hr => ?_, fun b t ck hq => ?_⟩⟩
 ·obtain ⟨r0, k1, rfl⟩ := up_live hr; exact h.low _ _ _ _ _ k1
 ·obtain ⟨r0, k1, rfl⟩ := up_live hr
  obtain ⟨cur, c1, c2, c3, c4, c5, c6⟩ := h.row _ _ _ _ _ k1
  refine ⟨cur, c1, c2, by rw [upW_len]; exact c3, c4, by rw [upW_box]; exact c5, fun i hi o ho2 => ?_⟩
  rw [upW_len] at hi
  obtain ⟨v, q1, q2, q3⟩ := c6 i hi o ho2
  refine ⟨v, q1, q2, ?_⟩
  unfold RCon at q3 ⊢
  rw [upW_box]
  cases r0 with
  | box l =>
   simp only [Row.isBox, if_true] at q3 ⊢
   show Con _ _ w (nth (upL l) o) v
   rw [nth_up]
   exact q3.up
  | _ => exact q3
 ·obtain ⟨r0, k1, rfl⟩ := up_live hr; exact h.froz _ _ _ _ k1
 ·obtain ⟨r0, k1, rfl⟩ := up_live hr; exact h.thaw _ _ _ _ k1
 ·obtain ⟨r0, k1, rfl⟩ := up_live hi
  obtain ⟨r1, k2, rfl⟩ := up_live hj
  exact h.inj _ _ _ _ _ _ _ _ k1 k2 he
 ·obtain ⟨q0, k1, rfl⟩ := upM_inv hq; exact h.tau.new b q0 k1
 ·obtain ⟨q0, k1, rfl⟩ := upM_inv hq
  obtain ⟨r0, k2, rfl⟩ := up_live hr
  exact h.tau.row _ _ _ _ _ _ _ k1 k2
 ·obtain ⟨q0, k1, e⟩ := upM_inv hq
  cases e
  obtain ⟨cur, c1, c2, c3, c4⟩ := h.tau.cells b q0.1 q0.2 k1
  refine ⟨cur, c1, by rw [upKs_len]; exact c2, by rw [upKs_len]; exact c3, fun k hk => ?_⟩
  obtain ⟨v, v1, v2⟩ := c4 k hk
  refine ⟨v, v1, fun q hq2 => ?_⟩
  rw [upKs_len] at hq2
  obtain ⟨q1, k3, rfl⟩ := upKs_at _ _ _ hq2
  exact (v2 _ k3).up
theorem upT_lk : ∀ (tm : Tm) (t : Nat), lk (upT tm) t = ((lk tm t).1, upR (lk tm t).2)
 | [], _ => rfl
 | (k, g, v) :: l, t => by
  simp only [upT, lk]
  split
  ·rfl
  ·exact upT_lk l t
def upS (σ : AS) : AS := ⟨upT σ.tm, upH σ.H⟩
theorem St.up (h : St E nt M σ a w) : St E nt (upM M) (upS σ) a w := by
 refine ⟨h.rel.up, fun t ht => ?_, fun t ht => ?_, h.sz, h.df⟩
 ·have ht : (lk (upT σ.tm) t).1 = true := ht
  show ConR _ _ w (lk (upT σ.tm) t).2 _
  rw [upT_lk] at ht ⊢
  exact (h.tms t ht).up
 ·have ht : (lk (upT σ.tm) t).1 = false := ht
  rw [upT_lk] at ht
  exact h.off t ht
end
inductive Tr where
 | d (u : Bool)
 | no
 | br (w : Bool) (i : Nat) (t r : Tr)
inductive Pl where
 | a
 | s (p q : Pl)
 | c (p q : Pl)
 | b (p : Pl)
 | k (ks : List Nat) (p q : Pl)
 | t (lq : List Nat) (T : Tr) (r fins : List Nat)
def upIf : Bool → AS → AS
 | true, σ => upS σ
 | false, σ => σ
def keepS (ks : List Nat) (σ : AS) : AS := ⟨fxT σ.tm ks, σ.H⟩
def puT : Bool → Pu
 | true => none
 | false => some none
section
variable (P : Program) (ty : Ty)
def awpT (ops : Array Oper) (r : List Nat) : Tr → (AS → Prop) → AS → Prop
 | .d u, K, σ => awpL P ty r.length none ops (pick ops r) K (upIf u σ)
 | .no, _, _ => True
 | .br w i t q, K, σ => awpO P ty (puT w) none ops σ (ops.getD i default) (awpT ops r t K) ∧ awpT ops r q K σ
def awpQ (ops : Array Oper) (T : Tr) (r : List Nat) : List Oper → (AS → Prop) → AS → Prop
 | [], K, σ => awpT P ty ops r T K σ
 | o :: l, K, σ => awpO P ty (some none) none ops σ o (awpQ ops T r l K)
def awpD (ord : Nat → List Nat × Nat × Option Nat) : Pl → Code → (Exit → AS → Prop) → AS → Prop
 | .a, c, Q, σ => awp P ty ord c Q σ
 | .s p q, .seq x y, Q, σ => awpD ord p x (thenK (awpD ord q y Q) Q) σ
 | .c p q, .cond x y z, Q, σ => condK (σ.rd x) (awpD ord p y Q σ) (awpD ord q z Q σ)
 | .b p, .block id x, Q, σ => awpD ord p x (inB id Q) σ
 | .k ks p q, .seq x y, Q, σ => ∃ R : AS → Prop, awpD ord p x (thenK (fun σ' => R (keepS ks σ')) Q) σ ∧ ∀ σ', R σ' → awpD ord q y Q σ'
 | .t lq T r _, .region _ ops true, Q, σ => awpQ P ty ops T r (pick ops lq) (Q .normal) σ
 | _, _, _, _ => False
end
def covR (ops : Array Oper) (fins : List Nat) : List Nat → Array Bool → Bool
 | [], listed => (Region.ready .any ops listed).isEmpty
 | i :: r, listed => decide (Region.ready .any ops listed = [i]) && decide (i < ops.size) && fins.contains i && covR ops fins r (listed.setIfInBounds i true)
def notD : Tr → Bool
 | .d _ => false
 | _ => true
def covT (ops : Array Oper) (fins r : List Nat) : Tr → Nat → Bool → List Nat → Array Bool → Bool
 | .d _, n, _, _, l => decide (r.length = n) && covR ops fins r l
 | .no, n, _, al, l => decide (0 < n) && decide (Region.ready .any ops l ≠ []) && (Region.ready .any ops l).all (al.contains ·)
 | .br w i t q, n, dy, al, l => decide (i < ops.size) && (!w || dy || fins.contains i) && notD q && covT ops fins r t (n - 1) (dy || w) [] (l.setIfInBounds i true) && covT ops fins r q n dy (i :: al) l
def okT2 (nt : Nat) (ops : Array Oper) (lq : List Nat) (T : Tr) (r : List Nat) (fins : List Nat) : Bool :=
 dstOk nt ops && Region.noSelect ops && decide (lq.length ≤ ops.size) && lq.all (fun i => decide (i < ops.size) && isV (ops.getD i default).op) && match quietB .any ops fins lq (Array.replicate ops.size false) with
  | some listed => covT ops fins r T (ops.size - lq.length) false [] listed
  | none => false
def okD (nt : Nat) (ord : Nat → List Nat × Nat × Option Nat) : Pl → Code → Bool
 | .a, c => okC nt ord c
 | .s p q, .seq x y => okD nt ord p x && okD nt ord q y
 | .c p q, .cond _ x y => okD nt ord p x && okD nt ord q y
 | .b p, .block _ x => okD nt ord p x
 | .k _ p q, .seq x y => okD nt ord p x && okD nt ord q y
 | .t lq T r fins, .region _ ops true => okT2 nt ops lq T r fins
 | _, _ => false
section
variable {P : Program} {ty : Ty} {E : Env} {nt : Nat} {M : Mp} {σ : AS} {a : Act} {w w0 : World} {ops : Array Oper} {K : AS → Prop} {Q : Exit → Act → World → Prop} {fins r : List Nat}
theorem wpOp_if {i : Nat} {Kn : Act → World → Prop} (hi : i < ops.size) (h : if Region.wanted (ops.getD i default) (yielded ops a.tmps) then (ops.getD i default).wp P a w Kn Q else Kn (a.put (ops.getD i default).dst undef) w) : wpOp P ops Q i Kn a w := by
 have ho : ops[i]? = some (ops.getD i default) := by simp [Array.getD, hi]
 unfold wpOp
 rw [ho]
 show if Region.wanted (ops.getD i default) (yielded ops a.tmps) then _ ∨ _ else _
 by_cases hw : Region.wanted (ops.getD i default) (yielded ops a.tmps) = true
 ·rw [if_pos hw] at h ⊢; exact .inl h
 ·rw [if_neg hw] at h ⊢; exact h
theorem dst_at (hd : dstOk nt ops = true) {i : Nat} (hi : i < ops.size) : ∀ t, (ops.getD i default).dst = some t → t < nt :=
 dstOk_spec hd _ (by simp [Array.getD, hi])
theorem St.upIf (h : St E nt M σ a w) : ∀ u : Bool, ∃ M', St E nt M' (upIf u σ) a w
 | true => ⟨_, h.up⟩
 | false => ⟨_, h⟩
theorem St.keepS (h : St E nt M σ a w) (ks : List Nat) : St E nt M (keepS ks σ) a w := by
 refine ⟨h.rel, fun t ht => ?_, fun t ht => ?_, h.sz, h.df⟩
 ·have ht : (lk (fxT σ.tm ks) t).1 = true := ht
  show ConR M σ.H w (lk (fxT σ.tm ks) t).2 _
  rcases lk_fxT σ.tm ks t with ⟨-, e⟩ | ⟨-, e⟩
  ·rw [e] at ht ⊢; exact h.tms t ht
  ·rw [e]; trivial
 ·have ht : (lk (fxT σ.tm ks) t).1 = false := ht
  rcases lk_fxT σ.tm ks t with ⟨-, e⟩ | ⟨-, e⟩
  ·rw [e] at ht; exact h.off t ht
  ·rw [e] at ht; cases ht
theorem chain_ok (hT : TyOk P ty) (hd : dstOk nt ops = true) (hQ : ∀ M σ a w, St E nt M σ a w → K σ → Q .normal a w) {nf : Nat} : ∀ (r : List Nat) {M : Mp} {σ : AS} {a : Act} {w : World} {l : Array Bool}, St E nt M σ a w → awpL P ty nf none ops (pick ops r) K σ → covR ops fins r l = true → wpAny P .any ops Q r.length l a w
 | [], M, σ, a, w, l, h, hw, hc => ⟨by simpa [covR] using hc, hQ _ _ _ _ h hw⟩
 | i :: r, M, σ, a, w, l, h, hw, hc => by
  simp only [covR, Bool.and_eq_true, decide_eq_true_eq] at hc
  obtain ⟨⟨⟨h1, h2⟩, h3⟩, h4⟩ := hc
  refine ⟨fun h0 => (by rw [h1] at h0; cases h0), fun j hj => ?_⟩
  rw [h1, List.mem_singleton] at hj
  subst hj
  exact wpOp_if h2 (op_ok hT h (dst_at hd h2) (show awpO P ty _ none ops σ (ops.getD j default) (awpL P ty nf none ops (pick ops r) K) from hw) fun M' σ' a' w' q1 _ _ q4 => chain_ok hT hd hQ r q1 q4 h4)
def treeK (P : Program) (ops : Array Oper) (Q : Exit → Act → World → Prop) (fins : List Nat) (w0 : World) (dy : Bool) (n : Nat) (l : Array Bool) (a : Act) (w : World) : Prop :=
 if dy then wpAny P .any ops Q n l a w else wpAnyF P .any ops Q (OldD none w0) fins n l a w
theorem tree_ok (hT : TyOk P ty) (hd : dstOk nt ops = true) (hQ : ∀ M σ a w, St E nt M σ a w → K σ → Q .normal a w) : ∀ (T : Tr) {n : Nat} {dy : Bool} {al : List Nat} {l : Array Bool} {M : Mp} {σ : AS} {a : Act} {w : World}, St E nt M σ a w → covT ops fins r T n dy al l = true → awpT P ty ops r T K σ → (dy = false → OldD none w0 w) →
  ((∃ u, T = .d u) ∧ treeK P ops Q fins w0 dy n l a w) ∨ ((0 < n ∧ Region.ready .any ops l ≠ []) ∧ ∀ m, n = m + 1 → ∀ i ∈ Region.ready .any ops l, i ∈ al ∨ wpOp P ops Q i (fun a' w' => if dy then wpAny P .any ops Q m (l.setIfInBounds i true) a' w' else (i ∈ fins ∧ wpAny P .any ops Q m (l.setIfInBounds i true) a' w') ∨ (OldD none w0 w' ∧ wpAnyF P .any ops Q (OldD none w0) fins m (l.setIfInBounds i true) a' w')) a w)
 | .d u, n, dy, al, l, M, σ, a, w, h, hc, hw, ho => by
  obtain ⟨M, h⟩ := h.upIf u
  simp only [covT, Bool.and_eq_true, decide_eq_true_eq] at hc
  obtain ⟨rfl, hc⟩ := hc
  refine .inl ⟨⟨u, rfl⟩, ?_⟩
  unfold treeK
  split
  ·exact chain_ok hT hd hQ r h hw hc
  ·cases r with
   | nil => exact ⟨by simpa [covR] using hc, hQ _ _ _ _ h hw⟩
   | cons i r =>
    simp only [covR, Bool.and_eq_true, decide_eq_true_eq] at hc
    obtain ⟨⟨⟨h1, h2⟩, h3⟩, h4⟩ := hc
    refine ⟨fun h0 => (by rw [h1] at h0; cases h0), fun j hj => ?_⟩
    rw [h1, List.mem_singleton] at hj
    subst hj
    exact wpOp_if h2 (op_ok hT h (dst_at hd h2) (show awpO P ty _ none ops (upIf u σ) (ops.getD j default) (awpL P ty (j :: r).length none ops (pick ops r) K) from hw) fun M' σ' a' w' q1 _ _ q4 => .inl ⟨by simpa using h3, chain_ok hT hd hQ r q1 q4 h4⟩)
 | .no, n, dy, al, l, M, σ, a, w, h, hc, hw, ho => by
  simp only [covT, Bool.and_eq_true, decide_eq_true_eq, List.all_eq_true] at hc
  exact .inr ⟨hc.1, fun m _ i hi => .inl (by simpa using hc.2 i hi)⟩
 | .br wr i t q, n, dy, al, l, M, σ, a, w, h, hc, hw, ho => by
  simp only [covT, Bool.and_eq_true, decide_eq_true_eq] at hc
  obtain ⟨⟨⟨⟨h1, h2⟩, h3⟩, h4⟩, h5⟩ := hc
  rcases tree_ok hT hd hQ q h h5 hw.2 ho with ⟨⟨u, e⟩, -⟩ | ⟨k1, k2⟩
  ·subst e
   cases h3
  ·refine .inr ⟨k1, fun m hm j hj => ?_⟩
   rcases k2 m hm j hj with hj2 | hj2
   ·rcases List.mem_cons.1 hj2 with rfl | hj2
    ·refine .inr (wpOp_if h1 (op_ok hT h (dst_at hd h1) hw.1 fun M' σ' a' w' q1 q2 _ q4 => ?_))
     have hold : dy = false → wr = false → OldD none w0 w' := fun e1 e2 => by subst e2; exact (ho e1).step (q2 none rfl)
     have ih := tree_ok hT hd hQ t q1 h4 q4 (fun e => by
      rw [Bool.or_eq_false_iff] at e
      exact hold e.1 e.2)
     have ih2 : treeK P ops Q fins w0 (dy || wr) m (l.setIfInBounds j true) a' w' := by
      have e : n - 1 = m := by omega
      rw [e] at ih
      rcases ih with ⟨-, ih⟩ | ⟨⟨g0, g1⟩, g2⟩
      ·exact ih
      ·unfold treeK
       cases m with
       | zero => omega
       | succ m =>
        split
        ·rename_i hdy
         refine ⟨fun h0 => absurd h0 g1, fun i hi => ?_⟩
         have := (g2 m rfl i hi).resolve_left (by simp)
         rw [hdy] at this
         simpa using this
        ·rename_i hdy
         refine ⟨fun h0 => absurd h0 g1, fun i hi => ?_⟩
         have := (g2 m rfl i hi).resolve_left (by simp)
         rw [Bool.eq_false_iff.2 hdy] at this
         simpa using this
     unfold treeK at ih2
     cases dy with
     | true => simpa using ih2
     | false =>
      cases wr with
      | true => exact .inl ⟨by simpa using h2, by simpa using ih2⟩
      | false => exact .inr ⟨hold rfl rfl, by simpa using ih2⟩
    ·exact .inl hj2
   ·exact .inr hj2
theorem quietT_ok (hT : TyOk P ty) (hd : dstOk nt ops = true) {T : Tr} : ∀ (lq : List Nat) {M : Mp} {σ : AS} {a : Act}, St E nt M σ a w → (∀ i ∈ lq, i < ops.size ∧ isV (ops.getD i default).op = true) → awpQ P ty ops T r (pick ops lq) K σ →
  wpQuiet P ops (fun w' => ∃ e : At (OldD none w), w' = e.val) (fun a' => ∃ M' σ', St E nt M' σ' a' w ∧ awpT P ty ops r T K σ') (lq.map fun j => ops.getD j default) a
 | [], M, σ, a, h, _, hw => ⟨M, σ, h, hw⟩
 | i :: lq, M, σ, a, h, hl, hw => by
  obtain ⟨h1, h2⟩ := hl i (List.mem_cons_self ..)
  have hw' : awpV ty (guardOf σ.tm ops (ops.getD i default).guard) none σ (ops.getD i default) (awpQ P ty ops T r (pick ops lq) K) := by
   have : awpO P ty _ none ops σ (ops.getD i default) _ := hw
   unfold awpO at this
   rw [if_pos h2] at this
   exact this
  obtain ⟨σ', v, k1, k2, k3, k4, k5⟩ := val_okD hT h h2 (dst_at hd h1) hw'
  have ih := quietT_ok hT hd lq k3 (fun j hj => hl j (List.mem_cons_of_mem _ hj)) k1
  simp only [List.map_cons]
  unfold wpQuiet
  by_cases hwt : Region.wanted (ops.getD i default) (yielded ops a.tmps) = true
  ·rw [if_pos hwt]
   refine ⟨v, ?_, ih⟩
   rintro w1 ⟨e, rfl⟩
   unfold Oper.quietAt
   rw [k4 hwt e.val e.ok]
   exact ⟨rfl, rfl⟩
  ·rw [if_neg hwt]
   rw [k5 (by simpa using hwt)] at ih
   exact ih
theorem regT_ok (hT : TyOk P ty) (hm : P.follows .mixedOrders = true) {id : Nat} {lq : List Nat} {T : Tr} (hB : okT2 nt ops lq T r fins = true) (h : St E nt M σ a w) (hw : awpQ P ty ops T r (pick ops lq) K σ) (hQ : ∀ M σ a w, St E nt M σ a w → K σ → Q .normal a w) (hQp : ∀ c a w, ¬ Q (.panic c) a w) : (Code.region id ops true).wp P Q a w := by
 unfold okT2 at hB
 simp only [Bool.and_eq_true, decide_eq_true_eq, List.all_eq_true] at hB
 obtain ⟨⟨⟨⟨b1, b2⟩, b3⟩, b4⟩, b5⟩ := hB
 split at b5
 case h_2 => cases b5
 rename_i listed hq
 have hb : Below w.heap.size w w.drew := (Below.refl _ _).drew
 have h2 : St E nt M σ a w.drew := ⟨h.rel.below hb, fun t ht => (Kp.below h.rel hb).R (h.tms t ht), h.off, h.sz, h.df⟩
 refine wp_region_any hm (wpAny_of_F (S := OldD none w.drew) (fins := fins) _ _ _ _ ?_)
 rw [show ops.size = lq.length + (ops.size - lq.length) by omega]
 refine quiet_run b2 (fun c a d v w hh => (hQp _ _ _ hh).elim) (OldD.refl _ _) lq _ listed a (fun j oj _ hl => by rw [getD_replicate_false] at hl; cases hl) (by rw [show lq.length + (ops.size - lq.length) = ops.size by omega]; exact hq) (quietT_ok hT b1 lq h2 b4 hw) fun a' _ ⟨M', σ', q1, q2⟩ => ?_
 rcases tree_ok (w0 := w.drew) hT b1 hQ T q1 b5 q2 (fun _ => OldD.refl _ _) with ⟨-, h⟩ | ⟨⟨g0, g1⟩, g2⟩
 ·exact h
 ·obtain ⟨m, hm⟩ : ∃ m, ops.size - lq.length = m + 1 := ⟨ops.size - lq.length - 1, by omega⟩
  rw [hm]
  exact ⟨fun h0 => absurd h0 g1, fun i hi => (g2 m hm i hi).resolve_left (by simp)⟩
theorem awpD_ok (hT : TyOk P ty) (hm : P.follows .mixedOrders = true) {ord : Nat → List Nat × Nat × Option Nat} : ∀ (p : Pl) (c : Code), okD nt ord p c = true → ∀ {Q : Exit → AS → Prop} {M : Mp} {σ : AS} {a : Act} {w : World}, St E nt M σ a w → awpD P ty ord p c Q σ →
  c.wp P (fun e a' w' => (∀ ch, e ≠ .panic ch) ∧ ∃ M' σ', St E nt M' σ' a' w' ∧ Q e σ') a w
 | .a, c, hc, Q, M, σ, a, w, h, hw => wp_mono (awp_ok hT hm c hc h hw) fun e a1 w1 ⟨hp, M1, σ1, q1, q2, q3⟩ => ⟨hp, M1, σ1, q1, q3⟩
 | .s p q, c, hc, Q, M, σ, a, w, h, hw => by
  cases c with
  | seq x y =>
   simp only [okD, Bool.and_eq_true] at hc
   refine wp_seq (wp_mono (awpD_ok hT hm p x hc.1 h (Q := thenK (awpD P ty ord q y Q) Q) hw) fun e a1 w1 ⟨hp, M1, σ1, q1, q3⟩ => ?_)
   cases e with
   | normal => exact awpD_ok hT hm q y hc.2 q1 q3
   | panic ch => exact absurd rfl (hp ch)
   | exit id => exact ⟨hp, M1, σ1, q1, q3⟩
   | goto l => exact ⟨hp, M1, σ1, q1, q3⟩
   | ret => exact ⟨hp, M1, σ1, q1, q3⟩
   | outgrown => exact ⟨hp, M1, σ1, q1, q3⟩
  | _ => exact Bool.noConfusion hc
 | .c p q, c, hc, Q, M, σ, a, w, h, hw => by
  cases c with
  | cond x y z =>
   simp only [okD, Bool.and_eq_true] at hc
   have hw' : condK (σ.rd x) (awpD P ty ord p y Q σ) (awpD P ty ord q z Q σ) := hw
   unfold condK at hw'
   split at hw'
   ·rename_i b hb
    have hv := h.rd (x := x) (by rw [hb])
    rw [hb] at hv
    have hv' : a.eval x = .bool b := hv
    refine wp_cond hv' ?_
    cases b with
    | true => exact awpD_ok hT hm p y hc.1 h (hw'.1 rfl)
    | false => exact awpD_ok hT hm q z hc.2 h (hw'.2 rfl)
   ·exact hw'.elim
  | _ => exact Bool.noConfusion hc
 | .b p, c, hc, Q, M, σ, a, w, h, hw => by
  cases c with
  | block id x =>
   refine wp_block (wp_mono (awpD_ok hT hm p x hc h (Q := inB id Q) hw) fun e a1 w1 ⟨hp, M1, σ1, q1, q3⟩ => ?_)
   cases e with
   | exit j =>
    simp only [Exit.inBlock]
    simp only [inB] at q3
    split
    ·rename_i e; rw [if_pos e] at q3; exact ⟨fun _ e => (by cases e), M1, σ1, q1, q3⟩
    ·rename_i e; rw [if_neg e] at q3; exact ⟨hp, M1, σ1, q1, q3⟩
   | normal => exact ⟨hp, M1, σ1, q1, q3⟩
   | panic ch => exact absurd rfl (hp ch)
   | goto l => exact ⟨hp, M1, σ1, q1, q3⟩
   | ret => exact ⟨hp, M1, σ1, q1, q3⟩
   | outgrown => exact ⟨hp, M1, σ1, q1, q3⟩
  | _ => exact Bool.noConfusion hc
 | .k ks p q, c, hc, Q, M, σ, a, w, h, hw => by
  cases c with
  | seq x y =>
   simp only [okD, Bool.and_eq_true] at hc
   obtain ⟨R, h1, h2⟩ := hw
   refine wp_seq (wp_mono (awpD_ok hT hm p x hc.1 h h1) fun e a1 w1 ⟨hp, M1, σ1, q1, q3⟩ => ?_)
   cases e with
   | normal => exact awpD_ok hT hm q y hc.2 (q1.keepS ks) (h2 _ q3)
   | panic ch => exact absurd rfl (hp ch)
   | exit id => exact ⟨hp, M1, σ1, q1, q3⟩
   | goto l => exact ⟨hp, M1, σ1, q1, q3⟩
   | ret => exact ⟨hp, M1, σ1, q1, q3⟩
   | outgrown => exact ⟨hp, M1, σ1, q1, q3⟩
  | _ => exact Bool.noConfusion hc
 | .t lq T r fins, c, hc, Q, M, σ, a, w, h, hw => by
  cases c with
  | region id ops dr =>
   cases dr with
   | false => exact Bool.noConfusion hc
   | true => exact regT_ok hT hm hc h hw (fun M σ a w q1 q2 => ⟨fun _ e => (by cases e), M, σ, q1, q2⟩) fun c a w hh => hh.1 c rfl
  | _ => exact Bool.noConfusion hc
section
variable {ord : Nat → List Nat × Nat × Option Nat} {Q : Exit → AS → Prop} {p q : Pl}
theorem ed_a {c : Code} : awpD P ty ord .a c Q σ = awp P ty ord c Q σ := by cases c <;> rfl
theorem ed_s {x y : Code} : awpD P ty ord (.s p q) (.seq x y) Q σ = awpD P ty ord p x (thenK (awpD P ty ord q y Q) Q) σ := rfl
theorem ed_c {x : Operand} {y z : Code} : awpD P ty ord (.c p q) (.cond x y z) Q σ = condK (σ.rd x) (awpD P ty ord p y Q σ) (awpD P ty ord q z Q σ) := rfl
theorem ed_b {id : Nat} {x : Code} : awpD P ty ord (.b p) (.block id x) Q σ = awpD P ty ord p x (inB id Q) σ := rfl
theorem ed_t {lq : List Nat} {T : Tr} {id : Nat} : awpD P ty ord (.t lq T r fins) (.region id ops true) Q σ = awpQ P ty ops T r (pick ops lq) (Q .normal) σ := rfl
theorem et_n {T : Tr} : awpQ P ty ops T r [] K σ = awpT P ty ops r T K σ := rfl
theorem et_c {T : Tr} {o : Oper} {l : List Oper} : awpQ P ty ops T r (o :: l) K σ = awpO P ty (some none) none ops σ o (awpQ P ty ops T r l K) := rfl
theorem et_u : awpT P ty ops r (.d true) K σ = awpL P ty r.length none ops (pick ops r) K (upS σ) := rfl
theorem et_no : awpT P ty ops r .no K σ = True := rfl
theorem et_b {wr : Bool} {i : Nat} {t q : Tr} : awpT P ty ops r (.br wr i t q) K σ = (awpO P ty (puT wr) none ops σ (opD ops.toList i) (awpT P ty ops r t K) ∧ awpT P ty ops r q K σ) := by
 simp [awpT, opD_eq, List.getD_eq_getElem?_getD, Array.getD_eq_getD_getElem?]
theorem pu_t : isW (puT true) = True := rfl
theorem u_S {tm : Tm} {H : List Root} : upS ⟨tm, H⟩ = ⟨upT tm, upH H⟩ := rfl
theorem u_T0 : upT [] = [] := rfl
theorem u_T1 {k : Nat} {g : Bool} {v : RV} {l : Tm} : upT ((k, g, v) :: l) = (k, g, upR v) :: upT l := rfl
theorem u_H0 : upH [] = [] := rfl
theorem u_Hd {l : List Root} : upH (.dead :: l) = .dead :: upH l := rfl
theorem u_Hb {l : List Root} {fz : Bool} {t : TypeId} {sz : Nat} {m : List AV} : upH (.live fz t sz (.box m) :: l) = .live fz t sz (.box (upL m)) :: upH l := rfl
theorem u_L0 : upL [] = [] := rfl
theorem u_L1 {x : AV} {l : List AV} : upL (x :: l) = upA x :: upL l := rfl
theorem u_c {x : AV} : upR (.c x) = .c (upA x) := rfl
theorem u_a {l : List AV} : upR (.agg l) = .agg (upL l) := rfl
theorem u_f {f : FuncId} {l : List AV} : upR (.fn f l) = .fn f (upL l) := rfl
theorem u_int {k : IntKind} {n : Int} : upA (.int k n) = .int k n := rfl
theorem u_bool {b : Bool} : upA (.bool b) = .bool b := rfl
theorem u_nils : upA .nils = .nils := rfl
theorem u_junk : upA .junk = .junk := rfl
theorem u_ptr {id n i o : Nat} : upA (.ptr id n i o) = .ptr id n i o := rfl
theorem u_h {id st len : Nat} : upA (.h id st len) = .h id st len := rfl
theorem u_sl {n sz : Nat} {f : Nat → Nat → AV} : upA (.sl n sz f) = .sl n sz f := rfl
theorem u_rp {n : Nat} {f : Nat → AV} : upA (.rp n f) = .rp n f := rfl
theorem u_ws {t : TypeId} {ck : List CK} {n : Nat} : upA (.ws t ck n) = .ws t (upK.upKs ck) n := rfl
theorem u_wu {t : TypeId} {ck : List CK} {n : Nat} : upA (.wu t ck n) = .wu t (upK.upKs ck) n := rfl
theorem u_wp {t : TypeId} {ck : List CK} {n : Nat} : upA (.wp t ck n) = .wp t (upK.upKs ck) n := rfl
end
theorem pcall_ofD (d : Nat) (p : Pl) (hT : TyOk P ty) (hm : P.follows .mixedOrders = true) {f : FuncId} {fn : Func} {c : Code} (ord : Nat → List Nat × Nat × Option Nat) (hf : P.funcs[f]? = some fn) (hb : fn.body = some c) (hname : (fn.name == "runtime.NumGoroutine") = false) {n : Nat} (hnt : fn.ntmps = n) {rs : List ResultVar} (hr : fn.results.toList = rs)
  (hok : okD n ord p c = true) {args : List RV} (hn : args.length ≤ n) {post : RV → Prop}
  (h : awpD P ty ord p c (retK ty rs (finW d post)) ⟨argT 0 args, []⟩) : PCall P f args post := by
 refine ⟨⟨fn, c, hf, hname, hb⟩, fun rho w vs hrho hc => calls_of_wp hf hb ?_⟩
 have hrel : Rel ⟨w, rho⟩ ⟨fun _ => 0, rho, fun _ => none⟩ [] w := ⟨Below.refl _ _, fun _ _ _ _ _ h => (by cases h), fun _ _ _ _ _ h => (by cases h), fun _ _ _ _ h => (by cases h), fun _ _ _ _ h => (by cases h), fun _ _ _ _ _ _ _ _ h => (by cases h), hrho, fun b hb => .inl hb, ⟨fun _ _ h => (by cases h), fun _ _ _ _ _ _ _ h => (by cases h), fun _ _ _ h => (by cases h)⟩⟩
 have hst := St.enter hrel (Con0RL.up (M := ⟨fun _ => 0, rho, fun _ => none⟩) (H := []) hc) (n := n) hn
 rw [hnt]
 refine wp_mono (awpD_ok hT hm p c hok hst h) fun e a' w' ⟨hp, M', σ', q1, q3⟩ => ?_
 have fin : (resL ty σ' rs).1 ∧ finW d post (one (resL ty σ' rs).2) σ'.H → a'.defers = [] ∧ ∃ v, (results fn a'.tmps).run P w' = .ok v w' ∧ ∃ r v' rho', Ending.returned v = .returned v' ∧ post r ∧ Con0T rho' w' r v' ∧ (∀ b, rho' b → rho b ∨ (w.heap.size ≤ b ∧ b < w'.heap.size)) ∧ Below w.heap.size w w' := by
  rintro ⟨h1, l, h2, h3, h4⟩
  obtain ⟨v, k1, k2⟩ := results_ok hT q1 hr h1
  rw [h2] at k1
  obtain ⟨us, rfl, k1⟩ := k1
  obtain ⟨l', l1, l2⟩ := rdL_ok (rho := fun b => M'.rho b ∨ ∃ q, M'.tau b = some q) q1.rel.tau (fun b q hq => .inr ⟨q, hq⟩) h3 k1
  obtain ⟨m, m1, m2⟩ := h4 l' l1
  refine ⟨q1.df, _, k2, .agg m, _, _, rfl, m2, ⟨us, rfl, l2.eqv m1⟩, fun b hb => ?_, q1.rel.bel⟩
  rcases hb with hb | ⟨q, hq⟩
  ·rcases q1.rel.src b hb with h | h
   ·exact .inl h
   ·exact .inr ⟨h, q1.rel.rlt b hb⟩
  ·exact .inr ⟨(q1.rel.tau.new b q hq).1, q1.rel.tau.lt hq⟩
 cases e with
 | normal => exact fin q3
 | ret => exact fin q3
 | panic ch => exact absurd rfl (hp ch)
 | exit id => exact q3.elim
 | goto l => exact q3.elim
 | outgrown => exact q3.elim
end
end Go.Proofs.Ytafhjfkdlmijdaa.Ab
namespace Go.Proofs.Ytafhjfkdlmijdaa.Ab
open Go.RowKit
set_option maxRecDepth 100000
set_option linter.unusedSimpArgs false
set_option maxHeartbeats 2000000
def wkM (b t : Nat) : Option (List CK) := if t = 2 then some ckI else if t = 34 then some (ckTb b) else if t = 85 then some (ckRb b) else none
def tyW (b : Nat) : Ty := fun t => ⟨(ty t).sz, (ty t).bytes, (ty t).k, (ty t).zero, wkM b t⟩
theorem tyW_sz (b t : Nat) : (tyW b t).sz = (ty t).sz := rfl
theorem tyW_bytes (b t : Nat) : (tyW b t).bytes = (ty t).bytes := rfl
theorem tyW_k (b t : Nat) : (tyW b t).k = (ty t).k := rfl
theorem tyW_zero (b t : Nat) : (tyW b t).zero = (ty t).zero := rfl
theorem tyW_wk (b t : Nat) : (tyW b t).wk = wkM b t := rfl
theorem tyW_ok (b : Nat) : TyOk Try.prog (tyW b) := fun t => ⟨by
 have := (ty_ok t).k
 show kOk _ (tyW b) t (ty t).k
 cases hq : (ty t).k <;> rw [hq] at this <;> exact this, (ty_ok t).i⟩
def treeM : Tr := .br false 0 (.br false 1 (.br false 7 (.br true 8 (.d true) .no) .no) (.br false 7 (.br false 1 (.br true 8 (.d true) .no) (.br true 8 (.br false 1 (.d true) .no) .no)) .no)) (.br false 7 (.br false 0 (.br false 1 (.br true 8 (.d true) .no) (.br true 8 (.br false 1 (.d true) .no) .no)) (.br true 8 (.br false 0 (.br false 1 (.d true) .no) .no) .no)) .no)
def planM : Pl := .s .a (.s .a (.s .a (.s .a (.s .a (.s .a (.s (.s .a (.b (.s .a (.c .a (.s .a (.c .a (.s .a (.c (.s .a (.c (.t [2, 3, 4, 5, 6] treeM [9, 10, 11] [8, 9, 10, 11]) .a)) .a)))))))) .a))))))
def wsH (t : TypeId) (ck : List CK) : Nat → AV
 | 0 => .nils
 | n + 1 => .ws t ck (n + 1)
theorem wsH_z (t : TypeId) (ck : List CK) : wsH t ck 0 = .nils := rfl
theorem wsH_s (t : TypeId) (ck : List CK) (n : Nat) : wsH t ck (n + 1) = .ws t ck (n + 1) := rfl
theorem scp_ws (t : TypeId) (ck : List CK) (n k : Nat) : (wsH t ck n).scp k = true := by cases n <;> rfl
structure SlackK (l : List Int) (what : Int) : Prop where
 b : ∀ v ∈ l, -128 ≤ v ∧ v ≤ 127
 len : l.length ≤ 9223372036854775807
 w : 0 ≤ what ∧ what ≤ 255
structure TmsB (t : TimesD) : Prop where
 tl : t.trucks.length ≤ 100000
 bl : t.bikes.length ≤ 100000
 tr : ∀ l ∈ t.trucks, l.length ≤ 100000 ∧ ∀ v ∈ l, 0 ≤ v ∧ v ≤ 1000000000000000
 bk : ∀ r ∈ t.bikes, r.starts.length ≤ 100000 ∧ (0 ≤ r.out ∧ r.out ≤ 1000000000000000) ∧ (0 ≤ r.back ∧ r.back ≤ 1000000000000000) ∧ ∀ v ∈ r.starts, 0 ≤ v ∧ v ≤ 1000000000000000
def headM (t : TimesD) (l : List Int) (what : Int) (n : Nat) (a b : AV) : List Root :=
 [.live false 54 2 (.box (eTimes t)), .live false 94 2 (.box [eI8 l, .int .u8 what]), .live false 54 2 (.box [.nils, .nils]), .live false 3 1 (.box [I6 n]), .live false 54 2 (.box [a, b])]
theorem addAt_bd {l : List Int} (h : ∀ v ∈ l, -128 ≤ v ∧ v ≤ 127) (n : Int) : -128 ≤ addAt l n ∧ addAt l n ≤ 127 := by
 unfold addAt
 split
 ·omega
 ·exact h _ (getD_mem (Nat.mod_lt _ (by omega)) 0)
theorem moved_p {t : TimesD} {l : List Int} {what : Int} (ht : TmsB t) (hs : SlackK l what) : PCall Try.prog 44 [.agg (eTimes t), .agg [eI8 l, .int .u8 what]] MovedPost := by
 have htl := ht.tl; have hbl := ht.bl
 refine pcall_ofD 1 planM (tyW_ok 200000) (by kernel_rfl) (fun n => match n with | 22 => ([], 3, some 3) | _ => ([], 0, none)) Try.func44 rfl (by kernel_rfl) Try.ntmps44 (congrArg Array.toList Try.results44) (by kernel_rfl) (by simp) ?_
 simp -implicitDefEqProofs only [go_sem, ↓reduceIte, reduceCtorEq, Nat.reduceAdd, Nat.reduceLT, Nat.reduceEqDiff, Nat.reduceMul, Nat.reduceLeDiff, Nat.reduceSub, planM, ed_a, ed_s, ed_c, ed_b, ed_t, eTimes, tyW_sz, tyW_bytes, tyW_k, tyW_zero, tyW_wk, wkM]
 refine awp_loop (ι := Nat × Nat) [2, 3, 4, 6, 7, 20, 21] [22] (fun s => s.1 ≤ t.trucks.length ∧ s.2 ≤ s.1 * 100000) (fun s => [.c (I6 s.1)]) (fun s => headM t l what s.2 (wsH 34 ckT s.1) .nils) (fun s => t.trucks.length - s.1) (by kernel_rfl) ⟨(0, 0), ⟨Nat.zero_le _, Nat.le_refl _⟩, rfl, rfl⟩ (fun s _ => ⟨rfl, rfl, by simp only [headM, eTimes, scpH, scpL, scp_ws]; rfl, rfl⟩) ?_
 rintro ⟨k, m⟩ ⟨hk, hm⟩
 simp only [] at hk hm
 simp -implicitDefEqProofs only [go_sem, ↓reduceIte, reduceCtorEq, Nat.reduceAdd, Nat.reduceLT, Nat.reduceEqDiff, Nat.reduceMul, Nat.reduceLeDiff, Nat.reduceSub, ed_a, ed_s, ed_c, ed_b, ed_t, headM, eTimes, tyW_sz, tyW_bytes, tyW_k, tyW_zero, tyW_wk, wkM]
 refine ⟨fun h => ?_, fun h => ?_⟩
 ·have hlt : k < t.trucks.length := by omega
  obtain ⟨hl1, hl2⟩ := ht.tr _ (getD_mem hlt [])
  have hl1 : (tmsN t k).length ≤ 100000 := hl1
  refine ⟨by omega, ?_⟩
  refine awp_loop (ι := Nat) [2, 3, 4, 6, 7, 20, 21, 22, 26, 27] [10, 28] (fun j => j ≤ (tmsN t k).length) (fun j => [.c (wsH 2 ckI j), .c (I6 j)]) (fun j => headM t l what (m + j) (wsH 34 ckT k) .nils) (fun j => (tmsN t k).length - j) (by kernel_rfl) ⟨0, Nat.zero_le _, rfl, rfl⟩ (fun s _ => ⟨rfl, by simp only [scpRL, scpR, scp_ws]; rfl, by simp only [headM, eTimes, scpH, scpL, scp_ws]; rfl, rfl⟩) ?_
  intro j hj
  have hxv : j < (tmsN t k).length → 0 ≤ (tmsN t k).getD j 0 ∧ (tmsN t k).getD j 0 ≤ 1000000000000000 := fun hj => hl2 _ (getD_mem hj 0)
  have had := addAt_bd hs.b ((m + j : Nat) : Int)
  rcases j with _ | j <;> rcases k with _ | k
  all_goals
   simp -implicitDefEqProofs only [go_sem, ↓reduceIte, reduceCtorEq, Nat.reduceAdd, Nat.reduceLT, Nat.reduceEqDiff, Nat.reduceMul, Nat.reduceLeDiff, Nat.reduceSub, ed_a, ed_s, ed_c, ed_b, ed_t, headM, eTimes, tyW_sz, tyW_bytes, tyW_k, tyW_zero, tyW_wk, wkM, wsH_z, wsH_s]
   refine ⟨fun h2 => ?_, fun h2 => ?_⟩
  ·have hx := hxv (by omega)
   have had := addAt_bd hs.b (m : Int)
   refine ⟨by omega, ?_⟩
   refine more_k (l := l) (what := what) (kn := 3) (ks := 1) (n := ((m + 0 : Nat) : Int)) (.inl rfl) rfl rfl (by decide) hs.b hs.len (by omega) (by omega) ?_
   simp -implicitDefEqProofs only [go_sem, ↓reduceIte, reduceCtorEq, Nat.reduceAdd, Nat.reduceLT, Nat.reduceEqDiff, Nat.reduceMul, Nat.reduceLeDiff, Nat.reduceSub, ed_a, ed_s, ed_c, ed_b, ed_t, headM, eTimes, tyW_sz, tyW_bytes, tyW_k, tyW_zero, tyW_wk, wkM, wsH_z, wsH_s]
   exact ⟨by omega, by omega, 1, by omega, rfl, rfl, by omega⟩
  ·exact ⟨by omega, (1, m), ⟨by omega, by (try simp only []); omega⟩, rfl, rfl, by simp only []; omega⟩
  ·have hx := hxv (by omega)
   have had := addAt_bd hs.b (m : Int)
   refine ⟨by omega, ?_⟩
   refine more_k (l := l) (what := what) (kn := 3) (ks := 1) (n := ((m + 0 : Nat) : Int)) (.inl rfl) rfl rfl (by decide) hs.b hs.len (by omega) (by omega) ?_
   simp -implicitDefEqProofs only [go_sem, ↓reduceIte, reduceCtorEq, Nat.reduceAdd, Nat.reduceLT, Nat.reduceEqDiff, Nat.reduceMul, Nat.reduceLeDiff, Nat.reduceSub, ed_a, ed_s, ed_c, ed_b, ed_t, headM, eTimes, tyW_sz, tyW_bytes, tyW_k, tyW_zero, tyW_wk, wkM, wsH_z, wsH_s]
   exact ⟨by omega, by omega, 1, by omega, rfl, rfl, by omega⟩
  ·exact ⟨by omega, by omega, (k + 2, m), ⟨by omega, Nat.le_trans hm (Nat.mul_le_mul_right _ (by omega))⟩, rfl, rfl, by simp only []; omega⟩
  ·have hx := hxv (by omega)
   refine ⟨by omega, ?_⟩
   refine more_k (l := l) (what := what) (kn := 3) (ks := 1) (n := ((m + (j + 1) : Nat) : Int)) (.inl rfl) rfl rfl (by decide) hs.b hs.len (by omega) (by omega) ?_
   simp -implicitDefEqProofs only [go_sem, ↓reduceIte, reduceCtorEq, Nat.reduceAdd, Nat.reduceLT, Nat.reduceEqDiff, Nat.reduceMul, Nat.reduceLeDiff, Nat.reduceSub, ed_a, ed_s, ed_c, ed_b, ed_t, headM, eTimes, tyW_sz, tyW_bytes, tyW_k, tyW_zero, tyW_wk, wkM, wsH_z, wsH_s]
   exact ⟨by omega, by omega, by omega, j + 2, by omega, rfl, rfl, by omega⟩
  ·exact ⟨by omega, by omega, (1, m + (j + 1)), ⟨by omega, by (try simp only []); omega⟩, rfl, rfl, by simp only []; omega⟩
  ·have hx := hxv (by omega)
   refine ⟨by omega, ?_⟩
   refine more_k (l := l) (what := what) (kn := 3) (ks := 1) (n := ((m + (j + 1) : Nat) : Int)) (.inl rfl) rfl rfl (by decide) hs.b hs.len (by omega) (by omega) ?_
   simp -implicitDefEqProofs only [go_sem, ↓reduceIte, reduceCtorEq, Nat.reduceAdd, Nat.reduceLT, Nat.reduceEqDiff, Nat.reduceMul, Nat.reduceLeDiff, Nat.reduceSub, ed_a, ed_s, ed_c, ed_b, ed_t, headM, eTimes, tyW_sz, tyW_bytes, tyW_k, tyW_zero, tyW_wk, wkM, wsH_z, wsH_s]
   exact ⟨by omega, by omega, by omega, j + 2, by omega, rfl, rfl, by omega⟩
  ·exact ⟨by omega, by omega, by omega, (k + 2, m + (j + 1)), ⟨by omega, by (try simp only []); omega⟩, rfl, rfl, by simp only []; omega⟩
 ·obtain rfl : k = t.trucks.length := by omega
  clear hk h
  refine awp_loop (ι := Nat × Nat) [3, 4, 6, 7, 47, 48] [49] (fun s => s.1 ≤ t.bikes.length ∧ s.2 ≤ 10000000000 + s.1 * 100002) (fun s => [.c (I6 s.1)]) (fun s => headM t l what s.2 (wsH 34 ckT t.trucks.length) (wsH 85 ckR s.1)) (fun s => t.bikes.length - s.1) (by kernel_rfl) ⟨(0, m), ⟨Nat.zero_le _, by simp only []; omega⟩, rfl, rfl⟩ (fun s _ => ⟨rfl, rfl, by simp only [headM, eTimes, scpH, scpL, scp_ws]; rfl, rfl⟩) ?_
  clear hm
  rintro ⟨k, m⟩ ⟨hk, hm⟩
  simp only [] at hk hm
  simp -implicitDefEqProofs only [go_sem, ↓reduceIte, reduceCtorEq, Nat.reduceAdd, Nat.reduceLT, Nat.reduceEqDiff, Nat.reduceMul, Nat.reduceLeDiff, Nat.reduceSub, ed_a, ed_s, ed_c, ed_b, ed_t, headM, eTimes, tyW_sz, tyW_bytes, tyW_k, tyW_zero, tyW_wk, wkM]
  refine ⟨fun h => ?_, fun h => ?_⟩
  ·have hlt : k < t.bikes.length := by omega
   obtain ⟨hr1, hr2, hr3, hr4⟩ := ht.bk _ (getD_mem hlt ⟨0, [], 0⟩)
   have hr1 : (ridN t k).starts.length ≤ 100000 := hr1
   have hr2 : 0 ≤ (ridN t k).out ∧ (ridN t k).out ≤ 1000000000000000 := hr2
   have hr3 : 0 ≤ (ridN t k).back ∧ (ridN t k).back ≤ 1000000000000000 := hr3
   have had := addAt_bd hs.b (m : Int)
   refine ⟨by omega, ?_⟩
   refine more_k (l := l) (what := what) (kn := 3) (ks := 1) (n := (m : Int)) (.inl rfl) rfl rfl (by decide) hs.b hs.len (by omega) (by omega) ?_
   generalize hv0 : (ridN t k).out + addAt l (m : Int) = v0
   simp -implicitDefEqProofs only [go_sem, ↓reduceIte, reduceCtorEq, Nat.reduceAdd, Nat.reduceLT, Nat.reduceEqDiff, Nat.reduceMul, Nat.reduceLeDiff, Nat.reduceSub, ed_a, ed_s, ed_c, ed_b, ed_t, headM, eTimes, tyW_sz, tyW_bytes, tyW_k, tyW_zero, tyW_wk, wkM]
   refine awp_loop (ι := Nat) [3, 4, 6, 7, 14, 15, 47, 48, 49, 59, 60] [61] (fun j => j ≤ (ridN t k).starts.length) (fun j => [.c (I6 j)]) (fun j => headM t l what (m + 1 + j) (wsH 34 ckT t.trucks.length) (wsH 85 ckR k) ++ [.live false 85 3 (.box [I6 (ridN t k).out, eInts (ridN t k).starts, I6 (ridN t k).back]), .live false 85 3 (.box [I6 v0, wsH 2 ckI j, I6 0])]) (fun j => (ridN t k).starts.length - j) (by kernel_rfl) ⟨0, Nat.zero_le _, rfl, rfl⟩ (fun s _ => ⟨rfl, rfl, by simp only [headM, eTimes, List.cons_append, List.nil_append, scpH, scpL, scp_ws]; rfl, rfl⟩) ?_
   intro j hj
   have hxv : j < (ridN t k).starts.length → 0 ≤ (ridN t k).starts.getD j 0 ∧ (ridN t k).starts.getD j 0 ≤ 1000000000000000 := fun hj => hr4 _ (getD_mem hj 0)
   have had1 := addAt_bd hs.b ((m + 1 + j : Nat) : Int)
   rcases j with _ | j <;> rcases k with _ | k
   all_goals
    simp -implicitDefEqProofs only [go_sem, ↓reduceIte, reduceCtorEq, Nat.reduceAdd, Nat.reduceLT, Nat.reduceEqDiff, Nat.reduceMul, Nat.reduceLeDiff, Nat.reduceSub, ed_a, ed_s, ed_c, ed_b, ed_t, headM, eTimes, tyW_sz, tyW_bytes, tyW_k, tyW_zero, tyW_wk, wkM, wsH_z, wsH_s]
    refine ⟨fun h2 => ?_, fun h2 => ?_⟩
   ·have hx := hxv (by omega)
    simp only [Nat.add_zero] at had1
    refine ⟨by omega, ?_⟩
    refine more_k (l := l) (what := what) (kn := 3) (ks := 1) (n := ((m + 1 + 0 : Nat) : Int)) (.inr rfl) rfl rfl (by decide) hs.b hs.len (by omega) (by omega) ?_
    simp -implicitDefEqProofs only [go_sem, ↓reduceIte, reduceCtorEq, Nat.reduceAdd, Nat.reduceLT, Nat.reduceEqDiff, Nat.reduceMul, Nat.reduceLeDiff, Nat.reduceSub, tyW_sz, tyW_bytes, tyW_k, tyW_zero, tyW_wk, wkM, wsH_z, wsH_s]
    exact ⟨by omega, by omega, 1, by omega, rfl, rfl, by omega⟩
   ·simp only [Nat.add_zero] at had1
    refine more_k (l := l) (what := what) (kn := 3) (ks := 1) (n := ((m + 1 + 0 : Nat) : Int)) (.inl rfl) rfl rfl (by decide) hs.b hs.len (by omega) (by omega) ?_
    simp -implicitDefEqProofs only [go_sem, ↓reduceIte, reduceCtorEq, Nat.reduceAdd, Nat.reduceLT, Nat.reduceEqDiff, Nat.reduceMul, Nat.reduceLeDiff, Nat.reduceSub, tyW_sz, tyW_bytes, tyW_k, tyW_zero, tyW_wk, wkM, wsH_z, wsH_s]
    exact ⟨by omega, by omega, (1, m + 2), ⟨by omega, by (try simp only []); omega⟩, rfl, rfl, by simp only []; omega⟩
   ·have hx := hxv (by omega)
    simp only [Nat.add_zero] at had1
    refine ⟨by omega, ?_⟩
    refine more_k (l := l) (what := what) (kn := 3) (ks := 1) (n := ((m + 1 + 0 : Nat) : Int)) (.inr rfl) rfl rfl (by decide) hs.b hs.len (by omega) (by omega) ?_
    simp -implicitDefEqProofs only [go_sem, ↓reduceIte, reduceCtorEq, Nat.reduceAdd, Nat.reduceLT, Nat.reduceEqDiff, Nat.reduceMul, Nat.reduceLeDiff, Nat.reduceSub, tyW_sz, tyW_bytes, tyW_k, tyW_zero, tyW_wk, wkM, wsH_z, wsH_s]
    exact ⟨by omega, by omega, 1, by omega, rfl, rfl, by omega⟩
   ·simp only [Nat.add_zero] at had1
    refine more_k (l := l) (what := what) (kn := 3) (ks := 1) (n := ((m + 1 + 0 : Nat) : Int)) (.inl rfl) rfl rfl (by decide) hs.b hs.len (by omega) (by omega) ?_
    simp -implicitDefEqProofs only [go_sem, ↓reduceIte, reduceCtorEq, Nat.reduceAdd, Nat.reduceLT, Nat.reduceEqDiff, Nat.reduceMul, Nat.reduceLeDiff, Nat.reduceSub, tyW_sz, tyW_bytes, tyW_k, tyW_zero, tyW_wk, wkM, wsH_z, wsH_s]
    exact ⟨by omega, by omega, by omega, (k + 2, m + 2), ⟨by omega, by (try simp only []); omega⟩, rfl, rfl, by simp only []; omega⟩
   ·have hx := hxv (by omega)
    refine ⟨by omega, ?_⟩
    refine more_k (l := l) (what := what) (kn := 3) (ks := 1) (n := ((m + 1 + (j + 1) : Nat) : Int)) (.inr rfl) rfl rfl (by decide) hs.b hs.len (by omega) (by omega) ?_
    simp -implicitDefEqProofs only [go_sem, ↓reduceIte, reduceCtorEq, Nat.reduceAdd, Nat.reduceLT, Nat.reduceEqDiff, Nat.reduceMul, Nat.reduceLeDiff, Nat.reduceSub, tyW_sz, tyW_bytes, tyW_k, tyW_zero, tyW_wk, wkM, wsH_z, wsH_s]
    exact ⟨by omega, by omega, by omega, j + 2, by omega, rfl, rfl, by omega⟩
   ·refine more_k (l := l) (what := what) (kn := 3) (ks := 1) (n := ((m + 1 + (j + 1) : Nat) : Int)) (.inl rfl) rfl rfl (by decide) hs.b hs.len (by omega) (by omega) ?_
    simp -implicitDefEqProofs only [go_sem, ↓reduceIte, reduceCtorEq, Nat.reduceAdd, Nat.reduceLT, Nat.reduceEqDiff, Nat.reduceMul, Nat.reduceLeDiff, Nat.reduceSub, tyW_sz, tyW_bytes, tyW_k, tyW_zero, tyW_wk, wkM, wsH_z, wsH_s]
    exact ⟨by omega, by omega, (1, m + 1 + (j + 1) + 1), ⟨by omega, by (try simp only []); omega⟩, rfl, rfl, by simp only []; omega⟩
   ·have hx := hxv (by omega)
    refine ⟨by omega, ?_⟩
    refine more_k (l := l) (what := what) (kn := 3) (ks := 1) (n := ((m + 1 + (j + 1) : Nat) : Int)) (.inr rfl) rfl rfl (by decide) hs.b hs.len (by omega) (by omega) ?_
    simp -implicitDefEqProofs only [go_sem, ↓reduceIte, reduceCtorEq, Nat.reduceAdd, Nat.reduceLT, Nat.reduceEqDiff, Nat.reduceMul, Nat.reduceLeDiff, Nat.reduceSub, tyW_sz, tyW_bytes, tyW_k, tyW_zero, tyW_wk, wkM, wsH_z, wsH_s]
    exact ⟨by omega, by omega, by omega, j + 2, by omega, rfl, rfl, by omega⟩
   ·refine more_k (l := l) (what := what) (kn := 3) (ks := 1) (n := ((m + 1 + (j + 1) : Nat) : Int)) (.inl rfl) rfl rfl (by decide) hs.b hs.len (by omega) (by omega) ?_
    simp -implicitDefEqProofs only [go_sem, ↓reduceIte, reduceCtorEq, Nat.reduceAdd, Nat.reduceLT, Nat.reduceEqDiff, Nat.reduceMul, Nat.reduceLeDiff, Nat.reduceSub, tyW_sz, tyW_bytes, tyW_k, tyW_zero, tyW_wk, wkM, wsH_z, wsH_s]
    exact ⟨by omega, by omega, by omega, (k + 2, m + 1 + (j + 1) + 1), ⟨by omega, by (try simp only []); omega⟩, rfl, rfl, by simp only []; omega⟩
  ·obtain rfl : k = t.bikes.length := by omega
   clear hm h hk
   generalize t.trucks.length = nT at htl ⊢
   generalize t.bikes.length = nB at hbl ⊢
   rcases nT with _ | nT <;> rcases nB with _ | nB
   all_goals
    simp -implicitDefEqProofs only [go_sem, ↓reduceIte, reduceCtorEq, Nat.reduceAdd, Nat.reduceLT, Nat.reduceEqDiff, Nat.reduceMul, Nat.reduceLeDiff, Nat.reduceSub, ed_a, ed_s, ed_c, ed_b, ed_t, tyW_sz, tyW_bytes, tyW_k, tyW_zero, tyW_wk, wkM, Int.zero_tdiv, eq_self, wsH_z, wsH_s, u_S, u_T0, u_T1, u_H0, u_Hd, u_Hb, u_L0, u_L1, u_c, u_a, u_f, u_int, u_bool, u_nils, u_junk, u_ptr, u_h, u_sl, u_rp, u_ws, u_wu, u_wp, upK, upK.upKs, treeM, et_n, et_c, et_u, et_no, et_b, pu_t, headM, eTimes]
   all_goals
    try have htd : ((nB + 1 : Nat) : Int).tdiv 2 = ((nB + 1 : Nat) : Int) / 2 := Int.tdiv_eq_ediv_of_nonneg (by omega)
    repeat' (first | exact fin_mv (k := 200000) (by first | exact .inl rfl | exact .inr ⟨_, by omega, rfl⟩) (by first | exact .inl rfl | exact .inr ⟨_, by omega, rfl⟩) | exact fin_mv (k := 200001) (by first | exact .inl rfl | exact .inr ⟨_, by omega, rfl⟩) (by first | exact .inl rfl | exact .inr ⟨_, by omega, rfl⟩) | exact And.intro (by omega) (by omega) | refine And.intro ?_ ?_ | intro _)
    all_goals omega
end Go.Proofs.Ytafhjfkdlmijdaa.Ab
namespace Go.Proofs.Ytafhjfkdlmijdaa
open Go.RowKit Go.WideShapes Go.ChangeShapes Go.ChangeAt
def SatsIn (B : Nat) (out : List (List StopD)) : Prop := ∀ t ∈ out, ∀ u ∈ t, 0 ≤ u.sat ∧ u.sat < (B : Int)
theorem SatsIn.ready {B : Nat} {many room : Int} {q : Bool} {st : List (List StopD) × Int} (h : SatsIn B st.1) : SatsIn B (readyQ many room q st).1 := by
 unfold readyQ
 split
 ·intro t ht
  rcases List.mem_append.1 ht with ht | ht
  ·exact h t ht
  ·obtain rfl := List.mem_singleton.1 ht
   intro u hu; cases hu
 ·exact h
theorem SatsIn.add {B : Nat} {out : List (List StopD)} (h : SatsIn B out) {s : StopD} (hs : 0 ≤ s.sat ∧ s.sat < (B : Int)) : SatsIn B (addLast out s) := by
 intro t ht
 unfold addLast at ht
 rcases List.mem_or_eq_of_mem_set ht with ht | rfl
 ·exact h t ht
 ·intro u hu
  rcases List.mem_append.1 hu with hu | hu
  ·by_cases hk : out.length - 1 < out.length
   ·rw [List.getD_eq_getElem?_getD, List.getElem?_eq_getElem hk] at hu
    exact h _ (List.getElem_mem hk) u hu
   ·rw [List.getD_eq_getElem?_getD, List.getElem?_eq_none (by omega)] at hu; cases hu
  ·obtain rfl := List.mem_singleton.1 hu; exact hs
theorem dOne_sat {B s : Nat} (hB : s < B) {many room : Int} {q : Bool} : ∀ (f : Nat) (n : Int) (st : List (List StopD) × Int), SatsIn B st.1 → SatsIn B (dOne many room q s f n st).1
 | 0, _, _, h => h
 | f + 1, n, st, h => by
  unfold dOne
  split
  ·exact h
  ·exact dOne_sat hB f _ _ (h.ready.add ⟨by simp only []; omega, by simp only []; omega⟩)
theorem dUp_sat {x : InstD} {w : WishD} {lo : List Int} {B : Nat} : ∀ k, k ≤ B → SatsIn B (dUp x w lo k).1
 | 0, _ => fun t ht => by cases ht
 | k + 1, h => dOne_sat (by omega) _ _ _ (dUp_sat k (by omega))
def slackS : Shape (List Int × Int) where
 sz := 2
 rep := fun w F x cs => ∃ v, cs = [v, .int .u8 x.2] ∧ (0 ≤ x.2 ∧ x.2 ≤ 255) ∧ (sliceS i8S).rep w F x.1 [v]
 len := by rintro w F x cs ⟨_, rfl, _⟩; rfl
 keep := by rintro w w' F x cs ⟨_, rfl, h1, h2⟩ ha; exact ⟨_, rfl, h1, (sliceS i8S).keep h2 ha⟩
 weak := by rintro w F G x cs ⟨_, rfl, h1, h2⟩ ha; exact ⟨_, rfl, h1, (sliceS i8S).weak h2 ha⟩
 lt := by rintro w F x cs ⟨_, rfl, h1, h2⟩; exact ⟨_, rfl, h1, (sliceS i8S).lt h2⟩
theorem op_slack : Opens Try.prog 94 slackS := by
 intro H enc w base spare held fuel cs x h
 have hl : cs.length = 2 := (trod_len Try.underlying94 h).trans (by kernel_rfl)
 match cs, hl with
 | [v0, v1], _ =>
  obtain ⟨_, _, f0⟩ := trod_at Try.underlying94 h 0 92 0 1 rfl (by kernel_rfl)
  obtain ⟨_, _, f1⟩ := trod_at Try.underlying94 h 1 5 1 1 rfl (by kernel_rfl)
  obtain ⟨a0, r0⟩ := opens_slice (S := i8S) Try.underlying92 (by kernel_rfl) op_i8 _ _ _ _ _ _ _ _ _ f0
  obtain ⟨a1, r1⟩ := op_u8 _ _ _ _ _ _ _ _ _ f1
  obtain ⟨e, hw⟩ := r1
  obtain rfl := (List.cons.inj e).1
  exact ⟨⟨a0, a1⟩, v0, rfl, hw, r0⟩
section
variable {H : Type} {enc : TypeId × Value → H} {P : Program} {w : World} {base : Nat} {spare : Nat → Bool} {held : Bool}
end
namespace Ab
theorem draft_soon {y : InstD} (h : YOk y) (wi : WishD) : SoonOk y (draftD y wi) := by
 have hf := draft_small wi h.ns h.nc h.ld h.troom
 have hol : (draftOrd y wi).length = y.custs.length := orderUp_len _ _
 have hk := draftUp_ok (x := y) wi (os := draftOrd y wi) (fun c hc => by have := h.ld c hc; omega) (by have := h.ns; omega) (orderUp_lt _ _) (draftOrd y wi).length (Nat.le_refl _)
 have hs : SatsIn y.sats.length (draftD y wi).trucks := by
  show SatsIn _ (dUp y wi (draftLB y wi).1 (draftLB y wi).1.length).1
  exact dUp_sat _ (by unfold draftLB; rw [hk.loL]; exact Nat.le_refl _)
 refine ⟨good_of h.chk, hf.tl, fun t ht => ⟨(hf.ts t ht).1, hs t ht⟩, by have := hf.bl; omega, fun b hb => ?_⟩
 have h1 := hk.bsB b hb
 have h2 := (hf.bs b hb).2.1
 exact ⟨by omega, h1.1, fun c hc => h1.2.2 c hc⟩
theorem tmsB_of {x : InstD} {p : PlanD} (h : SoonOk x p) : TmsB (soonD x p) := by
 have hw := soon_wf h
 refine ⟨by rw [soon_tl]; exact h.tl, by rw [soon_bl]; exact h.bl, fun l hl => ⟨?_, hw.1 l hl⟩, fun r hr => ⟨?_, hw.2 r hr⟩⟩
 ·obtain ⟨k, hk, rfl⟩ := List.getElem_of_mem hl
  have hk2 : k < p.trucks.length := by rw [← soon_tl x p]; exact hk
  rw [soon_tk x p hk2 hk]
  exact (h.t1 _ (List.getElem_mem hk2)).1
 ·obtain ⟨k, hk, rfl⟩ := List.getElem_of_mem hr
  have hk2 : k < p.bikes.length := by rw [← soon_bl x p]; exact hk
  rw [soon_bk x p hk2 hk]
  exact (h.b1 _ (List.getElem_mem hk2)).1
def eSlack (s : List Int × Int) : List AV := [eI8 s.1, .int .u8 s.2]
theorem i8_f : Fwd i8S (fun x _ => .int .i8 x) := by
 rintro w F x cs ⟨rfl, -⟩ j hj
 have hj : j < 1 := hj
 obtain rfl : j = 0 := by omega
 exact ⟨_, rfl, rfl⟩
theorem slack_f {w : World} {F : Nat → Prop} {s : List Int × Int} {cs : List Value} (h : slackS.rep w F s cs) : Con0L F w (eSlack s) cs := by
 obtain ⟨v, rfl, h1, h2⟩ := h
 exact ⟨_, _, rfl, fs (e := fun x _ => .int .i8 x) (0 : Int) i8_f h2, _, _, rfl, rfl, rfl⟩
theorem slack_k {w : World} {F : Nat → Prop} {s : List Int × Int} {cs : List Value} (h : slackS.rep w F s cs) : SlackK s.1 s.2 := by
 obtain ⟨v, rfl, h1, a, b, off, c, e1, g1, g2, g3, g4⟩ := h
 refine ⟨fun u hu => ?_, Nat.le_trans g1 g2, h1⟩
 obtain ⟨i, hi, rfl⟩ := List.getElem_of_mem hu
 obtain ⟨es, ⟨-, k1⟩, -⟩ := g4 i hi
 exact k1
theorem callK_mv {pu : Pu} {H : List Root} {x : InstD} {p : PlanD} {s : List Int × Int} {args : List RV} {K : RV → List Root → Prop} (h : SoonOk x p) (hs : SlackK s.1 s.2) (ho : okRL H args) (he : frzRL H args = [.agg (eTimes (soonD x p)), .agg (eSlack s)]) (hH : frzHRL H args = H)
  (hK : ∀ t : TimesD, TmsWf t → t.trucks.length ≤ 200000 → t.bikes.length ≤ 200000 → K (.agg (eTimes t)) H) : callK Try.prog pu 44 args H K :=
 callK_p (moved_p (tmsB_of h) hs) ho he hH (by
  rintro r ⟨t, rfl, h1, h2, h3, h4⟩
  exact hK t ⟨h1, h2⟩ h3 h4)
def treeC : Tr := .br false 2 (.br false 4 (.br false 5 (.d false) .no) (.br false 5 (.br false 4 (.d false) .no) .no)) (.br false 5 (.br false 2 (.br false 4 (.d false) .no) .no) .no)
def headMv (s : SmallD) (wi : WishD) (m : List Int × Int) (y : InstD) (p : PlanD) (t : TimesD) : List Root :=
 [.live false 26 11 (.box (eSmall s)), .live false 72 3 (.box (eWish wi)), .live false 94 2 (.box (eSlack m)), .live false 33 9 (.box (eInst y)), .live false 46 2 (.box (ePlan p)), .live false 54 2 (.box (eTimes t))]
end Ab
end Go.Proofs.Ytafhjfkdlmijdaa
