/- Contract: wharfagelaw22.HaulOrders answers true. -/
import Derived.Test.YtafhjfkdlmijdaaOrderW
import Derived.Test.YtafhjfkdlmijdaaLoadsU
import Derived.Test.YtafhjfkdlmijdaaAwake22
import Derived.Test.YtafhjfkdlmijdaaMakeOk
import Derived.Test.YtafhjfkdlmijdaaHaulErrors
namespace Go.Proofs.Ytafhjfkdlmijdaa
open Go.RowKit

theorem make_cost {x : SmallD} (k : Int) : 0 ≤ costAt (makeD x) 0 k ∧ costAt (makeD x) 0 k < 30 := by
  unfold costAt
  have hs : (makeD x).cost = square11 x.cost (nodesOf x) := rfl
  rw [hs, show (0 : Int).toNat = 0 from rfl]
  generalize k.toNat = j
  have hl : (square11 x.cost (nodesOf x)).length = nodesOf x := by unfold square11; exact sqSt_len _ _ _
  have h0 : 0 < (square11 x.cost (nodesOf x)).length := by rw [hl]; unfold nodesOf; omega
  rw [show (square11 x.cost (nodesOf x)).getD 0 [] = (square11 x.cost (nodesOf x))[0] from by rw [List.getD_eq_getElem?_getD, List.getElem?_eq_getElem h0]; rfl]
  have := (sqSt_row x.cost (nodesOf x) (nodesOf x) 0 h0).2 j
  have h1 := this.1
  have h2 := this.2.1
  have e : (square11 x.cost (nodesOf x))[0] = (sqSt x.cost (nodesOf x) (nodesOf x)).1[0] := rfl
  rw [e]
  omega
theorem make_room {x : SmallD} (h : SmallWf x) : ∀ s ∈ (makeD x).sats, 0 ≤ s.room ∧ s.room ≤ 1000000000 := fun s hs => by
  have := (sat_may h s hs).1; omega
theorem make_order {x : SmallD} (h : SmallWf x) {l : List Int} (hl : ∀ v ∈ l, wf8 v) : orderD (makeD x) (loadsU (makeD x) l) = orderW (makeD x) (loadsU (makeD x) l) (loadsU (makeD x) l).length :=
  order_law (make_check h) (loadsUp_len _ _ _) (fun _ => make_cost _) (fun v hv => (loadsU_mem hl (fun s hs => (make_room h s hs).1) v hv).2)

set_option maxRecDepth 100000 in
set_option maxHeartbeats 3200000 in
theorem haulOrders_c {w : World} {F G : Nat → Prop} {sm : SmallD} {cs1 : List Value} {l : List Int} {v : Value} (h1 : smallS.rep w F sm cs1) (h3 : bytesS.rep w G l [v]) :
    Calls Try.prog 5 #[.agg cs1.toArray, v] w fun e w' => e = .returned (.bool true) ∧ Below w.heap.size w w' := by
  have hsrep := h1
  have hlrep := h3
  have hswf := small_wf h1
  obtain ⟨s5, s6, s7, s8, rfl, -, g1, g2, g3, g4⟩ := h1
  obtain ⟨a3, b3, off3, c3, hs3, hl3, hc3, ha3, -, hcell3, hwf3⟩ := bytes_open h3
  obtain rfl := List.cons.inj hs3 |>.1
  clear hs3 g1 g2 g3 g4 h3 hcell3 ha3
  have S0 := Row.new (w := w) (e := 26) (cs := [.int .u8 sm.fin, .int .u8 sm.trucks, .int .u8 sm.troom, .int .u8 sm.bikes, .int .u8 sm.broom, s5, s6, s7, s8, .bool sm.tight, .bool sm.loose]) rfl
  have hb0 : Below w.heap.size w (w.alloc (.cells #[.int .u8 sm.fin, .int .u8 sm.trucks, .int .u8 sm.troom, .int .u8 sm.bikes, .int .u8 sm.broom, s5, s6, s7, s8, .bool sm.tight, .bool sm.loose] 26)) := (Below.refl _ _).alloc (Nat.le_refl _) _
  obtain ⟨lo, hlo⟩ : ∃ lo, sm.loose = lo := ⟨_, rfl⟩
  obtain ⟨ti, hti⟩ : ∃ ti, sm.tight = ti := ⟨_, rfl⟩
  rw [hlo, hti] at S0 hb0 hsrep
  rw [hlo, hti]
  clear hlo hti
  go_enter Try.func5, Try.ntmps5
  go_wp2_with fail
  refine (awake22_c _).mono ?_
  rintro e w1 ⟨rfl, hbA⟩
  have S1 := S0.below hbA
  have hB1 := below_step hb0 hbA
  clear S0 hb0 hbA
  obtain ⟨p0, p1, p2, p3, p4, p5, p6, p7, p8, p9, p10⟩ := row11 S1
  go_wp2_with fail
  refine (make_c (smallS.below hsrep hB1)).mono ?_
  rintro e w2 ⟨ds, rfl, hi, hbM⟩
  have hchk := make_check hswf
  have hmw := make_wf hswf
  have hroom := make_room hswf
  have hord := make_order hswf hwf3
  obtain ⟨y, hy⟩ : ∃ y, y = makeD sm := ⟨_, rfl⟩
  rw [← hy] at hi hchk hmw hroom hord
  obtain ⟨gs, ks1, gc, kc1, gco, cco, rco, gti, cti, rti, I⟩ := hi.at
  obtain rfl := I.lit
  have hyr := I.own.rep hmw
  have hB2 := below_step hB1 hbM
  have hyn := (good_of hchk).sats
  obtain ⟨hby, hY, hzy⟩ := alloc_row w2 [.int .i64 y.fin, .int .i64 y.tmany, .int .i64 y.troom, .int .i64 y.bmany, .int .i64 y.broom, .slice (some ⟨gs, 0, none⟩) y.sats.length ks1, .slice (some ⟨gc, 0, none⟩) y.custs.length kc1, .slice (some ⟨gco, 0, none⟩) y.cost.length cco, .slice (some ⟨gti, 0, none⟩) y.time.length cti] 33
  have hB3 := below_step hB2 hby
  have HY3 := hid (instS.below hyr hby)
  have HCH := hid hchk
  have HORD := hid hord
  have HL3 := hid (bytesS.below hlrep hB3)
  have HROOM := hid hroom
  have HLM := hid (loadsU_mem (x := y) hwf3 (fun s hs => (hroom s hs).1))
  clear hy hi I hmw hchk S1 hB1 hbM p0 p1 p2 p3 p4 p5 p6 p7 p8 p9 p10 hyr hby hsrep hlrep hswf hwf3 hord hroom hB2
  obtain ⟨q0, q1, q2, q3, q4, q5, q6, q7, q8⟩ := row9 hY
  go_wp2_with fail
  refine (loadsU_c HY3.out HL3.out (by omega) HROOM.out).mono ?_
  rintro e w4 ⟨u, rfl, hr, hb4⟩
  have Y4 := hY.below hb4
  have hB4 := below_step hB3 hb4
  have HY4 := hid (instS.below HY3.out hb4)
  have HR4 := hid hr
  obtain ⟨o1, o2, o3, o4, hu, -, -, -, -, -, -⟩ := ints_open hr
  obtain rfl := List.cons.inj hu |>.1
  clear hr hu hb4 HY3 HL3 hB3 q0 q1 q2 q3 q4 q5 q6 q7 q8
  obtain ⟨q0, q1, q2, q3, q4, q5, q6, q7, q8⟩ := row9 Y4
  obtain ⟨wq, rfl⟩ : ∃ wq : World, wq = w4 := ⟨_, rfl⟩
  go_wp2_with fail
  have z0 : ∀ e : At (Old wq), _ := fun e => e.cell q0
  have z1 : ∀ e : At (Old wq), _ := fun e => e.cell q1
  have z2 : ∀ e : At (Old wq), _ := fun e => e.cell q2
  have z3 : ∀ e : At (Old wq), _ := fun e => e.cell q3
  have z4 : ∀ e : At (Old wq), _ := fun e => e.cell q4
  have z5 : ∀ e : At (Old wq), _ := fun e => e.cell q5
  have z6 : ∀ e : At (Old wq), _ := fun e => e.cell q6
  have z7 : ∀ e : At (Old wq), _ := fun e => e.cell q7
  have z8 : ∀ e : At (Old wq), _ := fun e => e.cell q8
  refine wp_region_mix (Old wq) [] [([0, 1, 3, 4], 2, false), ([], 5, false), ([], 6, false), ([], 7, false)] (by kernel_rfl) (by kernel_rfl) (fun _ _ d _ _ h => by cases d <;> exact h) (Old.drew _) ?_
  simp only [mixOf, List.map_cons, List.map_nil, Array.getD_eq_getD_getElem?, List.getElem?_toArray, List.getElem?_cons_succ, List.getElem?_cons_zero, Option.getD_some, wpMix]
  repeat (go_big_quiet_step (fail))
  refine wpQuiet_nil ?_
  have hO0 := Old.drew wq
  go_wp2_with fail
  refine (order_c (instS.below HY4.out hO0) ((sliceS intS).below HR4.out hO0)).mono ?_
  rintro e w5 ⟨u5, rfl, hr5, hb5⟩
  have hO1 := hO0.step hb5
  go_wp2_with fail
  refine ⟨hO1, wpQuiet_nil ?_⟩
  go_wp2_with fail
  refine (orderW_c (instS.below HY4.out hO1) ((sliceS intS).below HR4.out hO1) HCH.out (loadsUp_len _ _ _) (fun v hv => by have := HLM.out v hv; omega)).mono ?_
  rintro e w6 ⟨u6, rfl, hr6, hb6⟩
  have hO2 := hO1.step hb6
  go_wp2_with fail
  refine ⟨hO2, wpQuiet_nil ?_⟩
  go_wp2_with fail
  refine (eqInts_c ((sliceS intS).below hr5 hb6) hr6).mono ?_
  rintro e w7 ⟨rfl, n, rfl⟩
  rw [HORD.out, decide_eq_true rfl]
  have hO3 : Old wq (w6.drewN n) := below_drewN hO2 n
  go_wp2_with fail
  refine ⟨hO3, wpQuiet_nil ?_⟩
  go_wp2_with fail
  refine ⟨hO3, ?_⟩
  go_wp2
  go_ret
  exact ⟨rfl, below_step hB4 hO3⟩
end Go.Proofs.Ytafhjfkdlmijdaa
