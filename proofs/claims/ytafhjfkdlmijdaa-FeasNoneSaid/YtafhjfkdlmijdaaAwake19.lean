/- Contract: wharfagelaw19.Awake answers true. -/
import Derived.Test.YtafhjfkdlmijdaaAwake18
namespace Go.Proofs.Ytafhjfkdlmijdaa
open Go.RowKit

def inst19 : InstD := instZ.putCost 0 1 5
theorem wf19 : InstWf inst19 := by
  unfold InstWf wf64 inst19 instZ InstD.putCost setAt maxLen; simp
theorem clock19 : clockCheck inst19 plan17 (soonD inst19 plan17) = 0 := by decide +kernel
theorem soon19 : soonD inst19 plan17 = ⟨[[0]], [⟨2, [5], 6⟩]⟩ := by decide +kernel
theorem cost19 : costOf inst19 plan17 = 5 := by decide +kernel
theorem make19 : makeF inst19 plan17 = ⟨plan17, ⟨[[0]], [⟨2, [5], 6⟩]⟩, 5⟩ := by
  unfold makeF
  rw [if_pos clock19, soon19, cost19]
theorem feas19 : feasD inst19 ⟨plan17, ⟨[[0]], [⟨2, [5], 6⟩]⟩, 5⟩ = 0 := by decide +kernel
theorem feas19b : feasD inst19 ⟨plan17, ⟨[[0]], [⟨2, [5], 6⟩]⟩, 6⟩ = 14 := by decide +kernel
theorem inst19_ok : inst19.custs.length ≤ 6 := by decide
theorem allocs4 (w : World) (c1 c2 c3 c4 : List Value) (T1 T2 T3 T4 : TypeId) : ∃ W, W = (((w.alloc (.cells c1.toArray T1)).alloc (.cells c2.toArray T2)).alloc (.cells c3.toArray T3)).alloc (.cells c4.toArray T4) ∧ Below w.heap.size w W ∧
    Row W w.heap.size T1 c1 ∧ Row W (w.heap.size + 1) T2 c2 ∧ Row W (w.heap.size + 2) T3 c3 ∧ Row W (w.heap.size + 3) T4 c4 ∧ W.heap.size = w.heap.size + 4 := by
  obtain ⟨W, hW, b1, r1, r2, r3, hz⟩ := allocs3 w c1 c2 c3 T1 T2 T3
  obtain ⟨b4, r4, z4⟩ := alloc_row W c4 T4
  rw [hz] at r4
  refine ⟨_, by rw [← hW], below_step b1 b4, r1.below b4, r2.below b4, r3.below b4, r4, by omega⟩

set_option maxRecDepth 100000 in
set_option maxHeartbeats 3200000 in
theorem awake19_c (w : World) : Calls Try.prog 21 #[] w fun e w' => e = .returned (.bool true) ∧ Below w.heap.size w w' := by
  go_enter Try.func21, Try.ntmps21
  go_wp2_with fail
  refine (one_c _).mono ?_
  rintro e w1 ⟨ds, rfl, hi, hb⟩
  rw [instZ_eq] at hi
  obtain ⟨gs, cs1, gc, cc1, gco, cco, rco, gti, cti, rti, I⟩ := hi.at
  obtain rfl := I.lit
  clear hi
  have R0 := Row.new (w := w1) (e := 33) (cs := [.int .i64 instZ.fin, .int .i64 instZ.tmany, .int .i64 instZ.troom, .int .i64 instZ.bmany, .int .i64 instZ.broom, .slice (some ⟨gs, 0, none⟩) instZ.sats.length cs1, .slice (some ⟨gc, 0, none⟩) instZ.custs.length cc1, .slice (some ⟨gco, 0, none⟩) instZ.cost.length cco, .slice (some ⟨gti, 0, none⟩) instZ.time.length cti]) rfl
  have hob : Old w1 (w1.alloc (.cells ([.int .i64 instZ.fin, .int .i64 instZ.tmany, .int .i64 instZ.troom, .int .i64 instZ.bmany, .int .i64 instZ.broom, .slice (some ⟨gs, 0, none⟩) instZ.sats.length cs1, .slice (some ⟨gc, 0, none⟩) instZ.custs.length cc1, .slice (some ⟨gco, 0, none⟩) instZ.cost.length cco, .slice (some ⟨gti, 0, none⟩) instZ.time.length cti]).toArray 33)) := (Below.refl _ _).alloc (Nat.le_refl _) _
  have I0 := I.below hob
  have hB0 := below_step hb hob
  have hzb := hb.size
  clear hob I hb
  go_upto_region 2 with fail
  generalize hwq : w1.alloc (.cells _ 33) = wq at *
  clear hwq
  go_cut [] (fun wx => InstAt 38 112 34 2 wx w.heap.size inst19 ([.int .i64 instZ.fin, .int .i64 instZ.tmany, .int .i64 instZ.troom, .int .i64 instZ.bmany, .int .i64 instZ.broom, .slice (some ⟨gs, 0, none⟩) instZ.sats.length cs1, .slice (some ⟨gc, 0, none⟩) instZ.custs.length cc1, .slice (some ⟨gco, 0, none⟩) instZ.cost.length cco, .slice (some ⟨gti, 0, none⟩) instZ.time.length cti]) gs cs1 gc cc1 gco cco rco gti cti rti ∧ Row wx w1.heap.size 33 ([.int .i64 instZ.fin, .int .i64 instZ.tmany, .int .i64 instZ.troom, .int .i64 instZ.bmany, .int .i64 instZ.broom, .slice (some ⟨gs, 0, none⟩) instZ.sats.length cs1, .slice (some ⟨gc, 0, none⟩) instZ.custs.length cc1, .slice (some ⟨gco, 0, none⟩) instZ.cost.length cco, .slice (some ⟨gti, 0, none⟩) instZ.time.length cti]) ∧ Below w.heap.size w wx)
  case first =>
    obtain ⟨c0, r0, l0, m0⟩ := I0.costs.row (i := 0) (by decide)
    have I2 := (I0.setCost (i := 0) (j := 1) (by decide) (by decide) (by decide) (by decide) (by decide) 5)
    have hr0 := R0.ne r0 (by decide)
    generalize hx0 : rco.getD 0 0 = x0 at *
    clear hx0 m0
    have R3 := hid (R0.setOther (a := ⟨x0, 1, none⟩) hr0 (intV 5))
    have hB3 := hid (hB0.setCell (p := ⟨x0, 1, none⟩) l0 (intV 5))
    have HI3 := hid I2
    have d0 := r0.cell (j := 1) (by decide)
    have f0 := r0.frozen 1
    have hx0 : ∀ w, (Instr.indexAt 31 (.slice (some ⟨gco, 0, none⟩) instZ.cost.length cco) (.int .i64 0)).run Try.prog w = .ok (.pointer (some ⟨gco, 0, none⟩)) w := idx_at1 Try.underlying31 sz_row rfl (k := 0) (by decide)
    have hx2 : ∀ w, (Instr.indexAt 34 (.slice (some ⟨x0, 0, none⟩) (instZ.cost.getD 0 []).length (instZ.cost.getD 0 []).length) (.int .i64 1)).run Try.prog w = .ok (.pointer (some ⟨x0, 1, none⟩)) w := idx_at1 Try.underlying34 sz_i64 rfl (k := 1) (by decide)
    obtain ⟨q0, q1, q2, q3, q4, q5, q6, q7, q8⟩ := row9 R0
    clear I0 I2 hr0 r0 hB0
    go_wp2
    go_meet
    exact ⟨HI3.out, R3.out, hB3.out⟩
  case rest =>
    obtain ⟨I, R, hB⟩ := hcut
    obtain ⟨wq, rfl⟩ : ∃ wq : World, wq = wc := ⟨_, rfl⟩
    obtain ⟨W, hW, hold, r1, r2, r3, r4, hz⟩ := allocs4 wq [.int .i64 0, .int .i64 2] [.slice (some ⟨wq.heap.size, 0, none⟩) 1 1] [.int .i64 0] [.int .i64 0, .slice (some ⟨wq.heap.size + 2, 0, none⟩) 1 1] 105 108 3 128
    have HW := hid hW
    have HR1 := hid (R.below hold)
    have HB1 := hid (below_step hB hold)
    have HI := hid (show instS.rep W (fun b => w.heap.size ≤ b) inst19 _ from (I.below hold).own.rep wf19)
    have HP := hid (planOne_rep (s := 0) (l := 2) (b := 0) (c := 0) r1 r2 r3 r4 (by unfold wf64; decide) (by unfold wf64; decide) (by unfold wf64; decide) (by unfold wf64; decide))
    obtain ⟨q0, q1, q2, q3, q4, q5, q6, q7, q8⟩ := row9 R
    clear hW hold I R hB r1 r2 r3 r4
    go_wp2_with fail
    rw [show wq.heap.size + 1 + 1 + 1 = wq.heap.size + 3 from rfl, show wq.heap.size + 1 + 1 = wq.heap.size + 2 from rfl, ← HW.out]
    have hE := feasMake_c HI.out HP.out (fun _ => inst19_ok) (by unfold PlanSmall; decide) (by rw [show (⟨[[⟨0, 2⟩]], [⟨0, [0]⟩]⟩ : PlanD) = plan17 from rfl, cost19]; unfold wf64; decide) (by unfold wf64; decide)
    rw [show (⟨[[⟨0, 2⟩]], [⟨0, [0]⟩]⟩ : PlanD) = plan17 from rfl, clock19, make19] at hE
    refine hE.mono ?_
    clear hE
    rintro e w2 ⟨ys, rfl, hy, hb2⟩
    have hopen := hy
    obtain ⟨v1, v2, v3, v4, rfl, -, ⟨u1, u2, e1, t1, t2⟩, ⟨u3, u4, e2, t3, t4⟩⟩ := hopen
    obtain rfl := List.cons.inj e1 |>.1
    obtain rfl := List.cons.inj (List.cons.inj e1 |>.2) |>.1
    obtain rfl := List.cons.inj e2 |>.1
    obtain rfl := List.cons.inj (List.cons.inj e2 |>.2) |>.1
    obtain ⟨a1, b1, off1, c1, hs1, -⟩ := trucks_open t1
    obtain ⟨a2, b2, off2, c2, hs2, -⟩ := bikes_open t2
    obtain ⟨a3, b3, off3, c3, hs3, -⟩ := rows_open t3
    obtain ⟨a4, b4, off4, c4, hs4, -⟩ := rides_open t4
    obtain rfl := List.cons.inj hs1 |>.1
    obtain rfl := List.cons.inj hs2 |>.1
    obtain rfl := List.cons.inj hs3 |>.1
    obtain rfl := List.cons.inj hs4 |>.1
    have hy : sheetS.rep w2 (fun k => W.heap.size ≤ k) ⟨plan17, ⟨[[0]], [⟨2, [5], 6⟩]⟩, 5⟩ [.slice a1 1 c1, .slice a2 1 c2, .slice a3 1 c3, .slice a4 1 c4, .int .i64 5] := hy
    rw [show plan17.trucks.length = 1 from rfl, show plan17.bikes.length = 1 from rfl]
    have hB2 := below_step HB1.out hb2
    have HR2 := hid (HR1.out.below hb2)
    have HI2 := hid (instS.below HI.out hb2)
    obtain ⟨bA, rA, zA⟩ := alloc_row w2 [.slice a1 1 c1, .slice a2 1 c2, .slice a3 1 c3, .slice a4 1 c4, .int .i64 5] 56
    obtain ⟨bB, rB, zB⟩ := alloc_row (w2.alloc (.cells #[.slice a1 1 c1, .slice a2 1 c2, .slice a3 1 c3, .slice a4 1 c4, .int .i64 5] 56)) [.slice a1 1 c1, .slice a2 1 c2, .slice a3 1 c3, .slice a4 1 c4, .int .i64 5] 56
    have hzA : (w2.alloc (.cells #[.slice a1 1 c1, .slice a2 1 c2, .slice a3 1 c3, .slice a4 1 c4, .int .i64 5] 56)).heap.size = w2.heap.size + 1 := zA
    rw [hzA] at rB
    have rA2 := rA.below bB
    have hb3 : Below w2.heap.size w2 _ := below_step bA bB
    have HA3 := hid rA2
    have HC3 := hid rB
    have HB3 := hid hb3
    have HB2 := hid hB2
    have HY2 := hid (sheetS.old hy)
    obtain ⟨qa, hqa⟩ : ∃ q, q = w2.heap.size := ⟨_, rfl⟩
    obtain ⟨qb, hqb⟩ : ∃ q, q = w2.heap.size + 1 := ⟨_, rfl⟩
    have hle : w2.heap.size ≤ qb := by omega
    have hne : qa ≠ qb := by omega
    rw [← hqa] at HA3
    rw [← hqb] at HC3
    clear q0 q1 q2 q3 q4 q5 q6 q7 q8 bA rA zA bB rB zB rA2 hb3 hzA HR1 HI HP HW HB1 hb2 hB2 hy e1 e2 t1 t2 t3 t4 hs1 hs2 hs3 hs4
    go_upto_region 5 with fail
    rw [← hqb, ← hqa]
    generalize (w2.alloc (.cells #[.slice a1 1 c1, .slice a2 1 c2, .slice a3 1 c3, .slice a4 1 c4, .int .i64 5] 56)).alloc _ = w3 at HA3 HC3 HB3 ⊢
    clear hqa hqb
    obtain ⟨b0, b1, b2, b3, b4⟩ := row5 HC3.out
    have fb := HC3.out.frozen 4
    have HA4 := hid (HA3.out.setOther (a := ⟨qb, 4, none⟩) hne (.int .i64 6))
    have HC4 := hid (show Row (w3.setCell ⟨qb, 4, none⟩ (.int .i64 6)) qb 56 [.slice a1 1 c1, .slice a2 1 c2, .slice a3 1 c3, .slice a4 1 c4, .int .i64 6] from HC3.out.set (j := 4) (by simp) (.int .i64 6))
    have HB4 := hid (HB3.out.setCell (p := ⟨qb, 4, none⟩) hle (.int .i64 6))
    go_upto_region 6 with fail
    generalize w3.setCell ⟨qb, 4, none⟩ (.int .i64 6) = w4 at HA4 HC4 HB4 ⊢
    clear b0 b1 b2 b3 b4 fb HA3 HC3 HB3
    have HR4 := hid (HR2.out.below HB4.out)
    have HI4 := hid (instS.below HI2.out HB4.out)
    have HY4 := hid (sheetS.belowB HY2.out HB4.out)
    have HZ4 := hid (show sheetS.rep w4 (fun b => b < w2.heap.size) ⟨plan17, ⟨[[0]], [⟨2, [5], 6⟩]⟩, 6⟩ [.slice a1 1 c1, .slice a2 1 c2, .slice a3 1 c3, .slice a4 1 c4, .int .i64 6] from by
      obtain ⟨v1, v2, v3, v4, e, -, hp, ht⟩ := HY4.out
      simp only [List.cons.injEq] at e
      obtain ⟨rfl, rfl, rfl, rfl, -⟩ := e
      exact ⟨_, _, _, _, rfl, by unfold wf64; decide, hp, ht⟩)
    have HB5 := hid (below_step HB2.out HB4.out)
    obtain ⟨q0, q1, q2, q3, q4, q5, q6, q7, q8⟩ := row9 HR4.out
    obtain ⟨a0, a01, a02, a03, a04⟩ := row5 HA4.out
    clear HR2 HI2 HY2 HB2 HB4 hle hne
    go_wp2_with fail
    have hC := feasCheck_c HI4.out HY4.out (fun _ => inst19_ok) (by unfold PlanSmall; decide)
    rw [feas19] at hC
    refine hC.mono ?_
    clear hC
    rintro e w5 ⟨rfl, hb5⟩
    have HR6 := hid (HR4.out.below hb5)
    have HC6 := hid (HC4.out.below hb5)
    have HI6 := hid (instS.below HI4.out hb5)
    have HZ6 := hid (sheetS.below HZ4.out hb5)
    have HB6 := hid (below_step HB5.out hb5)
    clear q0 q1 q2 q3 q4 q5 q6 q7 q8 a0 a01 a02 a03 a04 HR4 HI4 HY4 HZ4 HB5 HA4 HC4 hb5
    obtain ⟨q0, q1, q2, q3, q4, q5, q6, q7, q8⟩ := row9 HR6.out
    obtain ⟨b0, b1, b2, b3, b4⟩ := row5 HC6.out
    go_wp2_with fail
    have hC := feasCheck_c HI6.out HZ6.out (fun _ => inst19_ok) (by unfold PlanSmall; decide)
    rw [feas19b] at hC
    refine hC.mono ?_
    clear hC
    rintro e w6 ⟨rfl, hb6⟩
    have HB7 := hid (below_step HB6.out hb6)
    clear q0 q1 q2 q3 q4 q5 q6 q7 q8 b0 b1 b2 b3 b4 HR6 HC6 HI6 HZ6 HB6 hb6
    go_wp2_with fail
    refine (awake18_c _).mono ?_
    rintro e w7 ⟨rfl, hb7⟩
    have HB8 := hid (below_step HB7.out hb7)
    clear HB7 hb7
    go_wp2
    go_ret
    exact ⟨rfl, HB8.out⟩
end Go.Proofs.Ytafhjfkdlmijdaa
