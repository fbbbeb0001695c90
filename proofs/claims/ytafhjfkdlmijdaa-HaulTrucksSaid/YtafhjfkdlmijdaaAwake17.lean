/- Contract: wharfagelaw17.Awake answers true. -/
import Derived.Test.YtafhjfkdlmijdaaCost
import Derived.Test.YtafhjfkdlmijdaaLit
import Derived.Test.YtafhjfkdlmijdaaOne
namespace Go.Proofs.Ytafhjfkdlmijdaa
open Go.RowKit

def instZ : InstD := ⟨40, 1, 5, 1, 3, [⟨60, 2⟩], [⟨2, 5, 90, 1⟩], [[0, 0, 0], [0, 0, 0], [0, 0, 0]], [[0, 0, 0], [0, 0, 0], [0, 0, 0]]⟩
theorem instZ_eq : makeD smallZ = instZ := by decide
def inst17 : InstD := (instZ.putCost 0 1 5).putCost 1 2 7
def plan17 : PlanD := ⟨[[⟨0, 2⟩]], [⟨0, [0]⟩]⟩
theorem wf17 : InstWf inst17 := by
  unfold InstWf wf64 inst17 instZ InstD.putCost setAt maxLen; simp
theorem check17 : planCheck inst17 plan17 = 0 := by decide +kernel
theorem cost17 : costOf inst17 plan17 = 12 := by decide +kernel
theorem check17e : planCheck inst17 ⟨[], []⟩ = 8 := by decide +kernel
theorem inst17_ok : inst17.custs.length ≤ 6 := by decide
/-- A plan's two slices read, the plan reads. -/
theorem planE_rep (w : World) : planS.rep w (fun _ => True) ⟨[], []⟩ [.slice none 0 0, .slice none 0 0] :=
  ⟨_, _, rfl, ⟨none, 0, 0, 0, rfl, Nat.le_refl _, Nat.zero_le _, fun h => absurd h (Nat.not_lt_zero _), fun i h => absurd h (Nat.not_lt_zero _)⟩, ⟨none, 0, 0, 0, rfl, Nat.le_refl _, Nat.zero_le _, fun h => absurd h (Nat.not_lt_zero _), fun i h => absurd h (Nat.not_lt_zero _)⟩⟩
/-- The plan of one truck with one stop, one bike with one customer, as it is written out. -/
theorem planOne_rep {w : World} {h1 h2 h3 h4 : Nat} {s l b c : Int} {T1 T2 T3 T4 : TypeId} (r1 : Row w h1 T1 [.int .i64 s, .int .i64 l]) (r2 : Row w h2 T2 [.slice (some ⟨h1, 0, none⟩) 1 1]) (r3 : Row w h3 T3 [.int .i64 c]) (r4 : Row w h4 T4 [.int .i64 b, .slice (some ⟨h3, 0, none⟩) 1 1])
    (w1 : wf64 s) (w2 : wf64 l) (w3 : wf64 b) (w4 : wf64 c) : planS.rep w (fun _ => True) ⟨[[⟨s, l⟩]], [⟨b, [c]⟩]⟩ [.slice (some ⟨h2, 0, none⟩) 1 1, .slice (some ⟨h4, 0, none⟩) 1 1] := by
  have e1 : (sliceS stopS).rep w (fun _ => True) [⟨s, l⟩] [.slice (some ⟨h1, 0, none⟩) 1 1] := lit1 (S := stopS) ⟨rfl, w1, w2⟩ r1 trivial
  have e2 : trucksS.rep w (fun _ => True) [[⟨s, l⟩]] [.slice (some ⟨h2, 0, none⟩) 1 1] := lit1 (S := sliceS stopS) e1 r2 trivial
  have e3 : (sliceS intS).rep w (fun _ => True) [c] [.slice (some ⟨h3, 0, none⟩) 1 1] := lit1 (S := intS) ⟨rfl, w4⟩ r3 trivial
  have e4 : bikesS.rep w (fun _ => True) [⟨b, [c]⟩] [.slice (some ⟨h4, 0, none⟩) 1 1] := lit1 (S := bikeS) ⟨_, rfl, w3, e3⟩ r4 trivial
  exact ⟨_, _, rfl, e2, e4⟩

set_option maxRecDepth 100000 in
set_option maxHeartbeats 3200000 in
theorem awake17_c (w : World) : Calls Try.prog 48 #[] w fun e w' => e = .returned (.bool true) ∧ Below w.heap.size w w' := by
  go_enter Try.func48, Try.ntmps48
  go_wp2_with fail
  refine (one_c _).mono ?_
  rintro e w1 ⟨ds, rfl, hi, hb⟩
  rw [instZ_eq] at hi
  obtain ⟨gs, cs1, gc, cc1, gco, cco, rco, gti, cti, rti, I⟩ := hi.at
  obtain rfl := I.lit
  clear hi
  have R0 := Row.new (w := w1) (e := 33) (cs := [.int .i64 instZ.fin, .int .i64 instZ.tmany, .int .i64 instZ.troom, .int .i64 instZ.bmany, .int .i64 instZ.broom, .slice (some ⟨gs, 0, none⟩) instZ.sats.length cs1, .slice (some ⟨gc, 0, none⟩) instZ.custs.length cc1, .slice (some ⟨gco, 0, none⟩) instZ.cost.length cco, .slice (some ⟨gti, 0, none⟩) instZ.time.length cti]) rfl
  have hob : Old w1 (w1.alloc (.cells ([.int .i64 instZ.fin, .int .i64 instZ.tmany, .int .i64 instZ.troom, .int .i64 instZ.bmany, .int .i64 instZ.broom, .slice (some ⟨gs, 0, none⟩) instZ.sats.length cs1, .slice (some ⟨gc, 0, none⟩) instZ.custs.length cc1, .slice (some ⟨gco, 0, none⟩) instZ.cost.length cco, .slice (some ⟨gti, 0, none⟩) instZ.time.length cti]).toArray 33)) := (Below.refl _ _).alloc (Nat.le_refl _) _
  have I0 := I.below hob
  have hB0 := below_step hb hob
  have hzb := hb.size
  clear hob I hb
  go_upto_region 2 with fail
  generalize hwq : w1.alloc (.cells _ 33) = wq at *
  clear hwq
  go_cut [] (fun wx => InstAt 38 112 34 2 wx w.heap.size inst17 ([.int .i64 instZ.fin, .int .i64 instZ.tmany, .int .i64 instZ.troom, .int .i64 instZ.bmany, .int .i64 instZ.broom, .slice (some ⟨gs, 0, none⟩) instZ.sats.length cs1, .slice (some ⟨gc, 0, none⟩) instZ.custs.length cc1, .slice (some ⟨gco, 0, none⟩) instZ.cost.length cco, .slice (some ⟨gti, 0, none⟩) instZ.time.length cti]) gs cs1 gc cc1 gco cco rco gti cti rti ∧ Row wx w1.heap.size 33 ([.int .i64 instZ.fin, .int .i64 instZ.tmany, .int .i64 instZ.troom, .int .i64 instZ.bmany, .int .i64 instZ.broom, .slice (some ⟨gs, 0, none⟩) instZ.sats.length cs1, .slice (some ⟨gc, 0, none⟩) instZ.custs.length cc1, .slice (some ⟨gco, 0, none⟩) instZ.cost.length cco, .slice (some ⟨gti, 0, none⟩) instZ.time.length cti]) ∧ Below w.heap.size w wx)
  case first =>
    obtain ⟨c0, r0, l0, m0⟩ := I0.costs.row (i := 0) (by decide)
    obtain ⟨c1, r1, l1, m1⟩ := I0.costs.row (i := 1) (by decide)
    have hne := I0.costs.apart (i := 0) (i' := 1) (by decide) (by decide) (by decide)
    have I2 := (I0.setCost (i := 0) (j := 1) (by decide) (by decide) (by decide) (by decide) (by decide) 5)
    have I3 := (I2.setCost (i := 1) (j := 2) (by decide) (by decide) (by decide) (by decide) (by decide) 7)
    have hr0 := R0.ne r0 (by decide)
    have hr1 := R0.ne r1 (by decide)
    generalize hx0 : rco.getD 0 0 = x0 at *
    generalize hx1 : rco.getD 1 0 = x1 at *
    clear hx0 hx1 m0 m1
    have R3 := hid ((R0.setOther (a := ⟨x0, 1, none⟩) hr0 (intV 5)).setOther (a := ⟨x1, 2, none⟩) hr1 (intV 7))
    have hB3 := hid ((hB0.setCell (p := ⟨x0, 1, none⟩) l0 (intV 5)).setCell (p := ⟨x1, 2, none⟩) l1 (intV 7))
    have HI3 := hid I3
    have d0 := r0.cell (j := 1) (by decide)
    have d1 := r1.cell (j := 2) (by decide)
    have f0 := r0.frozen 1
    have f1 := r1.frozen 2
    have hx0 : ∀ w, (Instr.indexAt 31 (.slice (some ⟨gco, 0, none⟩) instZ.cost.length cco) (.int .i64 0)).run Try.prog w = .ok (.pointer (some ⟨gco, 0, none⟩)) w := idx_at1 Try.underlying31 sz_row rfl (k := 0) (by decide)
    have hx1 : ∀ w, (Instr.indexAt 31 (.slice (some ⟨gco, 0, none⟩) instZ.cost.length cco) (.int .i64 1)).run Try.prog w = .ok (.pointer (some ⟨gco, 1, none⟩)) w := idx_at1 Try.underlying31 sz_row rfl (k := 1) (by decide)
    have hx2 : ∀ w, (Instr.indexAt 34 (.slice (some ⟨x0, 0, none⟩) (instZ.cost.getD 0 []).length (instZ.cost.getD 0 []).length) (.int .i64 1)).run Try.prog w = .ok (.pointer (some ⟨x0, 1, none⟩)) w := idx_at1 Try.underlying34 sz_i64 rfl (k := 1) (by decide)
    have hx3 : ∀ w, (Instr.indexAt 34 (.slice (some ⟨x1, 0, none⟩) (instZ.cost.getD 1 []).length (instZ.cost.getD 1 []).length) (.int .i64 2)).run Try.prog w = .ok (.pointer (some ⟨x1, 2, none⟩)) w := idx_at1 Try.underlying34 sz_i64 rfl (k := 2) (by decide)
    clear I0 I2 I3 hr0 hr1 r0 r1 hB0
    obtain ⟨q0, q1, q2, q3, q4, q5, q6, q7, q8⟩ := row9 R0
    have z7 : ∀ e : At (Old wq), _ := fun e => e.cell q7
    have z9 : ∀ e : At (Old wq), _ := fun e => e.cell c0
    have z10 : ∀ e : At (Old wq), _ := fun e => e.cell c1
    refine wp_region_mix (Old wq) [9, 10, 11] [([0, 1, 2, 3, 4, 5, 6, 7], 8, false), ([], 9, true), ([], 10, true), ([], 11, true)] (by kernel_rfl) (by kernel_rfl) (fun _ _ d _ _ h => by cases d <;> exact h) (Old.drew _) ?_
    simp only [mixOf, List.map_cons, List.map_nil, Array.getD_eq_getD_getElem?, List.getElem?_toArray, List.getElem?_cons_succ, List.getElem?_cons_zero, Option.getD_some, wpMix]
    repeat (go_big_quiet_step (fail))
    refine wpQuiet_nil ?_
    go_wp2
    refine ⟨Old.drew _, wpQuiet_nil ?_⟩
    go_wp2
    refine wpQuiet_nil ?_
    go_wp2
    refine wpQuiet_nil ?_
    go_wp2
    go_meet
    exact ⟨HI3.out.drew, R3.out.drew, hB3.out.drew⟩
  case rest =>
    obtain ⟨I, R, hB⟩ := hcut
    obtain ⟨wq, rfl⟩ : ∃ wq : World, wq = wc := ⟨_, rfl⟩
    obtain ⟨W, hW, hold, r1, r2, r3, r4, r5, hz⟩ := allocs5 wq [.int .i64 0, .int .i64 2] [.slice (some ⟨wq.heap.size, 0, none⟩) 1 1] [.int .i64 0] [.int .i64 0, .slice (some ⟨wq.heap.size + 2, 0, none⟩) 1 1] [.slice (some ⟨wq.heap.size + 1, 0, none⟩) 1 1, .slice (some ⟨wq.heap.size + 3, 0, none⟩) 1 1] 105 108 3 128 46
    have HW := hid hW
    have R1 := R.below hold
    have hB1 := below_step hB hold
    have hI : instS.rep W (fun b => w.heap.size ≤ b) inst17 _ := (I.below hold).own.rep wf17
    have hP := planOne_rep (s := 0) (l := 2) (b := 0) (c := 0) r1 r2 r3 r4 (by unfold wf64; decide) (by unfold wf64; decide) (by unfold wf64; decide) (by unfold wf64; decide)
    have HI := hid hI
    have HP := hid hP
    obtain ⟨q0, q1, q2, q3, q4, q5, q6, q7, q8⟩ := row9 R
    have hzq := R.lt
    have hzq1 : w1.heap.size < wq.heap.size + 1 := by omega
    have hzq2 : w1.heap.size < wq.heap.size + 1 + 1 := by omega
    have hzq3 : w1.heap.size < wq.heap.size + 1 + 1 + 1 := by omega
    have hzq4 : w1.heap.size < wq.heap.size + 1 + 1 + 1 + 1 := by omega
    clear hW hold I R hB hI hP r1 r2 r3 r4
    go_wp2_with fail
    rw [show wq.heap.size + 1 + 1 + 1 = wq.heap.size + 3 from rfl, show wq.heap.size + 1 + 1 = wq.heap.size + 2 from rfl, ← HW.out]
    refine (cost_c HI.out HP.out (fun _ => inst17_ok) (by unfold PlanSmall; decide)).mono ?_
    rintro e w2 ⟨rfl, hb2⟩
    rw [show (⟨[[⟨0, 2⟩]], [⟨0, [0]⟩]⟩ : PlanD) = plan17 from rfl, cost17, check17]
    have R2 := R1.below hb2
    have P2 := r5.below hb2
    have hB2 := below_step hB1 hb2
    have HI2 := hid (instS.below HI.out hb2)
    have HP2 := hid (planS.below HP.out hb2)
    clear q0 q1 q2 q3 q4 q5 q6 q7 q8 HI HP R1 r5 hB1 hb2 HW
    obtain ⟨q0, q1, q2, q3, q4, q5, q6, q7, q8⟩ := row9 R2
    obtain ⟨p0, p1⟩ := row2 P2
    go_wp2_with fail
    refine (planCheck_c HI2.out HP2.out (fun _ => inst17_ok) (by unfold PlanSmall; decide)).mono ?_
    rintro e w3 ⟨rfl, hb3⟩
    rw [show (⟨[[⟨0, 2⟩]], [⟨0, [0]⟩]⟩ : PlanD) = plan17 from rfl, check17]
    have R3 := R2.below hb3
    have hB3 := below_step hB2 hb3
    have HI3 := hid (instS.below HI2.out hb3)
    clear q0 q1 q2 q3 q4 q5 q6 q7 q8 p0 p1 HI2 HP2 R2 P2 hB2 hb3
    obtain ⟨q0, q1, q2, q3, q4, q5, q6, q7, q8⟩ := row9 R3
    go_wp2_with fail
    refine (planCheck_c HI3.out (planE_rep _) (fun _ => inst17_ok) (by unfold PlanSmall; decide)).mono ?_
    rintro e w4 ⟨rfl, hb4⟩
    rw [check17e]
    go_wp2
    go_ret
    exact ⟨rfl, below_step hB3 hb4⟩
end Go.Proofs.Ytafhjfkdlmijdaa
