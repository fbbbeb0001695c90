/- Contract: wharfagelaw19.FeasNone answers true. -/
import Derived.Test.YtafhjfkdlmijdaaAwake19
namespace Go.Proofs.Ytafhjfkdlmijdaa
open Go.RowKit

set_option maxRecDepth 100000 in
set_option maxHeartbeats 3200000 in
theorem feasNone_c {w : World} {F G : Nat → Prop} {x : InstD} {y : SheetD} {cs ys : List Value} (h : instS.rep w F x cs) (hy : sheetS.rep w G y ys) :
    Calls Try.prog 4 #[.agg cs.toArray, .agg ys.toArray] w fun e w' => e = .returned (.bool true) ∧ Below w.heap.size w w' := by
  have hrep := h
  obtain ⟨s, c, co, ti, rfl, -, k1, k2, -, -⟩ := h
  obtain ⟨a1, b1, off1, c1, hs1, -, -, -, -, -, -⟩ := sats_open k1
  obtain ⟨a2, b2, off2, c2, hs2, hlc2, hc2, -, -, -, -⟩ := custs_open k2
  obtain rfl := List.cons.inj hs1 |>.1
  obtain rfl := List.cons.inj hs2 |>.1
  obtain ⟨v1, v2, v3, v4, rfl, -, hp, ht⟩ := hy
  have hs0 := FSt.start w 33 56 [.int .i64 x.fin, .int .i64 x.tmany, .int .i64 x.troom, .int .i64 x.bmany, .int .i64 x.broom, .slice a1 x.sats.length c1, .slice a2 x.custs.length c2, co, ti] [v1, v2, v3, v4, .int .i64 y.cost]
  obtain ⟨yc, hyc⟩ : ∃ c, c = y.cost := ⟨_, rfl⟩
  rw [← hyc] at hs0 ⊢
  clear hyc
  go_enter Try.func4, Try.ntmps4
  go_upto_region 1 with fail
  generalize (w.alloc (.cells #[.int .i64 x.fin, .int .i64 x.tmany, .int .i64 x.troom, .int .i64 x.bmany, .int .i64 x.broom, .slice a1 x.sats.length c1, .slice a2 x.custs.length c2, co, ti] 33)).alloc (.cells #[v1, v2, v3, v4, .int .i64 yc] 56) = w1 at hs0 ⊢
  have HREP := hid (instS.below hrep hs0.bel)
  have HP := hid (planS.below hp hs0.bel)
  have HS := hid hs0
  clear hs0 hrep hp ht hs1 hs2 k1 k2
  go_wp2_with fail
  refine (awake19_c _).mono ?_
  rintro e w2 ⟨rfl, hb2⟩
  have HS2 := hid (HS.out.below hb2)
  have HREP2 := hid (instS.below HREP.out hb2)
  have HP2 := hid (planS.below HP.out hb2)
  clear HS HREP HP hb2
  go_upto_region 3 with fail
  obtain ⟨q0, q1, q2, q3, q4, q5, q6, q7, q8⟩ := row9 HS2.out.one
  obtain ⟨p0, p1, p2, p3, p4⟩ := row5 HS2.out.two
  have HB2 := hid HS2.out.bel
  by_cases hc : x.custs.length > 60
  · have hc' : (x.custs.length : Int) > 60 := by omega
    go_wp2
    go_ret
    exact ⟨rfl, HB2.out⟩
  · have hc' : ¬ (x.custs.length : Int) > 60 := by omega
    go_wp2_with fail
    refine (light_c HP2.out).mono ?_
    rintro e w3 ⟨b, rfl, hb3⟩
    have HS3 := hid (HS2.out.below hb3)
    have HREP3 := hid (instS.below HREP2.out hb3)
    have HB3 := hid HS3.out.bel
    clear q0 q1 q2 q3 q4 q5 q6 q7 q8 p0 p1 p2 p3 p4 HS2 HREP2 HP2 HB2 hb3 hc
    cases b
    · go_wp2
      go_ret
      exact ⟨rfl, HB3.out⟩
    · obtain ⟨q0, q1, q2, q3, q4, q5, q6, q7, q8⟩ := row9 HS3.out.one
      go_wp2_with fail
      refine (check_c HREP3.out).mono ?_
      rintro e w4 ⟨rfl, hb4⟩
      have HS4 := hid (HS3.out.below hb4)
      have HREP4 := hid (instS.below HREP3.out hb4)
      have HB4 := hid HS4.out.bel
      clear q0 q1 q2 q3 q4 q5 q6 q7 q8 HS3 HREP3 HB3 hb4
      by_cases hk : check x = 0
      · rw [hk]
        go_wp2
        go_ret
        exact ⟨rfl, HB4.out⟩
      · obtain ⟨q0, q1, q2, q3, q4, q5, q6, q7, q8⟩ := row9 HS4.out.one
        obtain ⟨p0, p1, p2, p3, p4⟩ := row5 HS4.out.two
        have HK := hid hk
        have hk2 : ¬ check x = 0 := hk
        have hk3 := bne_zero hk
        clear hk
        go_wp2_with fail
        refine (fmakeBad_c HREP4.out HK.out _ _).mono ?_
        rintro e w5 ⟨rfl, hb5⟩
        have hal : Below w5.heap.size w5 (w5.alloc (.cells #[.slice none 0 0, .slice none 0 0, .slice none 0 0, .slice none 0 0, .int .i64 0] 56)) := (Below.refl _ _).alloc (Nat.le_refl _) _
        have hb6 := below_step hb5 hal
        have HS6 := hid (HS4.out.below hb6)
        have HREP6 := hid (instS.below HREP4.out hb6)
        have HX6 := hid (Row.new (w := w5) (g := w5.heap.size) (e := 56) (cs := [.slice none 0 0, .slice none 0 0, .slice none 0 0, .slice none 0 0, .int .i64 0]) rfl)
        obtain ⟨qx, hqx⟩ : ∃ q, q = w5.heap.size := ⟨_, rfl⟩
        rw [← hqx] at HX6
        clear q0 q1 q2 q3 q4 q5 q6 q7 q8 p0 p1 p2 p3 p4 HS4 HREP4 HB4 hb5 hb6 hal
        go_upto_region 6 with fail
        rw [← hqx]
        generalize w5.alloc (.cells #[.slice none 0 0, .slice none 0 0, .slice none 0 0, .slice none 0 0, .int .i64 0] 56) = w6 at HS6 HREP6 HX6 ⊢
        clear hqx
        obtain ⟨q0, q1, q2, q3, q4, q5, q6, q7, q8⟩ := row9 HS6.out.one
        obtain ⟨p0, p1, p2, p3, p4⟩ := row5 HS6.out.two
        obtain ⟨x0, x1, x2, x3, x4⟩ := row5 HX6.out
        have HB6 := hid HS6.out.bel
        go_wp2
        have z0 : ∀ e : At (Old w6), _ := fun e => e.cell q0
        have z1 : ∀ e : At (Old w6), _ := fun e => e.cell q1
        have z2 : ∀ e : At (Old w6), _ := fun e => e.cell q2
        have z3 : ∀ e : At (Old w6), _ := fun e => e.cell q3
        have z4 : ∀ e : At (Old w6), _ := fun e => e.cell q4
        have z5 : ∀ e : At (Old w6), _ := fun e => e.cell q5
        have z6 : ∀ e : At (Old w6), _ := fun e => e.cell q6
        have z7 : ∀ e : At (Old w6), _ := fun e => e.cell q7
        have z8 : ∀ e : At (Old w6), _ := fun e => e.cell q8
        have y0 : ∀ e : At (Old w6), _ := fun e => e.cell p0
        have y1 : ∀ e : At (Old w6), _ := fun e => e.cell p1
        have y2 : ∀ e : At (Old w6), _ := fun e => e.cell p2
        have y3 : ∀ e : At (Old w6), _ := fun e => e.cell p3
        have y4 : ∀ e : At (Old w6), _ := fun e => e.cell p4
        have yx : ∀ e : At (Old w6), _ := fun e => e.cell x4
        refine wp_region_mix (Old w6) [17] [([0, 1, 3], 2, false), ([], 4, false), ([5, 6, 7, 8], 9, false), ([10, 11, 12, 13, 14, 15], 16, false), ([], 17, true)] (by kernel_rfl) (by kernel_rfl) (fun _ _ d _ _ h => by cases d <;> exact h) (Old.drew _) ?_
        simp only [mixOf, List.map_cons, List.map_nil, Array.getD_eq_getD_getElem?, List.getElem?_toArray, List.getElem?_cons_succ, List.getElem?_cons_zero, Option.getD_some, wpMix]
        repeat (go_big_quiet_step (fail))
        refine wpQuiet_nil ?_
        have hO0 := Old.drew w6
        go_wp2_with fail
        refine (fcheckBad_c (instS.below HREP6.out hO0) HK.out _ _ _ _ _).mono ?_
        rintro e w7 ⟨rfl, hb7⟩
        have hO7 := hO0.step hb7
        go_wp2_with fail
        refine ⟨hO7, wpQuiet_nil ?_⟩
        go_wp2_with fail
        refine (check_c (instS.below HREP6.out hO7)).mono ?_
        rintro e w8 ⟨rfl, hb8⟩
        have hO8 := hO7.step hb8
        go_wp2_with fail
        refine ⟨hO8, ?_⟩
        repeat (go_big_quiet_step (fail))
        refine wpQuiet_nil ?_
        go_wp2_with fail
        refine (check_c (instS.below HREP6.out hO8)).mono ?_
        rintro e w9 ⟨rfl, hb9⟩
        have hO9 := hO8.step hb9
        go_wp2_with fail
        refine ⟨hO9, ?_⟩
        repeat (go_big_quiet_step (fail))
        refine wpQuiet_nil ?_
        go_wp2_with fail
        refine ⟨hO9, wpQuiet_nil ?_⟩
        go_wp2
        go_ret
        exact ⟨rfl, HB6.out.trans (hO9.mono HB6.out.size)⟩
end Go.Proofs.Ytafhjfkdlmijdaa
