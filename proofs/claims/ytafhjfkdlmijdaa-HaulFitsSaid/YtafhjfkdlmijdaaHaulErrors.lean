/- Contract: wharfagelaw22.HaulErrors answers true. -/
import Derived.Test.YtafhjfkdlmijdaaAwake22
import Derived.Test.YtafhjfkdlmijdaaMakeOk
namespace Go.Proofs.Ytafhjfkdlmijdaa
open Go.RowKit

theorem row11 {w : World} {g : Nat} {e : TypeId} {v0 v1 v2 v3 v4 v5 v6 v7 v8 v9 v10 : Value} (h : Row w g e [v0, v1, v2, v3, v4, v5, v6, v7, v8, v9, v10]) :
    w.cell? ⟨g, 0, none⟩ = some v0 ∧ w.cell? ⟨g, 1, none⟩ = some v1 ∧ w.cell? ⟨g, 2, none⟩ = some v2 ∧ w.cell? ⟨g, 3, none⟩ = some v3 ∧ w.cell? ⟨g, 4, none⟩ = some v4 ∧ w.cell? ⟨g, 5, none⟩ = some v5 ∧
      w.cell? ⟨g, 6, none⟩ = some v6 ∧ w.cell? ⟨g, 7, none⟩ = some v7 ∧ w.cell? ⟨g, 8, none⟩ = some v8 ∧ w.cell? ⟨g, 9, none⟩ = some v9 ∧ w.cell? ⟨g, 10, none⟩ = some v10 :=
  ⟨h.cell (j := 0) (by simp), h.cell (j := 1) (by simp), h.cell (j := 2) (by simp), h.cell (j := 3) (by simp), h.cell (j := 4) (by simp), h.cell (j := 5) (by simp), h.cell (j := 6) (by simp), h.cell (j := 7) (by simp), h.cell (j := 8) (by simp),
    h.cell (j := 9) (by simp), h.cell (j := 10) (by simp)⟩
/-- May these loads not be? -/
def badB (y : InstD) (l : List Int) (k : Nat) : Bool := decide (l.length ≠ y.sats.length) || badLoads y l k
theorem badB_zero (y : InstD) (l : List Int) : ((l.length : Int) != (y.sats.length : Int)) = badB y l 0 := by
  unfold badB badLoads
  by_cases h : l.length = y.sats.length
  · rw [decide_eq_false (by simpa using h)]; simp [h]
  · rw [decide_eq_true h]; simp; omega
theorem badB_succ (y : InstD) (l : List Int) (k : Nat) : badB y l (k + 1) = (badB y l k || badLoad y l k) := by unfold badB; rw [badLoads_succ, Bool.or_assoc]
theorem badB_len {y : InstD} {l : List Int} {k : Nat} (h : badB y l k = false) : l.length = y.sats.length := by
  unfold badB at h; simp only [Bool.or_eq_false_iff, decide_eq_false_iff_not, ne_eq, Decidable.not_not] at h; exact h.1
theorem badB_trucks {y : InstD} {l : List Int} (h : check y = 0) : (badB y l l.length = ((trucksH y l).2 == 2)) ∧ (badB y l l.length = true → (trucksH y l).1 = []) := by
  unfold badB trucksH
  rw [if_neg (by simpa using h)]
  by_cases h1 : l.length = y.sats.length
  · rw [if_neg (by simpa using h1), decide_eq_false (by simpa using h1), Bool.false_or]
    cases badLoads y l l.length
    · rw [if_neg (by decide)]
      unfold fillRes
      split <;> simp
    · rw [if_pos rfl]; simp
  · rw [if_pos h1, decide_eq_true h1, Bool.true_or]; simp
theorem trucksH_bad {x : InstD} {l : List Int} (h : check x ≠ 0) : trucksH x l = ([], check x) := by unfold trucksH; rw [if_pos h]
theorem orderD_bad {x : InstD} {l : List Int} (h : check x ≠ 0) : orderD x l = [] := by unfold orderD; rw [if_neg (fun hh => h hh.1)]

set_option maxRecDepth 100000 in
set_option maxHeartbeats 3200000 in
theorem haulErrors_c {w : World} {F G K : Nat → Prop} {sm : SmallD} {x : InstD} {cs1 cs2 : List Value} {l : List Int} {v : Value} (h1 : smallS.rep w F sm cs1) (h2 : instS.rep w G x cs2) (h3 : (sliceS intS).rep w K l [v]) :
    Calls Try.prog 3 #[.agg cs1.toArray, .agg cs2.toArray, v] w fun e w' => e = .returned (.bool true) ∧ Below w.heap.size w w' := by
  have hsrep := h1
  have hxrep := h2
  have hlrep := h3
  have hswf := small_wf h1
  obtain ⟨s5, s6, s7, s8, rfl, -, g1, g2, g3, g4⟩ := h1
  obtain ⟨a5, b5, off5, c5, hs5, -, -, -, -, -, -⟩ := lsats_open g1
  obtain ⟨a6, b6, off6, c6, hs6, -, -, -, -, -, -⟩ := lwhos_open g2
  obtain rfl := List.cons.inj hs5 |>.1
  obtain rfl := List.cons.inj hs6 |>.1
  obtain ⟨t5, t6, t7, t8, rfl, -, k1, k2, -, -⟩ := h2
  obtain ⟨a1, b1, off1, c1, hs1, -, -, -, -, -, -⟩ := sats_open k1
  obtain ⟨a2, b2, off2, c2, hs2, -, -, -, -, -, -⟩ := custs_open k2
  obtain rfl := List.cons.inj hs1 |>.1
  obtain rfl := List.cons.inj hs2 |>.1
  obtain ⟨a3, b3, off3, c3, hs3, hl3, hc3, ha3, -, hcell3, -⟩ := ints_open h3
  obtain rfl := List.cons.inj hs3 |>.1
  clear hs1 hs2 hs3 hs5 hs6 g1 g2 g3 g4 k1 k2 h3
  have S0 := (Row.new (w := w) (e := 26) (cs := [.int .u8 sm.fin, .int .u8 sm.trucks, .int .u8 sm.troom, .int .u8 sm.bikes, .int .u8 sm.broom, .slice a5 sm.sats.length c5, .slice a6 sm.custs.length c6, s7, s8, .bool sm.tight, .bool sm.loose]) rfl).alloc (.cells #[.int .i64 x.fin, .int .i64 x.tmany, .int .i64 x.troom, .int .i64 x.bmany, .int .i64 x.broom, .slice a1 x.sats.length c1, .slice a2 x.custs.length c2, t7, t8] 33)
  have X0 := Row.new (w := w.alloc (.cells #[.int .u8 sm.fin, .int .u8 sm.trucks, .int .u8 sm.troom, .int .u8 sm.bikes, .int .u8 sm.broom, .slice a5 sm.sats.length c5, .slice a6 sm.custs.length c6, s7, s8, .bool sm.tight, .bool sm.loose] 26)) (g := w.heap.size + 1) (e := 33) (cs := [.int .i64 x.fin, .int .i64 x.tmany, .int .i64 x.troom, .int .i64 x.bmany, .int .i64 x.broom, .slice a1 x.sats.length c1, .slice a2 x.custs.length c2, t7, t8]) (by simp)
  have hb0 : Below w.heap.size w ((w.alloc (.cells #[.int .u8 sm.fin, .int .u8 sm.trucks, .int .u8 sm.troom, .int .u8 sm.bikes, .int .u8 sm.broom, .slice a5 sm.sats.length c5, .slice a6 sm.custs.length c6, s7, s8, .bool sm.tight, .bool sm.loose] 26)).alloc (.cells #[.int .i64 x.fin, .int .i64 x.tmany, .int .i64 x.troom, .int .i64 x.bmany, .int .i64 x.broom, .slice a1 x.sats.length c1, .slice a2 x.custs.length c2, t7, t8] 33)) := ((Below.refl _ _).alloc (Nat.le_refl _) _).alloc (by simp) _
  obtain ⟨lo, hlo⟩ : ∃ lo, sm.loose = lo := ⟨_, rfl⟩
  obtain ⟨ti, hti⟩ : ∃ ti, sm.tight = ti := ⟨_, rfl⟩
  rw [hlo, hti] at S0 X0 hb0 hsrep
  rw [hlo, hti]
  clear hlo hti
  go_enter Try.func3, Try.ntmps3
  go_wp2_with fail
  refine (awake22_c _).mono ?_
  rintro e w1 ⟨rfl, hbA⟩
  have S1 := S0.below hbA
  have X1 := X0.below hbA
  have hB1 := below_step hb0 hbA
  clear S0 X0 hb0 hbA
  obtain ⟨q0, q1, q2, q3, q4, q5, q6, q7, q8⟩ := row9 X1
  by_cases e1 : (60 : Int) < l.length
  · go_wp2
    go_ret
    exact ⟨rfl, hB1⟩
  by_cases e2 : (60 : Int) < x.custs.length
  · go_wp2
    go_ret
    exact ⟨rfl, hB1⟩
  obtain ⟨p0, p1, p2, p3, p4, p5, p6, p7, p8, p9, p10⟩ := row11 S1
  go_wp2_with fail
  refine (make_c (smallS.below hsrep hB1)).mono ?_
  rintro e w2 ⟨ds, rfl, hi, hbM⟩
  have hchk := make_check hswf
  have hmw := make_wf hswf
  obtain ⟨y, hy⟩ : ∃ y, y = makeD sm := ⟨_, rfl⟩
  rw [← hy] at hi hchk hmw
  obtain ⟨gs, ks1, gc, kc1, gco, cco, rco, gti, cti, rti, I⟩ := hi.at
  obtain rfl := I.lit
  have hyr := I.own.rep hmw
  have HYR := hid hyr
  have HMW := hid hmw
  have HCH := hid hchk
  obtain ⟨_, _, _, _, hlit, -, ks, -, -, -⟩ := hyr
  simp only [List.cons.injEq, and_true, true_and] at hlit
  obtain ⟨rfl, -⟩ := hlit
  obtain ⟨a9, b9, off9, c9, hs9, -, -, ha9, -, hcell9, -⟩ := sats_open ks
  simp only [List.cons.injEq, and_true, Value.slice.injEq, true_and] at hs9
  obtain ⟨rfl, rfl⟩ := hs9
  have X2 := X1.below hbM
  have hB2 := below_step hB1 hbM
  clear hy hi I hmw hchk ks S1 X1 hB1 hbM q0 q1 q2 q3 q4 q5 q6 q7 q8 p0 p1 p2 p3 p4 p5 p6 p7 p8 p9 p10
  have hyn := (good_of HCH.out).sats
  go_wp2
  go_loop [8, 38] (fun b i => ∃ k : Nat, k ≤ l.length ∧ i = .int .i64 k ∧ b = .bool (badB y l k)) (fun _ i => l.length - (intOf i).toNat)
  case atStart => exact ⟨0, Nat.zero_le _, rfl, by rw [badB_zero]⟩
  case round =>
    obtain ⟨k, hk, rfl, rfl⟩ := hrel
    obtain ⟨bb, hbb⟩ : ∃ b, b = badB y l k := ⟨_, rfl⟩
    rw [← hbb]
    have HBB := hid hbb
    clear hbb
    by_cases hlt : k < l.length
    · have hx := idx_at1 (c := c3) Try.underlying34 sz_i64 (ha3 (by omega)) hlt
      have m0 := below_cell hB2 (hcell3 k hlt)
      have m0l := cell_lt m0
      obtain ⟨n, hn⟩ : ∃ n, n = l[k] := ⟨_, rfl⟩
      rw [← hn] at m0
      cases bb
      · have hks : k < y.sats.length := by rw [← badB_len HBB.out.symm]; exact hlt
        have hxs := idx_at (c := ks1) Try.underlying29 sz_sat (ha9 (by omega)) hks
        have m1 := (hcell9 k hks).1
        have m1l := cell_lt m1
        obtain ⟨r, hr⟩ : ∃ r, r = (y.sats[k]).room := ⟨_, rfl⟩
        rw [← hr] at m1
        have HO := hid (show badB y l (k + 1) = (decide (n < 0) || decide (r < n)) from by
          rw [badB_succ, ← HBB.out, Bool.false_or]; unfold badLoad
          rw [List.getD_eq_getElem?_getD, List.getD_eq_getElem?_getD, List.getElem?_eq_getElem hlt, List.getElem?_eq_getElem hks, hn, hr]; rfl)
        clear hn hr hcell3 ha3 hcell9 ha9
        by_cases f1 : n < 0
        · have HO2 := hid (show badB y l (k + 1) = true from by rw [HO.out, decide_eq_true f1]; rfl)
          go_wp2
          go_round
          case rel => exact ⟨k + 1, by omega, by go_num, by rw [HO2.out]⟩
          case measure => simp [intOf]; omega
        · by_cases f2 : r < n
          · have HO2 := hid (show badB y l (k + 1) = true from by rw [HO.out, decide_eq_true f2, Bool.or_true])
            go_wp2
            go_round
            case rel => exact ⟨k + 1, by omega, by go_num, by rw [HO2.out]⟩
            case measure => simp [intOf]; omega
          · have HO2 := hid (show badB y l (k + 1) = false from by rw [HO.out, decide_eq_false f1, decide_eq_false f2]; rfl)
            go_wp2
            go_round
            case rel => exact ⟨k + 1, by omega, by go_num, by rw [HO2.out]⟩
            case measure => simp [intOf]; omega
      · have HO2 := hid (show badB y l (k + 1) = true from by rw [badB_succ, ← HBB.out]; rfl)
        clear hn hcell3 ha3 hcell9 ha9
        go_wp2
        go_round
        case rel => exact ⟨k + 1, by omega, by go_num, by rw [HO2.out]⟩
        case measure => simp [intOf]; omega
    · have hke : k = l.length := by omega
      subst hke
      have hT := badB_trucks (l := l) HCH.out
      rw [← HBB.out] at hT
      obtain ⟨hby, -, -⟩ := alloc_row w2 [.int .i64 y.fin, .int .i64 y.tmany, .int .i64 y.troom, .int .i64 y.bmany, .int .i64 y.broom, .slice (some ⟨gs, 0, none⟩) y.sats.length ks1, .slice (some ⟨gc, 0, none⟩) y.custs.length kc1, .slice (some ⟨gco, 0, none⟩) y.cost.length cco, .slice (some ⟨gti, 0, none⟩) y.time.length cti] 33
      have hB3 := below_step hB2 hby
      have HT := hid hT
      have X3 := X2.below hby
      have HY3 := hid (instS.below HYR.out hby)
      clear hT hcell3 ha3 hcell9 ha9 hby X2 HBB
      go_wp2_with fail
      refine (trucksH_c HY3.out ((sliceS intS).below hlrep hB3)).mono ?_
      rintro e w3 ⟨u, rfl, hr, hbT⟩
      have X4 := X3.below hbT
      have hB4 := below_step hB3 hbT
      obtain ⟨u1, u2, u3, u4, hu, -, -, -, -, -⟩ := trucks_open hr
      obtain rfl := List.cons.inj hu |>.1
      obtain ⟨⟨ts, er⟩, hter⟩ : ∃ r, r = trucksH y l := ⟨_, rfl⟩
      rw [← hter] at HT ⊢
      have hT2 := HT.out
      simp only [] at hT2 ⊢
      clear hr hu hter X3 hB3 hbT HT HY3
      obtain ⟨q0, q1, q2, q3, q4, q5, q6, q7, q8⟩ := row9 X4
      have hxr := instS.below hxrep hB4
      have HXR := hid hxr
      have hz4 := X4.lt
      clear hxr
      have done : ∀ (bb : Bool), (bb = (er == 2) ∧ (bb = true → ts = [])) → (er == 2) = bb ∧ (bb = true → ts = []) := fun bb h => ⟨h.1.symm, h.2⟩
      obtain ⟨t1, t2⟩ := done bb hT2
      clear done hT2
      cases bb
      case' true => obtain rfl := t2 rfl
      all_goals
        clear t2
        go_wp2_with fail
        refine (check_c HXR.out).mono ?_
        rintro e w4 ⟨rfl, hb5⟩
        have X5 := X4.below hb5
        have hB5 := below_step hB4 hb5
        by_cases hck : check x = 0
        · have hck2 : (check x == 0) = true := by simpa using hck
          clear hck
          go_wp2
          go_ret
          exact ⟨rfl, hB5⟩
        · have hck2 : (check x == 0) = false := by simpa using hck
          have HCK := hid hck
          have HT5 := hid (trucksH_bad (l := l) hck)
          have HO5 := hid (orderD_bad (l := l) hck)
          clear hck X4 hB4 hb5 q0 q1 q2 q3 q4 q5 q6 q7 q8
          obtain ⟨q0, q1, q2, q3, q4, q5, q6, q7, q8⟩ := row9 X5
          go_wp2_with fail
          refine (trucksH_c (instS.below hxrep hB5) ((sliceS intS).below hlrep hB5)).mono ?_
          rintro e w5 ⟨u, rfl, hr, hb6⟩
          rw [HT5.out] at hr ⊢
          obtain ⟨d1, d2, d3, d4, hu, -, -, -, -, -⟩ := trucks_open hr
          obtain rfl := List.cons.inj hu |>.1
          have X6 := X5.below hb6
          have hB6 := below_step hB5 hb6
          simp only [List.length_nil]
          clear hr hu X5 hB5 hb6 q0 q1 q2 q3 q4 q5 q6 q7 q8
          obtain ⟨q0, q1, q2, q3, q4, q5, q6, q7, q8⟩ := row9 X6
          go_wp2_with fail
          refine (wholeBad_c (instS.below hxrep hB6) HCK.out _).mono ?_
          rintro e w6 ⟨rfl, hb7⟩
          have X7 := X6.below hb7
          have hB7 := below_step hB6 hb7
          obtain ⟨hbp, hP, hz7⟩ := alloc_row w6 [.slice none 0 0, .slice none 0 0] 46
          have X8 := X7.below hbp
          have hB8 := below_step hB7 hbp
          clear X6 hB6 hb7 q0 q1 q2 q3 q4 q5 q6 q7 q8 X7 hB7 hbp
          go_upto_region 19 with fail
          generalize hwq : w6.alloc (.cells #[.slice none 0 0, .slice none 0 0] 46) = wq at *
          have hP' : Row wq w6.heap.size 46 [.slice none 0 0, .slice none 0 0] := hP
          clear hwq hz7 hP
          obtain ⟨q0, q1, q2, q3, q4, q5, q6, q7, q8⟩ := row9 X8
          obtain ⟨p0, p1⟩ := row2 hP'
          have z0 : ∀ e : At (Old wq), _ := fun e => e.cell q0
          have z1 : ∀ e : At (Old wq), _ := fun e => e.cell q1
          have z2 : ∀ e : At (Old wq), _ := fun e => e.cell q2
          have z3 : ∀ e : At (Old wq), _ := fun e => e.cell q3
          have z4 : ∀ e : At (Old wq), _ := fun e => e.cell q4
          have z5 : ∀ e : At (Old wq), _ := fun e => e.cell q5
          have z6 : ∀ e : At (Old wq), _ := fun e => e.cell q6
          have z7 : ∀ e : At (Old wq), _ := fun e => e.cell q7
          have z8 : ∀ e : At (Old wq), _ := fun e => e.cell q8
          have y0 : ∀ e : At (Old wq), _ := fun e => e.cell p0
          have y1 : ∀ e : At (Old wq), _ := fun e => e.cell p1
          obtain ⟨ck, hck⟩ : ∃ ck, ck = check x := ⟨_, rfl⟩
          rw [← hck]
          have HCE := hid hck
          clear hck
          refine wp_region_mix (Old wq) [] [([0, 1], 2, false), ([3, 4, 5, 6], 7, false), ([8, 9, 10, 11, 12, 13, 14, 15, 16, 17, 18, 19, 20, 21, 22], 23, false), ([24, 25, 26, 27], 28, false)] (by kernel_rfl) (by kernel_rfl) (fun _ _ d _ _ h => by cases d <;> exact h) (Old.drew _) ?_
          simp only [mixOf, List.map_cons, List.map_nil, Array.getD_eq_getD_getElem?, List.getElem?_toArray, List.getElem?_cons_succ, List.getElem?_cons_zero, Option.getD_some, wpMix]
          repeat (go_big_quiet_step (fail))
          refine wpQuiet_nil ?_
          have hO0 := Old.drew wq
          go_wp2_with fail
          refine (check_c (instS.below hxrep (below_step hB8 hO0))).mono ?_
          rintro e w7 ⟨rfl, hb8⟩
          rw [← HCE.out]
          have hO1 := hO0.step hb8
          go_wp2_with fail
          refine ⟨hO1, ?_⟩
          repeat (go_big_quiet_step (fail))
          refine wpQuiet_nil ?_
          go_wp2_with fail
          refine (check_c (instS.below hxrep (below_step hB8 hO1))).mono ?_
          rintro e w8 ⟨rfl, hb9⟩
          rw [← HCE.out]
          have hO2 := hO1.step hb9
          go_wp2_with fail
          refine ⟨hO2, ?_⟩
          repeat (go_big_quiet_step (fail))
          refine wpQuiet_nil ?_
          go_wp2_with fail
          refine (order_c (instS.below hxrep (below_step hB8 hO2)) ((sliceS intS).below hlrep (below_step hB8 hO2))).mono ?_
          rintro e w9 ⟨u, rfl, hr, hb10⟩
          rw [HO5.out, List.map_nil] at hr
          obtain ⟨o1, o2, o3, o4, hu, -, -, -, -, -, -⟩ := ints_open hr
          obtain rfl := List.cons.inj hu |>.1
          have hO3 := hO2.step hb10
          simp only [List.length_nil]
          clear hr hu
          go_wp2_with fail
          refine ⟨hO3, ?_⟩
          repeat (go_big_quiet_step (fail))
          refine wpQuiet_nil ?_
          go_wp2_with fail
          refine ⟨hO3, ?_⟩
          go_wp2
          go_ret
          exact ⟨rfl, below_step hB8 hO3⟩
end Go.Proofs.Ytafhjfkdlmijdaa
