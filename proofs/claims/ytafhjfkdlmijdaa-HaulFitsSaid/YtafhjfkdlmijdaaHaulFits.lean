/- Contract: wharfagelaw22.HaulFits answers true. -/
import Derived.Test.YtafhjfkdlmijdaaFitsLaw
import Derived.Test.YtafhjfkdlmijdaaHaulWholes
import Derived.Test.YtafhjfkdlmijdaaCode
import Derived.Test.YtafhjfkdlmijdaaLoadAll
import Derived.Test.YtafhjfkdlmijdaaGc
import Derived.Test.YtafhjfkdlmijdaaGa
import Derived.BigQuiet
namespace Go.Proofs.Ytafhjfkdlmijdaa
open Go.RowKit

theorem tst_addLast (out : List (List StopD)) (s : StopD) : ((addLast out s).map List.length).sum ≤ (out.map List.length).sum + 1 := by
  by_cases h : 0 < out.length
  · obtain ⟨l, a, rfl⟩ := snoc_of_pos h
    rw [addLast_snoc]
    simp
    omega
  · obtain rfl := List.eq_nil_of_length_eq_zero (by omega : out.length = 0)
    simp [addLast]
theorem tst_ready (many room : Int) (q : Bool) (st : List (List StopD) × Int) : ((readyQ many room q st).1.map List.length).sum = (st.1.map List.length).sum := by
  unfold readyQ
  split
  · simp
  · rfl
theorem tst_dOne (many room : Int) (q : Bool) (s : Nat) : ∀ (f : Nat) (n : Int) (st : List (List StopD) × Int), ((dOne many room q s f n st).1.map List.length).sum ≤ (st.1.map List.length).sum + f
  | 0, _, st => Nat.le_refl _
  | f + 1, n, st => by
    unfold dOne
    split
    · omega
    · have h1 := tst_dOne many room q s f (n - min n (readyQ many room q st).2) (addLast (readyQ many room q st).1 ⟨s, min n (readyQ many room q st).2⟩, (readyQ many room q st).2 - min n (readyQ many room q st).2)
      have h2 := tst_addLast (readyQ many room q st).1 ⟨s, min n (readyQ many room q st).2⟩
      rw [tst_ready] at h2
      simp only [] at h1
      omega
theorem tst_dUp {x : InstD} {w : WishD} {lo : List Int} (hl : ∀ s, lo.getD s 0 ≤ 6000) : ∀ s, ((dUp x w lo s).1.map List.length).sum ≤ 6000 * s
  | 0 => by simp [dUp]
  | s + 1 => by
    have ih := tst_dUp (x := x) (w := w) hl s
    have h := tst_dOne x.tmany x.troom (cutQ w s) s (lo.getD s 0).toNat (lo.getD s 0) (dUp x w lo s)
    have := hl s
    show ((dOne x.tmany x.troom (cutQ w s) s (lo.getD s 0).toNat (lo.getD s 0) (dUp x w lo s)).1.map List.length).sum ≤ _
    omega
theorem draft_stops {x : InstD} (w : WishD) (hns : 1 ≤ x.sats.length ∧ x.sats.length ≤ 3) (hnc : 1 ≤ x.custs.length ∧ x.custs.length ≤ 6) (hcl : ∀ c ∈ x.custs, 1 ≤ c.load ∧ c.load ≤ 1000) (htr : 1 ≤ x.troom) : PlanSmall (draftD x w) := by
  have hol : (draftOrd x w).length = x.custs.length := orderUp_len _ _
  have hk := draftUp_ok (x := x) w (os := draftOrd x w) (fun c hc => by have := hcl c hc; omega) (by omega) (orderUp_lt _ _) (draftOrd x w).length (Nat.le_refl _)
  have hf := draft_small w hns hnc hcl htr
  have hlv : ∀ s, (draftLB x w).1.getD s 0 ≤ 6000 := fun s => by
    rw [List.getD_eq_getElem?_getD]
    by_cases hs : s < (draftLB x w).1.length
    · rw [List.getElem?_eq_getElem hs]
      have := hk.loB _ (List.getElem_mem hs)
      exact Int.le_trans this.2 (by rw [hol]; omega)
    · rw [List.getElem?_eq_none (by omega)]; simp
  have hd := tst_dUp (x := x) (w := w) hlv (draftLB x w).1.length
  have hll : (draftLB x w).1.length ≤ 3 := by unfold draftLB; rw [hk.loL]; omega
  refine ⟨?_, ?_⟩
  · have h1 := stopsUp_bd (m := 100) (fun b hb => (hf.bs b hb).2.1) (draftD x w).bikes.length (Nat.le_refl _)
    have h2 := hf.bl
    have h3 : 100 * (draftD x w).bikes.length ≤ 100 * 100 := Nat.mul_le_mul_left _ h2
    omega
  · unfold tstopsUp
    rw [List.take_length]
    have h3 : 6000 * (draftLB x w).1.length ≤ 6000 * 3 := Nat.mul_le_mul_left _ hll
    show ((dUp x w (draftLB x w).1 (draftLB x w).1.length).1.map List.length).sum ≤ _
    omega

set_option maxRecDepth 100000 in
set_option maxHeartbeats 3200000 in
theorem haulFits_c {w : World} {F G : Nat → Prop} {sm : SmallD} {wi : WishD} {cs1 cs2 : List Value} (h1 : smallS.rep w F sm cs1) (h2 : wishS.rep w G wi cs2) :
    Calls Try.prog 8 #[.agg cs1.toArray, .agg cs2.toArray] w fun e w' => e = .returned (.bool true) ∧ Below w.heap.size w w' := by
  have hsrep := h1
  have hwrep := h2
  have hswf := small_wf h1
  obtain ⟨s5, s6, s7, s8, rfl, -, -, -, -, -⟩ := h1
  obtain ⟨u1, u2, u3, rfl, -, -, -⟩ := h2
  have S0 := (Row.new (w := w) (e := 26) (cs := [.int .u8 sm.fin, .int .u8 sm.trucks, .int .u8 sm.troom, .int .u8 sm.bikes, .int .u8 sm.broom, s5, s6, s7, s8, .bool sm.tight, .bool sm.loose]) rfl).alloc (.cells #[u1, u2, u3] 72)
  have W0 := Row.new (w := w.alloc (.cells #[.int .u8 sm.fin, .int .u8 sm.trucks, .int .u8 sm.troom, .int .u8 sm.bikes, .int .u8 sm.broom, s5, s6, s7, s8, .bool sm.tight, .bool sm.loose] 26)) (g := w.heap.size + 1) (e := 72) (cs := [u1, u2, u3]) (by simp)
  have hb0 : Below w.heap.size w ((w.alloc (.cells #[.int .u8 sm.fin, .int .u8 sm.trucks, .int .u8 sm.troom, .int .u8 sm.bikes, .int .u8 sm.broom, s5, s6, s7, s8, .bool sm.tight, .bool sm.loose] 26)).alloc (.cells #[u1, u2, u3] 72)) := ((Below.refl _ _).alloc (Nat.le_refl _) _).alloc (by simp) _
  obtain ⟨lo, hlo⟩ : ∃ lo, sm.loose = lo := ⟨_, rfl⟩
  obtain ⟨ti, hti⟩ : ∃ ti, sm.tight = ti := ⟨_, rfl⟩
  rw [hlo, hti] at S0 W0 hb0 hsrep
  rw [hlo, hti]
  clear hlo hti
  have HSR := hid hsrep
  have HWR := hid hwrep
  clear hsrep hwrep
  go_enter Try.func8, Try.ntmps8
  go_wp2_with fail
  refine (awake22_c _).mono ?_
  rintro e w1 ⟨rfl, hbA⟩
  have S1 := S0.below hbA
  have W1 := W0.below hbA
  have hB1 := below_step hb0 hbA
  clear S0 W0 hb0 hbA
  obtain ⟨p0, p1, p2, p3, p4, p5, p6, p7, p8, p9, p10⟩ := row11 S1
  go_wp2_with fail
  refine (make_c (smallS.below HSR.out hB1)).mono ?_
  rintro e w2 ⟨ds, rfl, hi, hbM⟩
  have hchk := make_check hswf
  have hmw := make_wf hswf
  have htr := make_troom hswf
  have hcm := cust_may hswf
  have hsl := satsOf_len sm
  have hcl := custsOf_len sm
  obtain ⟨y, hy⟩ : ∃ y, y = makeD sm := ⟨_, rfl⟩
  have hsl2 : 1 ≤ y.sats.length ∧ y.sats.length ≤ 3 := by rw [hy]; exact hsl
  have hcl2 : 1 ≤ y.custs.length ∧ y.custs.length ≤ 6 := by rw [hy]; exact hcl
  have hld : ∀ c ∈ y.custs, 1 ≤ c.load ∧ c.load ≤ 1000 := by rw [hy]; exact fun c hc => (hcm c hc).1
  rw [← hy] at hi hchk hmw htr
  obtain ⟨gs, ks1, gc, kc1, gco, cco, rco, gti, cti, rti, I⟩ := hi.at
  obtain rfl := I.lit
  have hyr := I.own.rep hmw
  have hB2 := below_step hB1 hbM
  have W2 := W1.below hbM
  obtain ⟨hby2, hY, hzy⟩ := alloc_row w2 [.int .i64 y.fin, .int .i64 y.tmany, .int .i64 y.troom, .int .i64 y.bmany, .int .i64 y.broom, .slice (some ⟨gs, 0, none⟩) y.sats.length ks1, .slice (some ⟨gc, 0, none⟩) y.custs.length kc1, .slice (some ⟨gco, 0, none⟩) y.cost.length cco, .slice (some ⟨gti, 0, none⟩) y.time.length cti] 33
  have hB3 := below_step hB2 hby2
  have HY3 := hid (instS.below hyr hby2)
  have HW3 := hid (wishS.below HWR.out hB3)
  have W3 := W2.below hby2
  have HCH := hid hchk
  have gd := good_of hchk
  have htr2 := gd.troom
  have hbr2 := gd.broom
  have htm := gd.tmany
  have HCU := hid (show ∀ c ∈ y.custs, 0 ≤ c.load ∧ c.load ≤ 1000000000 from fun c hc => by have := hld c hc; omega)
  have HLD := hid hld
  have hfew := draft_small wi hsl2 hcl2 hld htr
  have HFEW := hid hfew
  have hla := loadAll_bd (x := y) (n := 1000) (fun c hc => by have := hld c hc; omega)
  clear hy hi I hmw hchk S1 W1 W2 hB1 hbM p0 p1 p2 p3 p4 p5 p6 p7 p8 p9 p10 hyr hby2 hswf hB2 hcm hsl hcl gd hld hfew
  obtain ⟨q0, q1, q2, q3, q4, q5, q6, q7, q8⟩ := row9 hY
  have v0 := W3.cell (j := 0) (by simp)
  have v1 := W3.cell (j := 1) (by simp)
  have v2 := W3.cell (j := 2) (by simp)
  simp only [List.getElem_cons_succ, List.getElem_cons_zero] at v0 v1 v2
  go_wp2_with fail
  refine (draft_c HY3.out HW3.out hsl2 hcl2 HLD.out ⟨htr, htr2.2⟩ hbr2).mono ?_
  rintro e w4 ⟨tv, bv, ts, vs, rfl, hT, hB, hb4⟩
  have hB4 := below_step hB3 hb4
  have hTR := hT.rep (fun t ht s hs => by have := (HFEW.out.ts t ht).2 s hs; unfold wf64; omega)
  have hBR := hB.rep (fun b hb => by
    have := HFEW.out.bs b hb
    exact ⟨by unfold wf64; omega, fun c hc => by have := this.2.2 c hc; unfold wf64; omega⟩)
  obtain ⟨ta, tc, htv, -, -⟩ := owns_slice hT.own
  obtain ⟨ba, bc, hbv, -, -⟩ := owns_slice hB.own
  subst htv
  subst hbv
  have HFITS := hid (fits_law (x := y) wi HCH.out (fun c hc => by have := HLD.out c hc; omega) (by omega) ⟨htr, htr2.2⟩ (by omega))
  have HSMD := hid (draft_stops (x := y) wi hsl2 hcl2 HLD.out htr)
  obtain ⟨dp, hdp⟩ : ∃ dp, dp = draftD y wi := ⟨_, rfl⟩
  rw [← hdp] at hTR hBR HFEW HFITS HSMD ⊢
  obtain ⟨hbd, hD, hzd⟩ := alloc_row w4 [.slice ta dp.trucks.length tc, .slice ba dp.bikes.length bc] 46
  have HBR5 := hid (bikesS.below hBR hbd)
  have HPL5 := hid (show planS.rep _ (fun b => _ ≤ b) dp [.slice ta dp.trucks.length tc, .slice ba dp.bikes.length bc] from ⟨_, _, rfl, trucksS.below hTR hbd, bikesS.below hBR hbd⟩)
  have HY5 := hid (instS.below (instS.below HY3.out hb4) hbd)
  have Y5 := (hY.below hb4).below hbd
  have hB5 := below_step hB4 hbd
  have hst := HSMD.out.1
  have hbl := HFEW.out.bl
  have HBS := hid (show ∀ b ∈ dp.bikes, b.stops.length ≤ 1000000 from fun b hb => by have := (HFEW.out.bs b hb).2.1; omega)
  clear hT hB hY hB3 q0 q1 q2 q3 q4 q5 q6 q7 q8 v0 v1 v2 hTR hBR hdp hbd hb4 hB4 W3 HW3 HY3
  obtain ⟨q0, q1, q2, q3, q4, q5, q6, q7, q8⟩ := row9 Y5
  obtain ⟨d0, d1⟩ := row2 hD
  go_wp2_with fail
  refine (whole_c HY5.out HBR5.out HCH.out (by omega) HBS.out hst).mono ?_
  rintro e w7 ⟨pt, pb, rfl, hpl, hb7⟩
  have Y7 := Y5.below hb7
  have D7 := hD.below hb7
  have hB7 := below_step hB5 hb7
  have HY7 := hid (instS.below HY5.out hb7)
  have HPL7 := hid (planS.below HPL5.out hb7)
  have HERR := hid (whole_err (x := y) (l := dp.bikes) HCH.out)
  obtain ⟨⟨ps, er⟩, hwd⟩ : ∃ r, r = wholeD y dp.bikes := ⟨_, rfl⟩
  rw [← hwd] at hpl HERR HFITS ⊢
  clear hwd
  simp only [] at hpl HERR HFITS ⊢
  have hpl2 := hpl
  obtain ⟨t7, b7, hlit, htt, hbb⟩ := hpl
  obtain ⟨f1, f2, f3, f4, hf, -, -, -, -, -⟩ := trucks_open htt
  obtain ⟨k1, k2, k3, k4, hk, -, -, -, -, -⟩ := bikes_open hbb
  obtain rfl := List.cons.inj hf |>.1
  obtain rfl := List.cons.inj hk |>.1
  simp only [List.cons.injEq, and_true] at hlit
  obtain ⟨rfl, rfl⟩ := hlit
  obtain ⟨hbp, hP, hzp⟩ := alloc_row w7 [.slice f1 ps.trucks.length f4, .slice k1 ps.bikes.length k4] 46
  have HPP := hid (planS.below hpl2 hbp)
  have Y8 := Y7.below hbp
  have D8 := D7.below hbp
  have hB8 := below_step hB7 hbp
  have HY8 := hid (instS.below HY7.out hbp)
  have HPL8 := hid (planS.below HPL7.out hbp)
  clear hpl2 htt hbb hf hk Y5 Y7 hB5 hB7 hb7 hbp q0 q1 q2 q3 q4 q5 q6 q7 q8 d0 d1 hD D7 HY5 HPL5 HBR5 HY7 HPL7
  by_cases he : er = 0
  case neg =>
    have HE2 := hid (HERR.out he)
    have e1 : (er != 0) = true := by simpa using he
    clear he HERR
    by_cases e11 : er = 11
    · have e2 : (er == 11) = true := by simpa using e11
      clear e11
      go_wp2
      go_ret
      exact ⟨rfl, hB8⟩
    · have e2 : (er == 11) = false := by simpa using e11
      have e3 : (er == 2) = true := by have := HE2.out.resolve_left e11; simpa using this
      clear e11
      go_wp2
      go_ret
      exact ⟨rfl, hB8⟩
  case pos =>
    obtain ⟨hlen, himp, hpb, hts⟩ := HFITS.out he
    have e1 : (er != 0) = false := by simp [he]
    have HLEN := hid hlen
    have HIMP := hid himp
    have HSMP := hid (show PlanSmall ps from ⟨by rw [hpb]; exact hst, by omega⟩)
    clear he HERR HFITS hlen himp hpb hts
    go_upto_region 8 with fail
    generalize w7.alloc (.cells #[.slice f1 ps.trucks.length f4, .slice k1 ps.bikes.length k4] 46) = wq at Y8 D8 hB8 HY8 HPL8 HPP hP ⊢
    have htn : y.troom ≠ 0 := by omega
    have HCN := hid (show y.custs.length ≤ 1000000 from by omega)
    go_cut [9] (fun v wx => v = .int .i64 (ps.trucks.length : Int) ∧ Below wq.heap.size wq wx)
    case first =>
      obtain ⟨p0, p1, p2, p3, p4, p5, p6, p7, p8⟩ : (∀ e : Ext wq, _) ∧ (∀ e : Ext wq, _) ∧ (∀ e : Ext wq, _) ∧ (∀ e : Ext wq, _) ∧ (∀ e : Ext wq, _) ∧ (∀ e : Ext wq, _) ∧ (∀ e : Ext wq, _) ∧ (∀ e : Ext wq, _) ∧ (∀ e : Ext wq, _) :=
        ⟨fun e => (row9 (Y8.below e.ok)).1, fun e => (row9 (Y8.below e.ok)).2.1, fun e => (row9 (Y8.below e.ok)).2.2.1, fun e => (row9 (Y8.below e.ok)).2.2.2.1, fun e => (row9 (Y8.below e.ok)).2.2.2.2.1, fun e => (row9 (Y8.below e.ok)).2.2.2.2.2.1,
          fun e => (row9 (Y8.below e.ok)).2.2.2.2.2.2.1, fun e => (row9 (Y8.below e.ok)).2.2.2.2.2.2.2.1, fun e => (row9 (Y8.below e.ok)).2.2.2.2.2.2.2.2⟩
      have hla2 : 0 ≤ loadAll y ∧ loadAll y ≤ 6000 := by omega
      obtain ⟨la, hlae⟩ : ∃ la, la = loadAll y := ⟨_, rfl⟩
      have HLA := hid (show ∀ e : Ext wq, Calls Try.prog 32 _ e.val fun r w' => r = .returned (.int .i64 la) ∧ Below e.val.heap.size e.val w' from fun e => by rw [hlae]; exact loadAll_c (instS.below HY8.out e.ok) HCU.out HCN.out)
      rw [← hlae] at HLEN hla2
      have HDV := hid (show Int.tdiv (la + y.troom - 1) y.troom = (ps.trucks.length : Int) from by rw [HLEN.out]; exact Int.tdiv_eq_ediv_of_nonneg (by omega))
      have HDV2 := hid HLEN.out.symm
      clear hlae hla HLEN
      refine wp_region_ext (by kernel_rfl) (by kernel_rfl) ?_
      repeat (go_big_quiet_step (first | (go_at_call 32; exact Calls.ext (HLA.out _))))
      refine wpQuiet_nil ?_
      rintro _ ⟨ex, rfl⟩
      go_wp2_with fail
      go_meet
      exact ⟨by first | rw [HDV2.out] | rw [HDV.out], ex.ok⟩
    case rest =>
      obtain ⟨rfl, hb9⟩ := hcut
      have Y9 := Y8.below hb9
      have D9 := D8.below hb9
      have P9 := hP.below hb9
      have hB9 := below_step hB8 hb9
      have HY9 := hid (instS.below HY8.out hb9)
      have HPL9 := hid (planS.below HPL8.out hb9)
      have HPP9 := hid (planS.below HPP.out hb9)
      clear Y8 D8 hP hB8 hb9 HLEN
      obtain ⟨q0, q1, q2, q3, q4, q5, q6, q7, q8⟩ := row9 Y9
      obtain ⟨d0, d1⟩ := row2 D9
      obtain ⟨pc0, pc1⟩ := row2 P9
      have e2 : (((ps.trucks.length : Nat) : Int) == ((ps.trucks.length : Nat) : Int)) = true := by simp
      go_wp2_with fail
      refine (code_c HY9.out HPL9.out HCH.out (by omega) HSMD.out).mono ?_
      rintro e w10 ⟨rfl, hb10⟩
      have hB10 := below_step hB9 hb10
      have Y10 := Y9.below hb10
      have P10 := P9.below hb10
      have HY10 := hid (instS.below HY9.out hb10)
      have HPP10 := hid (planS.below HPP9.out hb10)
      obtain ⟨k, hk⟩ : ∃ k, k = planCheck y dp := ⟨_, rfl⟩
      rw [← hk] at HIMP ⊢
      clear hk Y9 D9 P9 hB9 hb10 q0 q1 q2 q3 q4 q5 q6 q7 q8 d0 d1 pc0 pc1
      obtain ⟨q0, q1, q2, q3, q4, q5, q6, q7, q8⟩ := row9 Y10
      obtain ⟨pc0, pc1⟩ := row2 P10
      by_cases hk0 : k = 0
      · have e3 : (k != 0) = false := by simp [hk0]
        have HPC := hid (HIMP.out hk0)
        clear hk0
        go_wp2_with fail
        refine (planCheck_c HY10.out HPP10.out (fun _ => by omega) HSMP.out).mono ?_
        rintro e w11 ⟨rfl, hb11⟩
        rw [HPC.out]
        go_wp2
        go_ret
        exact ⟨rfl, below_step hB10 hb11⟩
      · have e3 : (k != 0) = true := by simpa using hk0
        clear hk0
        go_wp2
        go_ret
        exact ⟨rfl, hB10⟩
end Go.Proofs.Ytafhjfkdlmijdaa
