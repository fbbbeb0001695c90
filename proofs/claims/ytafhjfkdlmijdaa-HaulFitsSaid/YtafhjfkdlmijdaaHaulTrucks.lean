/- Contract: wharfagelaw22.HaulTrucks answers true. -/
import Derived.Test.YtafhjfkdlmijdaaHaulOrders
import Derived.Test.YtafhjfkdlmijdaaTrucksW
namespace Go.Proofs.Ytafhjfkdlmijdaa
open Go.RowKit

theorem make_troom {x : SmallD} (h : SmallWf x) : 1 ≤ (makeD x).troom := by
  have := h.troom
  have hw := wide_bd x
  unfold wf8 at this
  show 1 ≤ 5 + wideOf x * (x.troom % 40)
  rcases hw with e | e <;> rw [e] <;> omega
/-- What haul.Trucks and the law say. -/
def trucksSay (y : InstD) (n : List Int) : Prop := (trucksW y n).length ≤ y.tmany ∧ trucksH y n = (trucksW y n, 0) ∨ y.tmany < (trucksW y n).length ∧ trucksH y n = ([], 11)

set_option maxRecDepth 100000 in
set_option maxHeartbeats 3200000 in
theorem haulTrucks_c {w : World} {F G : Nat → Prop} {sm : SmallD} {cs1 : List Value} {l : List Int} {v : Value} (h1 : smallS.rep w F sm cs1) (h3 : bytesS.rep w G l [v]) :
    Calls Try.prog 7 #[.agg cs1.toArray, v] w fun e w' => e = .returned (.bool true) ∧ Below w.heap.size w w' := by
  have hsrep := h1
  have hlrep := h3
  have hswf := small_wf h1
  obtain ⟨s5, s6, s7, s8, rfl, -, g1, g2, g3, g4⟩ := h1
  obtain ⟨a3, b3, off3, c3, hs3, hl3, hc3, ha3, -, hcell3, hwf3⟩ := bytes_open h3
  obtain rfl := List.cons.inj hs3 |>.1
  clear hs3 g1 g2 g3 g4 h3 hcell3 ha3
  have S0 := Row.new (w := w) (e := 26) (cs := [.int .u8 sm.fin, .int .u8 sm.trucks, .int .u8 sm.troom, .int .u8 sm.bikes, .int .u8 sm.broom, s5, s6, s7, s8, .bool sm.tight, .bool sm.loose]) rfl
  have hb0 : Below w.heap.size w (w.alloc (.cells #[.int .u8 sm.fin, .int .u8 sm.trucks, .int .u8 sm.troom, .int .u8 sm.bikes, .int .u8 sm.broom, s5, s6, s7, s8, .bool sm.tight, .bool sm.loose] 26)) := (Below.refl _ _).alloc (Nat.le_refl _) _
  obtain ⟨lo, hlo⟩ : ∃ lo, sm.loose = lo := ⟨_, rfl⟩
  obtain ⟨ti, hti⟩ : ∃ ti, sm.tight = ti := ⟨_, rfl⟩
  rw [hlo, hti] at S0 hb0 hsrep
  rw [hlo, hti]
  clear hlo hti
  go_enter Try.func7, Try.ntmps7
  go_wp2_with fail
  refine (awake22_c _).mono ?_
  rintro e w1 ⟨rfl, hbA⟩
  have S1 := S0.below hbA
  have hB1 := below_step hb0 hbA
  clear S0 hb0 hbA
  obtain ⟨p0, p1, p2, p3, p4, p5, p6, p7, p8, p9, p10⟩ := row11 S1
  go_wp2_with fail
  refine (make_c (smallS.below hsrep hB1)).mono ?_
  rintro e w2 ⟨ds, rfl, hi, hbM⟩
  have hchk := make_check hswf
  have hmw := make_wf hswf
  have hroom := make_room hswf
  have hord := make_order hswf hwf3
  have htr := make_troom hswf
  obtain ⟨y, hy⟩ : ∃ y, y = makeD sm := ⟨_, rfl⟩
  rw [← hy] at hi hchk hmw hroom hord htr
  obtain ⟨gs, ks1, gc, kc1, gco, cco, rco, gti, cti, rti, I⟩ := hi.at
  obtain rfl := I.lit
  have hyr := I.own.rep hmw
  have hB2 := below_step hB1 hbM
  have hyn := (good_of hchk).sats
  obtain ⟨hby, hY, hzy⟩ := alloc_row w2 [.int .i64 y.fin, .int .i64 y.tmany, .int .i64 y.troom, .int .i64 y.bmany, .int .i64 y.broom, .slice (some ⟨gs, 0, none⟩) y.sats.length ks1, .slice (some ⟨gc, 0, none⟩) y.custs.length kc1, .slice (some ⟨gco, 0, none⟩) y.cost.length cco, .slice (some ⟨gti, 0, none⟩) y.time.length cti] 33
  have hB3 := below_step hB2 hby
  have HY3 := hid (instS.below hyr hby)
  have HCH := hid hchk
  have HORD := hid hord
  have HL3 := hid (bytesS.below hlrep hB3)
  have HROOM := hid hroom
  have HTS := hid (show trucksSay y (loadsU y l) from trucks_law hchk (loadsUp_len _ _ _) (fun s => by have := loadsU_bd hwf3 (fun s hs => (hroom s hs).1) s; exact ⟨this.1, this.2.2⟩) hord htr (by have := (good_of hchk).tmany; omega))
  have HLM := hid (loadsU_mem (x := y) hwf3 (fun s hs => (hroom s hs).1))
  clear hy hi I hmw hchk S1 hB1 hbM p0 p1 p2 p3 p4 p5 p6 p7 p8 p9 p10 hyr hby hsrep hlrep hswf hwf3 hord hroom hB2
  obtain ⟨q0, q1, q2, q3, q4, q5, q6, q7, q8⟩ := row9 hY
  go_wp2_with fail
  refine (loadsU_c HY3.out HL3.out (by omega) HROOM.out).mono ?_
  rintro e w4 ⟨u, rfl, hr, hb4⟩
  have Y4 := hY.below hb4
  have hB4 := below_step hB3 hb4
  have HY4 := hid (instS.below HY3.out hb4)
  have HR4 := hid hr
  obtain ⟨o1, o2, o3, o4, hu, -, -, -, -, -, -⟩ := ints_open hr
  obtain rfl := List.cons.inj hu |>.1
  clear hr hu hb4 HY3 HL3 hB3 q0 q1 q2 q3 q4 q5 q6 q7 q8
  obtain ⟨q0, q1, q2, q3, q4, q5, q6, q7, q8⟩ := row9 Y4
  obtain ⟨wq, rfl⟩ : ∃ wq : World, wq = w4 := ⟨_, rfl⟩
  go_wp2_with fail
  refine (trucksH_c HY4.out HR4.out).mono ?_
  rintro e w5 ⟨u5, rfl, hr5, hb5⟩
  have Y5 := Y4.below hb5
  have hB5 := below_step hB4 hb5
  have HY5 := hid (instS.below HY4.out hb5)
  have HR5 := hid ((sliceS intS).below HR4.out hb5)
  obtain ⟨⟨ts, er⟩, hter⟩ : ∃ r, r = trucksH y (loadsU y l) := ⟨_, rfl⟩
  rw [← hter] at hr5 ⊢
  have HTER := hid hter
  clear hter q0 q1 q2 q3 q4 q5 q6 q7 q8
  obtain ⟨q0, q1, q2, q3, q4, q5, q6, q7, q8⟩ := row9 Y5
  obtain ⟨f1, f2, f3, f4, hf, -, -, -, -, -⟩ := trucks_open hr5
  obtain rfl := List.cons.inj hf |>.1
  simp only at hr5 ⊢
  have HF5 := hid hr5
  clear hr5 hf
  go_wp2_with fail
  refine (trucksW_c HY5.out HR5.out HCH.out (loadsUp_len _ _ _) (fun v hv => HLM.out v hv) htr).mono ?_
  rintro e w6 ⟨u6, rfl, hr6, hb6⟩
  have hB6 := below_step hB5 hb6
  have Y6 := Y5.below hb6
  obtain ⟨g1, g2, g3, g4, hg, -, -, -, -, -⟩ := trucks_open hr6
  obtain rfl := List.cons.inj hg |>.1
  have HF6 := hid (trucksS.below HF5.out hb6)
  obtain ⟨tw, htw⟩ : ∃ tw, tw = trucksW y (loadsU y l) := ⟨_, rfl⟩
  have HSAY := HTS.out
  unfold trucksSay at HSAY
  rw [← HTER.out, ← htw] at HSAY
  rw [← htw] at hr6 ⊢
  have HR6 := hid hr6
  clear hr6 hg htw q0 q1 q2 q3 q4 q5 q6 q7 q8
  rcases HSAY with ⟨hle, heq⟩ | ⟨hgt, heq⟩
  · simp only [Prod.mk.injEq] at heq
    obtain ⟨rfl, rfl⟩ := heq
    rw [decide_eq_true hle]
    have hP1 : planS.rep w6 _ ⟨ts, []⟩ [.slice f1 ts.length f4, .slice none 0 0] := ⟨_, _, rfl, trucksS.any HF6.out, nil_rep _ _ _⟩
    have hP2 : planS.rep w6 _ ⟨ts, []⟩ [.slice g1 ts.length g4, .slice none 0 0] := ⟨_, _, rfl, trucksS.any HR6.out, nil_rep _ _ _⟩
    have HP1 := hid hP1
    have HP2 := hid hP2
    clear hP1 hP2 hle HF6 HR6
    go_wp2_with fail
    refine (same17_c HP1.out HP2.out).mono ?_
    rintro e w7 ⟨rfl, hb7⟩
    rw [decide_eq_true rfl]
    go_wp2
    go_ret
    exact ⟨rfl, below_step hB6 hb7⟩
  · simp only [Prod.mk.injEq] at heq
    obtain ⟨rfl, rfl⟩ := heq
    rw [decide_eq_false (by omega)]
    clear hgt HF6 HR6
    go_wp2
    go_ret
    exact ⟨rfl, hB6⟩
end Go.Proofs.Ytafhjfkdlmijdaa
