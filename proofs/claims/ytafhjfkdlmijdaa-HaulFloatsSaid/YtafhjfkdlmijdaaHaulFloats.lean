/- Contract: wharfagelaw22.HaulFloats answers true. -/
import Derived.Test.YtafhjfkdlmijdaaHaulOrders
namespace Go.Proofs.Ytafhjfkdlmijdaa
open Go.RowKit

/-- The law's comparison: by floats. -/
def ltF (x : InstD) (l : List Int) (a b : Nat) : Bool := decide (ratioF (costAt x 0 (1 + a)) (l.getD a 0) < ratioF (costAt x 0 (1 + b)) (l.getD b 0))
def orderF (x : InstD) (l : List Int) (k : Nat) : List Nat := sortD (ltF x l) (idxs l k)
theorem orderF_no {x : InstD} {l : List Int} {k : Nat} (h : ¬ 0 < l.getD k 0) : orderF x l (k + 1) = orderF x l k := by unfold orderF; rw [idxs_no h]
theorem orderF_yes {x : InstD} {l : List Int} {k : Nat} (h : 0 < l.getD k 0) : orderF x l (k + 1) = insR (ltF x l) k (orderF x l k) := by unfold orderF; rw [idxs_yes h, sortD_snoc]
theorem idxs_pos {l : List Int} {k i : Nat} (h : i ∈ idxs l k) : 0 < l.getD i 0 := by unfold idxs at h; exact of_decide_eq_true (List.mem_filter.1 h).2
theorem orderF_lt {x : InstD} {l : List Int} {k i : Nat} (h : i ∈ orderF x l k) : i < k ∧ 0 < l.getD i 0 := ⟨idxs_lt ((sortD_mem _ _ _).1 h), idxs_pos ((sortD_mem _ _ _).1 h)⟩
theorem orderF_len (x : InstD) (l : List Int) (k : Nat) : (orderF x l k).length ≤ k := by unfold orderF; rw [sortD_len]; exact idxs_len l k
theorem orderF_get {x : InstD} {l : List Int} {k j : Nat} (h : j < (orderF x l k).length) : (orderF x l k)[j] < k ∧ 0 < l.getD (orderF x l k)[j] 0 := orderF_lt (List.getElem_mem h)
theorem order_float {x : InstD} {l : List Int} (hck : check x = 0) (hl : l.length = x.sats.length) : orderD x l = orderF x l l.length := by
  unfold orderD orderF
  rw [if_pos ⟨hck, hl⟩]
  refine sortD_congr fun a ha b hbb => ?_
  unfold ltK ltF
  rw [keysUp_at ha, keysUp_at hbb]

set_option maxRecDepth 100000 in
set_option maxHeartbeats 3200000 in
theorem haulFloats_c {w : World} {F G : Nat → Prop} {sm : SmallD} {cs1 : List Value} {l : List Int} {v : Value} (h1 : smallS.rep w F sm cs1) (h3 : (sliceS intS).rep w G l [v]) :
    Calls Try.prog 6 #[.agg cs1.toArray, v] w fun e w' => e = .returned (.bool true) ∧ Below w.heap.size w w' := by
  have hsrep := h1
  have hlrep := h3
  have hswf := small_wf h1
  obtain ⟨s5, s6, s7, s8, rfl, -, g1, g2, g3, g4⟩ := h1
  obtain ⟨a3, b3, off3, c3, hs3, hl3, hc3, ha3, -, hcell3, hwf3⟩ := ints_open h3
  obtain rfl := List.cons.inj hs3 |>.1
  clear hs3 g1 g2 g3 g4 h3
  have S0 := Row.new (w := w) (e := 26) (cs := [.int .u8 sm.fin, .int .u8 sm.trucks, .int .u8 sm.troom, .int .u8 sm.bikes, .int .u8 sm.broom, s5, s6, s7, s8, .bool sm.tight, .bool sm.loose]) rfl
  have hb0 : Below w.heap.size w (w.alloc (.cells #[.int .u8 sm.fin, .int .u8 sm.trucks, .int .u8 sm.troom, .int .u8 sm.bikes, .int .u8 sm.broom, s5, s6, s7, s8, .bool sm.tight, .bool sm.loose] 26)) := (Below.refl _ _).alloc (Nat.le_refl _) _
  obtain ⟨lo, hlo⟩ : ∃ lo, sm.loose = lo := ⟨_, rfl⟩
  obtain ⟨ti, hti⟩ : ∃ ti, sm.tight = ti := ⟨_, rfl⟩
  rw [hlo, hti] at S0 hb0 hsrep
  rw [hlo, hti]
  clear hlo hti
  go_enter Try.func6, Try.ntmps6
  go_wp2_with fail
  refine (awake22_c _).mono ?_
  rintro e w1 ⟨rfl, hbA⟩
  have S1 := S0.below hbA
  have hB1 := below_step hb0 hbA
  clear S0 hb0 hbA
  obtain ⟨p0, p1, p2, p3, p4, p5, p6, p7, p8, p9, p10⟩ := row11 S1
  go_wp2_with fail
  refine (make_c (smallS.below hsrep hB1)).mono ?_
  rintro e w2 ⟨ds, rfl, hi, hbM⟩
  have hchk := make_check hswf
  have hmw := make_wf hswf
  have hroom := make_room hswf
  have hcost := fun k => make_cost (x := sm) k
  obtain ⟨y, hy⟩ : ∃ y, y = makeD sm := ⟨_, rfl⟩
  rw [← hy] at hi hchk hmw hroom hcost
  obtain ⟨gs, ks1, gc, kc1, gco, cco, rco, gti, cti, rti, I⟩ := hi.at
  obtain rfl := I.lit
  have hyr := I.own.rep hmw
  have hB2 := below_step hB1 hbM
  have hyn := (good_of hchk).sats
  obtain ⟨hby, hY, hzy⟩ := alloc_row w2 [.int .i64 y.fin, .int .i64 y.tmany, .int .i64 y.troom, .int .i64 y.bmany, .int .i64 y.broom, .slice (some ⟨gs, 0, none⟩) y.sats.length ks1, .slice (some ⟨gc, 0, none⟩) y.custs.length kc1, .slice (some ⟨gco, 0, none⟩) y.cost.length cco, .slice (some ⟨gti, 0, none⟩) y.time.length cti] 33
  have hB3 := below_step hB2 hby
  have HY3 := hid (instS.below hyr hby)
  have HCH := hid hchk
  have HCOST := hid hcost
  have HL3 := hid ((sliceS intS).below hlrep hB3)
  clear hy hi I hmw hchk S1 hB1 hbM p0 p1 p2 p3 p4 p5 p6 p7 p8 p9 p10 hyr hby hsrep hlrep hswf hcost hroom hB2
  obtain ⟨q0, q1, q2, q3, q4, q5, q6, q7, q8⟩ := row9 hY
  go_wp2_with fail
  refine (order_c HY3.out HL3.out).mono ?_
  rintro e w4 ⟨u, rfl, hr, hb4⟩
  have Y4 := hY.below hb4
  have hB4 := below_step hB3 hb4
  have HY4 := hid (instS.below HY3.out hb4)
  by_cases hll : l.length = y.sats.length
  case neg =>
    have hb := bne_cast hll
    have e0 : orderD y l = [] := by unfold orderD; rw [if_neg (fun h => hll h.2)]
    rw [e0] at hr
    obtain ⟨o1, o2, o3, o4, hu, -, -, -, -, -, -⟩ := ints_open hr
    obtain rfl := List.cons.inj hu |>.1
    clear hll hr hu e0 hcell3 ha3 hwf3 q0 q1 q2 q3 q4 q5 q6 q7 q8
    obtain ⟨q0, q1, q2, q3, q4, q5, q6, q7, q8⟩ := row9 Y4
    simp only [List.map_nil, List.length_nil]
    go_wp2
    go_ret
    exact ⟨rfl, hB4⟩
  have hbf := bne_cast' hll
  rw [order_float HCH.out hll] at hr
  obtain ⟨o1, o2, o3, o4, hu, -, -, -, -, -, -⟩ := ints_open hr
  obtain rfl := List.cons.inj hu |>.1
  simp only [List.length_map] at hr ⊢
  have HR4 := hid hr
  clear hr hu HY3 HL3 q0 q1 q2 q3 q4 q5 q6 q7 q8
  obtain ⟨wq, rfl⟩ : ∃ wq : World, wq = w4 := ⟨_, rfl⟩
  obtain ⟨_, _, _, _, hlit, -, -, -, hrw, -⟩ := HY4.out
  simp only [List.cons.injEq, and_true, true_and] at hlit
  obtain ⟨-, -, rfl, -⟩ := hlit
  obtain ⟨a7, b7, off7, c7, hs7, hl7, hc7, ha7, -, hcell7⟩ := rows_open hrw
  simp only [List.cons.injEq, and_true, Value.slice.injEq, true_and] at hs7
  obtain ⟨rfl, rfl⟩ := hs7
  have hcell2 : ∀ k (h : k < l.length), wq.cell? ⟨b3, off3 + k, none⟩ = some (.int .i64 l[k]) := fun k h => below_cell hB4 (hcell3 k h)
  have gd := good_of HCH.out
  have hnl := gd.sats
  have GD := hid gd
  have HLL := hid hll
  have hln : l.length ≤ 12 := by omega
  have hcl : 0 < y.cost.length := by rw [gd.costL]; unfold nodes; omega
  obtain ⟨rv, gr, rr⟩ := hcell7 0 hcl
  rw [Nat.add_zero] at gr
  obtain ⟨a8, b8, off8, c8, hs8, hl8, hc8, ha8, -, hcell8, -⟩ := ints_open rr
  obtain rfl := List.cons.inj hs8 |>.1
  have hrl := gd.costR _ (List.getElem_mem hcl)
  have hbx : ∀ k, k < l.length → 1 + k < (y.cost[0]).length := fun k hk => by rw [hrl]; unfold nodes; omega
  have HBX := hid hbx
  have hcst : ∀ k, k < l.length → ∀ h : 1 + k < (y.cost[0]).length, (y.cost[0])[1 + k] = costAt y 0 (1 + k) := fun k hk h => by
    unfold costAt
    rw [show (1 + (k : Int)).toNat = 1 + k by omega, List.getD_eq_getElem?_getD, List.getD_eq_getElem?_getD, show (0 : Int).toNat = 0 from rfl, List.getElem?_eq_getElem hcl, Option.getD_some, List.getElem?_eq_getElem h]; rfl
  have hrc : ∀ k, k < l.length → wq.cell? ⟨b8, off8 + (1 + k), none⟩ = some (.int .i64 (costAt y 0 (1 + k))) := fun k hk => by
    rw [← hcst k hk (hbx k hk)]; exact hcell8 (1 + k) (hbx k hk)
  have HRC := hid hrc
  have hlc : ∀ k, k < l.length → wq.cell? ⟨b3, off3 + k, none⟩ = some (.int .i64 (l.getD k 0)) := fun k hk => by
    rw [List.getD_eq_getElem?_getD, List.getElem?_eq_getElem hk]; exact hcell2 k hk
  have HLC := hid hlc
  have hlv : ∀ k, wf64 (l.getD k 0) := fun k => by
    rw [List.getD_eq_getElem?_getD]
    by_cases hk : k < l.length
    · rw [List.getElem?_eq_getElem hk]; exact hwf3 _ (List.getElem_mem hk)
    · rw [List.getElem?_eq_none (by omega)]; unfold wf64; simp
  have HLV := hid hlv
  have hxr : ∀ w, (Instr.indexAt 31 (.slice (some ⟨gco, 0, none⟩) y.cost.length cco) (.int .i64 0)).run Try.prog w = .ok (.pointer (some ⟨b7, off7, none⟩)) w := idx_at1 Try.underlying31 sz_row (ha7 hcl) (k := 0) hcl
  have hxc : ∀ k, k < l.length → ∀ w, (Instr.indexAt 34 (.slice a8 (y.cost[0]).length c8) (.int .i64 (1 + (k : Int)))).run Try.prog w = .ok (.pointer (some ⟨b8, off8 + (1 + k), none⟩)) w := fun k hk w => by
    have := idx_at1 (c := c8) Try.underlying34 sz_i64 (ha8 (by have := hbx k hk; omega)) (hbx k hk) w
    simpa using this
  have HXC := hid hxc
  have hxl : ∀ k, k < l.length → ∀ w, (Instr.indexAt 34 (.slice a3 l.length c3) (.int .i64 (k : Int))).run Try.prog w = .ok (.pointer (some ⟨b3, off3 + k, none⟩)) w := fun k hk => idx_at1 (c := c3) Try.underlying34 sz_i64 (ha3 (by omega)) hk
  have HXL := hid hxl
  have R := hid Y4
  clear hcell7 ha7 hcell2 ha3 hcell8 ha8 hs8 rr hrl hcst hrc hlc hlv hxc hxl hbx hwf3 gd hll hcell3 hrw hB3 Y4
  obtain ⟨q0, q1, q2, q3, q4, q5, q6, q7, q8⟩ := row9 R.out
  go_wp2
  go_loopw [7, 29] (fun ov i wr => ∃ (k : Nat) (ao : Option Addr) (cp : Nat), k ≤ l.length ∧ i = .int .i64 k ∧ ov = .slice ao (orderF y l k).length cp ∧ wr.ownsRow wq.heap.size 3 1 (.slice ao (orderF y l k).length cp) (orderF y l k).length ((orderF y l k).map idxV) ∧
      Row wr w2.heap.size 33 [.int .i64 y.fin, .int .i64 y.tmany, .int .i64 y.troom, .int .i64 y.bmany, .int .i64 y.broom, .slice (some ⟨gs, 0, none⟩) y.sats.length ks1, .slice (some ⟨gc, 0, none⟩) y.custs.length kc1, .slice (some ⟨gco, 0, none⟩) y.cost.length cco, .slice (some ⟨gti, 0, none⟩) y.time.length cti] ∧ Below wq.heap.size wq wr) (fun _ i _ => l.length - (intOf i).toNat)
  case atStart => exact ⟨0, none, 0, Nat.zero_le _, rfl, rfl, World.ownsRow_nil _ _ _ _, R.out, Below.refl _ _⟩
  case round =>
    obtain ⟨k, ao, cp, hk, rfl, rfl, hown, R1, hb⟩ := hrel
    obtain ⟨wp, rfl⟩ : ∃ wp : World, wp = wr := ⟨_, rfl⟩
    have hsz := hb.size
    by_cases hlt : k < l.length
    · have hx := HXL.out k hlt
      have g0 := below_cell hb (HLC.out k hlt)
      have hnb := HLV.out k
      have gk := below_cell hb (HRC.out k hlt)
      have hxk := HXC.out k hlt
      have gr1 := below_cell hb gr
      have hkb := costAt_bd GD.out 0 (1 + k)
      have HYES := hid (orderF_yes (x := y) (l := l) (k := k))
      have HNO := hid (orderF_no (x := y) (l := l) (k := k))
      have hol := orderF_len y l k
      have hlen : (orderF y l k).length ≤ 12 := by omega
      obtain ⟨q0, q1, q2, q3, q4, q5, q6, q7, q8⟩ := row9 R1
      obtain ⟨n, hn⟩ : ∃ n, n = l.getD k 0 := ⟨_, rfl⟩
      obtain ⟨ck, hck'⟩ : ∃ ck, ck = costAt y 0 (1 + k) := ⟨_, rfl⟩
      rw [← hn] at g0 hnb HYES HNO
      rw [← hck'] at gk hkb
      have HN := hid hn
      have HCKV := hid hck'
      have HOW := hid hown
      have HLTM := hid (fun j (hj : j < (orderF y l k).length) => orderF_get hj)
      have hme : ∀ j (hj : j < (orderF y l k).length), (ao, cp) = (ao, cp) ∧ ∃ g : Nat, ao = some ⟨g, 0, none⟩ ∧ wp.cell? ⟨g, j, none⟩ = some (.int .i64 ((orderF y l k)[j] : Nat)) := fun j hj => by
        obtain ⟨g, cap, hv, -, -, -, hrow⟩ := Row.of_owns hown (by omega)
        simp only [Value.slice.injEq] at hv
        refine ⟨rfl, g, hv.1, ?_⟩
        have := hrow.cell (j := j) (by rw [List.length_map]; exact hj)
        rw [List.getElem_map] at this
        exact this
      have HME := hid hme
      clear hn hck' hown hme
      by_cases hpos : 0 < n
      · go_wp2
        go_loopw [10] (fun av wx => ∃ t : Nat, t ≤ (orderF y l k).length ∧ av = .int .i64 t ∧ (∀ j (h : j < (orderF y l k).length), t ≤ j → ltF y l k (orderF y l k)[j] = true) ∧ Below wp.heap.size wp wx) (fun av _ => (intOf av).toNat)
        case atStart => exact ⟨(orderF y l k).length, Nat.le_refl _, rfl, fun j h h2 => absurd h (by omega), Below.refl _ _⟩
        case round =>
          clear gk gr1 g0 q0 q1 q2 q3 q4 q5 q6 q7 q8
          obtain ⟨t, ht, rfl, hall, hbw⟩ := hrel
          obtain ⟨wz, rfl⟩ : ∃ wz : World, wz = wr := ⟨_, rfl⟩
          have hbz := below_step hb hbw
          have gk := below_cell hbz (HRC.out k hlt)
          rw [← HCKV.out] at gk
          have gr1 := below_cell hbz gr
          obtain ⟨q0, q1, q2, q3, q4, q5, q6, q7, q8⟩ := row9 (R1.below hbw)
          by_cases ht0 : 0 < t
          case' pos =>
            have htl : t - 1 < (orderF y l k).length := by omega
            obtain ⟨-, g, hao, gm⟩ := HME.out (t - 1) htl
            replace gm := below_cell hbw gm
            have ⟨hol2, hmp⟩ := HLTM.out (t - 1) htl
            obtain ⟨o, ho⟩ : ∃ o, o = (orderF y l k)[t - 1] := ⟨_, rfl⟩
            rw [← ho] at gm hol2 hmp
            have hol3 : o < l.length := by omega
            have go0 := below_cell hbz (HLC.out o hol3)
            have go1 := below_cell hbz (HRC.out o hol3)
            have hxo := HXL.out o hol3
            have hxo1 := HXC.out o hol3
            have hob := HLV.out o
            have hcb := costAt_bd GD.out 0 (1 + o)
            have hLT : ltF y l k o = decide (ratioF ck n < ratioF (costAt y 0 (1 + o)) (l.getD o 0)) := by unfold ltF; rw [HCKV.out, HN.out]
            obtain ⟨m, hm⟩ : ∃ m, m = l.getD o 0 := ⟨_, rfl⟩
            obtain ⟨co', hco'⟩ : ∃ co', co' = costAt y 0 (1 + o) := ⟨_, rfl⟩
            rw [← hm] at go0 hob hLT hmp
            rw [← hco'] at go1 hcb hLT
            unfold wf64 at hnb hob
            have hf1 := ratio_some hkb.1 (by omega) hpos (by omega)
            have hf2 := ratio_some hcb.1 (by omega) hmp (by omega)
            have hr1 : ∀ w, (binOp .quo 65 (.float .f64 (floatOfInt .f64 ck)) (.float .f64 (floatOfInt .f64 n))).run Try.prog w = .ok (.float .f64 (ratioF ck n)) w := fun w => run_float_arith w .quo _ _ _ _ _ hf1.1
            have hr2 : ∀ w, (binOp .quo 65 (.float .f64 (floatOfInt .f64 co')) (.float .f64 (floatOfInt .f64 m))).run Try.prog w = .ok (.float .f64 (ratioF co' m)) w := fun w => run_float_arith w .quo _ _ _ _ _ hf2.1
            have htst := lt_test hf1.2 hf2.2
            obtain ⟨r1, hr1'⟩ : ∃ r1, r1 = ratioF ck n := ⟨_, rfl⟩
            obtain ⟨r2, hr2'⟩ : ∃ r2, r2 = ratioF co' m := ⟨_, rfl⟩
            rw [← hr1'] at hr1 htst hLT
            rw [← hr2'] at hr2 htst hLT
            have hxm : ∀ w, (Instr.indexAt 49 (.slice ao (orderF y l k).length cp) (.int .i64 ((t : Int) - 1))).run Try.prog w = .ok (.pointer (some ⟨g, t - 1, none⟩)) w := fun w => by
              have := idx_at1 (c := cp) Try.underlying49 sz_int (a := ao) hao htl w
              rw [show ((t - 1 : Nat) : Int) = (t : Int) - 1 by omega, Nat.zero_add] at this
              exact this
            have ht1 : (1 : Int) ≤ t := by omega
            have ht2 : (t : Int) ≤ 12 := by omega
            have HALL := hid hall
            have HO := hid ho
            clear hm hco' ho hall hao hf1 hf2 hr1' hr2'
            by_cases hlt2 : r1 < r2
            case pos =>
              have hd : decide (r1 < r2) = true := decide_eq_true hlt2
              have HLT := hid (hLT.trans hd)
              rw [hd] at htst
              clear hLT
              go_wp2
              go_quiet (fail)
              go_wp2
              go_roundw
              case rel =>
                refine ⟨t - 1, by omega, by go_num, fun j h h2 => ?_, ?_⟩
                rotate_left
                · exact below_drewN hbw _
                by_cases hj : j = t - 1
                · subst hj; rw [← HO.out]; exact HLT.out
                · exact HALL.out j h (by omega)
              case measure => simp [intOf]; omega
            have hd : decide (r1 < r2) = false := decide_eq_false hlt2
            have HST := hid (show ∀ (h : t - 1 < (orderF y l k).length), 0 < t → ltF y l k (orderF y l k)[t - 1] = false from fun h _ => by rw [← HO.out]; exact hLT.trans hd)
            rw [hd] at htst
            clear hLT
          case' neg =>
            have ht3 : ¬ (0 : Int) < t := by omega
            have hd : decide ((0 : Int) < t) = false := decide_eq_false ht3
            have HST := hid (show ∀ (h : t - 1 < (orderF y l k).length), 0 < t → ltF y l k (orderF y l k)[t - 1] = false from fun h h2 => absurd h2 ht0)
            have HALL := hid hall
            clear hall
          all_goals
            have HINS := hid ((HYES.out hpos).trans (insR_at ht HALL.out HST.out))
            have hown1 := owns_below HOW.out hbw
            have HOW1 := hid hown1
            have hzz := hbw.size
            clear hown1
            go_wp2
            go_quiet (fail)
            go_wp2_with fail
            have hownA := (show (wz.drewN nq).ownsRow _ _ _ _ _ _ from HOW1.out).alloc (.cells #[.int .i64 k] 3)
            have hneB : some wz.heap.size ≠ (Value.slice ao (orderF y l k).length cp).ownBlock := fun e => by have := (HOW1.out.lt _ e.symm).2; omega
            refine (insert_c (x := .int .i64 k) hownA (by show _ ≤ ((wz.drewN nq).alloc _).heap.size; simp [World.drewN]; omega) ht (by omega) (fun u hu => by obtain ⟨i, _, rfl⟩ := List.mem_map.1 hu; rfl) rfl (heap_alloc_new (wz.drewN nq) _) hneB).mono ?_
            rintro e w2 ⟨u, rfl, hown2, hg2⟩
            obtain ⟨ao2, cp2, hu2, -, -⟩ := owns_slice hown2
            subst hu2
            have hbA : Below wq.heap.size wq ((wz.drewN nq).alloc (.cells #[.int .i64 k] 3)) := (below_drewN hbz nq).alloc (by show _ ≤ (wz.drewN nq).heap.size; simp [World.drewN]; omega) _
            have HB2 := hid (below_owned hbA hownA (by simp [World.drewN]; omega) (Nat.le_refl _) hg2)
            have HR2 := hid (((R1.below (below_drewN hbw nq)).alloc (.cells #[.int .i64 k] 3)).grown hownA (by decide) hg2)
            have HLEN := hid (show (orderF y l (k + 1)).length = (orderF y l k).length + 1 from by rw [HINS.out]; simp; omega)
            have HOWN2 := hid (show w2.ownsRow wq.heap.size 3 1 (.slice ao2 (orderF y l (k + 1)).length cp2) (orderF y l (k + 1)).length ((orderF y l (k + 1)).map idxV) from by
              rw [HLEN.out, HINS.out, List.map_append, List.map_cons, List.map_take, List.map_drop]; exact hown2)
            clear hown2 hg2 hownA hneB hbA
            go_wp2
            go_roundw
            case rel => exact ⟨k + 1, ao2, cp2, by omega, by go_num, by rw [HLEN.out], HOWN2.out, HR2.out, HB2.out⟩
            case measure => simp [intOf]; omega
      · have hd : decide (0 < n) = false := decide_eq_false hpos
        have HN2 := hid (HNO.out hpos)
        go_wp2
        go_loopw [10] (fun av wx => av = .int .i64 (orderF y l k).length ∧ Below wp.heap.size wp wx) (fun av _ => (intOf av).toNat)
        case atStart => exact ⟨rfl, Below.refl _ _⟩
        case round =>
          clear gk gr1 g0 q0 q1 q2 q3 q4 q5 q6 q7 q8
          obtain ⟨rfl, hbw⟩ := hrel
          obtain ⟨wz, rfl⟩ : ∃ wz : World, wz = wr := ⟨_, rfl⟩
          have hbz := below_step hb hbw
          have HOW1 := hid (owns_below HOW.out hbw)
          have HR2 := hid (R1.below hbw)
          go_wp2
          go_quiet (fail)
          go_wp2
          go_roundw
          case rel => exact ⟨k + 1, ao, cp, by omega, by go_num, by rw [HN2.out], by rw [HN2.out]; exact HOW1.out, HR2.out, below_drewN hbz _⟩
          case measure => simp [intOf]; omega
    · have hke : k = l.length := by omega
      subst hke
      have HREP := hid (show (sliceS intS).rep wp (fun b => wq.heap.size ≤ b) ((orderF y l l.length).map fun i : Nat => (i : Int)) [.slice ao (orderF y l l.length).length cp] from by
        have := owns_ints (T := 3) (w := wp) (B := wq.heap.size) (xs := (orderF y l l.length).map fun i : Nat => (i : Int)) (v := .slice ao (orderF y l l.length).length cp) (by rw [List.length_map, List.map_map]; exact hown) (by
          intro z hz
          obtain ⟨i, hi, rfl⟩ := List.mem_map.1 hz
          have := (orderF_lt hi).1
          unfold wf64; omega)
        exact this)
      clear hown
      go_wp2_with fail
      refine (eqInts_c ((sliceS intS).below HR4.out hb) HREP.out).mono ?_
      rintro e w7 ⟨rfl, n, rfl⟩
      rw [decide_eq_true rfl]
      go_wp2
      go_ret
      exact ⟨rfl, below_step hB4 (below_drewN hb n)⟩
end Go.Proofs.Ytafhjfkdlmijdaa
