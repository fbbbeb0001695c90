/- Contract: wharfagelaw22.Order. -/
import Derived.Test.YtafhjfkdlmijdaaGf
import Derived.Test.YtafhjfkdlmijdaaGc
import Derived.BigQuiet
namespace Go.Proofs.Ytafhjfkdlmijdaa
open Go.RowKit

theorem mul_bd2 {a b : Int} (h0 : 0 ≤ a) (h1 : a ≤ 1000000000) (k0 : 0 ≤ b) (k1 : b ≤ 1000000000) : 0 ≤ a * b ∧ a * b ≤ 1000000000000000000 :=
  ⟨Int.mul_nonneg h0 k0, Int.le_trans (Int.mul_le_mul_of_nonneg_right h1 k0) (Int.mul_le_mul_of_nonneg_left k1 (by omega))⟩
theorem sortD_get {x : InstD} {l : List Int} {k j : Nat} (h : j < (orderW x l k).length) : (orderW x l k)[j] < k := orderW_lt (List.getElem_mem h)

set_option maxRecDepth 100000 in
set_option maxHeartbeats 3200000 in
theorem orderW_c {w : World} {F G : Nat → Prop} {x : InstD} {cs : List Value} {l : List Int} {v : Value} (h : instS.rep w F x cs) (hl : (sliceS intS).rep w G l [v]) (hck : check x = 0) (hll : l.length = x.sats.length) (hlb : ∀ v ∈ l, 0 ≤ v ∧ v ≤ 1000000000) :
    Calls Try.prog 27 #[.agg cs.toArray, v] w fun e w' => ∃ u, e = .returned u ∧ (sliceS intS).rep w' (fun b => w.heap.size ≤ b) ((orderW x l l.length).map fun i : Nat => (i : Int)) [u] ∧ Below w.heap.size w w' := by
  obtain ⟨s, c, co, ti, rfl, -, h1, -, h3, -⟩ := h
  obtain ⟨a, b, off, c1, hs, hls, hcs, -, -, -, -⟩ := sats_open h1
  obtain rfl := List.cons.inj hs |>.1
  obtain ⟨a7, b7, off7, c7, hs7, hl7, hc7, ha7, -, hcell7⟩ := rows_open h3
  obtain rfl := List.cons.inj hs7 |>.1
  obtain ⟨a2, b2, off2, c2, hs2, hl2, hc2, ha2, -, hcell2, hwf2⟩ := ints_open hl
  obtain rfl := List.cons.inj hs2 |>.1
  clear hs hs7 hs2 h1 h3 hl
  have gd := good_of hck
  have hnl := gd.sats
  have GD := hid gd
  have HLB := hid hlb
  have HLL := hid hll
  have hln : l.length ≤ 12 := by omega
  have hcl : 0 < x.cost.length := by rw [gd.costL]; unfold nodes; omega
  obtain ⟨rv, gr, rr⟩ := hcell7 0 hcl
  rw [Nat.add_zero] at gr
  obtain ⟨a8, b8, off8, c8, hs8, hl8, hc8, ha8, -, hcell8, -⟩ := ints_open rr
  obtain rfl := List.cons.inj hs8 |>.1
  have hrl := gd.costR _ (List.getElem_mem hcl)
  have hbx : ∀ k, k < l.length → 1 + k < (x.cost[0]).length := fun k hk => by rw [hrl]; unfold nodes; omega
  have HBX := hid hbx
  have hcst : ∀ k, k < l.length → ∀ h : 1 + k < (x.cost[0]).length, (x.cost[0])[1 + k] = costAt x 0 (1 + k) := fun k hk h => by
    unfold costAt
    rw [show (1 + (k : Int)).toNat = 1 + k by omega, List.getD_eq_getElem?_getD, List.getD_eq_getElem?_getD, show (0 : Int).toNat = 0 from rfl, List.getElem?_eq_getElem hcl, Option.getD_some, List.getElem?_eq_getElem h]; rfl
  have hrc : ∀ k, k < l.length → w.cell? ⟨b8, off8 + (1 + k), none⟩ = some (.int .i64 (costAt x 0 (1 + k))) := fun k hk => by
    rw [← hcst k hk (hbx k hk)]; exact hcell8 (1 + k) (hbx k hk)
  have HRC := hid hrc
  have hlc : ∀ k, k < l.length → w.cell? ⟨b2, off2 + k, none⟩ = some (.int .i64 (l.getD k 0)) := fun k hk => by
    rw [List.getD_eq_getElem?_getD, List.getElem?_eq_getElem hk]; exact hcell2 k hk
  have HLC := hid hlc
  have hlv : ∀ k, 0 ≤ l.getD k 0 ∧ l.getD k 0 ≤ 1000000000 := fun k => by
    rw [List.getD_eq_getElem?_getD]
    by_cases hk : k < l.length
    · rw [List.getElem?_eq_getElem hk]; exact hlb _ (List.getElem_mem hk)
    · rw [List.getElem?_eq_none (by omega)]; simp
  have HLV := hid hlv
  have hxr : ∀ w, (Instr.indexAt 31 (.slice a7 x.cost.length c7) (.int .i64 0)).run Try.prog w = .ok (.pointer (some ⟨b7, off7, none⟩)) w := idx_at1 Try.underlying31 sz_row (ha7 hcl) (k := 0) hcl
  have hxc : ∀ k, k < l.length → ∀ w, (Instr.indexAt 34 (.slice a8 (x.cost[0]).length c8) (.int .i64 (1 + (k : Int)))).run Try.prog w = .ok (.pointer (some ⟨b8, off8 + (1 + k), none⟩)) w := fun k hk w => by
    have := idx_at1 (c := c8) Try.underlying34 sz_i64 (ha8 (by have := hbx k hk; omega)) (hbx k hk) w
    simpa using this
  have HXC := hid hxc
  have hxl : ∀ k, k < l.length → ∀ w, (Instr.indexAt 34 (.slice a2 l.length c2) (.int .i64 (k : Int))).run Try.prog w = .ok (.pointer (some ⟨b2, off2 + k, none⟩)) w := fun k hk => idx_at1 (c := c2) Try.underlying34 sz_i64 (ha2 (by omega)) hk
  have HXL := hid hxl
  have R := Row.new (w := w) (e := 33) (cs := [.int .i64 x.fin, .int .i64 x.tmany, .int .i64 x.troom, .int .i64 x.bmany, .int .i64 x.broom, .slice a x.sats.length c1, c, .slice a7 x.cost.length c7, ti]) rfl
  have hb0 : Below w.heap.size w (w.alloc (.cells #[.int .i64 x.fin, .int .i64 x.tmany, .int .i64 x.troom, .int .i64 x.bmany, .int .i64 x.broom, .slice a x.sats.length c1, c, .slice a7 x.cost.length c7, ti] 33)) := (Below.refl _ _).alloc (Nat.le_refl _) _
  clear hcell7 ha7 hcell2 ha2 hcell8 ha8 hs8 rr hrl hcst hrc hlc hlv hxc hxl hbx hlb hwf2 gd hll
  go_enter Try.func27, Try.ntmps27
  go_wp2
  go_loopw [5, 11] (fun ov i wr => ∃ (k : Nat) (ao : Option Addr) (cp : Nat), k ≤ l.length ∧ i = .int .i64 k ∧ ov = .slice ao (orderW x l k).length cp ∧ wr.ownsRow w.heap.size 3 1 (.slice ao (orderW x l k).length cp) (orderW x l k).length ((orderW x l k).map idxV) ∧
      Row wr w.heap.size 33 [.int .i64 x.fin, .int .i64 x.tmany, .int .i64 x.troom, .int .i64 x.bmany, .int .i64 x.broom, .slice a x.sats.length c1, c, .slice a7 x.cost.length c7, ti] ∧ Below w.heap.size w wr) (fun _ i _ => l.length - (intOf i).toNat)
  case atStart => exact ⟨0, none, 0, Nat.zero_le _, rfl, rfl, World.ownsRow_nil _ _ _ _, R, hb0⟩
  case round =>
    obtain ⟨k, ao, cp, hk, rfl, rfl, hown, R1, hb⟩ := hrel
    obtain ⟨wq, rfl⟩ : ∃ wq : World, wq = wr := ⟨_, rfl⟩
    have hsz := hb.size
    by_cases hlt : k < l.length
    · have hx := HXL.out k hlt
      have g0 := below_cell hb (HLC.out k hlt)
      have hnb := HLV.out k
      have gk := below_cell hb (HRC.out k hlt)
      have hxk := HXC.out k hlt
      have gr1 := below_cell hb gr
      have hkb := costAt_bd GD.out 0 (1 + k)
      have HYES := hid (orderW_yes (x := x) (l := l) (k := k))
      have HNO := hid (orderW_no (x := x) (l := l) (k := k))
      have hol := orderW_len x l k
      have hlen : (orderW x l k).length ≤ 12 := by omega
      obtain ⟨q0, q1, q2, q3, q4, q5, q6, q7, q8⟩ := row9 R1
      obtain ⟨n, hn⟩ : ∃ n, n = l.getD k 0 := ⟨_, rfl⟩
      obtain ⟨ck, hck'⟩ : ∃ ck, ck = costAt x 0 (1 + k) := ⟨_, rfl⟩
      rw [← hn] at g0 hnb HYES HNO
      rw [← hck'] at gk hkb
      have HN := hid hn
      have HCKV := hid hck'
      have HOW := hid hown
      have HLTM := hid (fun j (hj : j < (orderW x l k).length) => sortD_get hj)
      have hme : ∀ j (hj : j < (orderW x l k).length), (ao, cp) = (ao, cp) ∧ ∃ g : Nat, ao = some ⟨g, 0, none⟩ ∧ wq.cell? ⟨g, j, none⟩ = some (.int .i64 ((orderW x l k)[j] : Nat)) := fun j hj => by
        obtain ⟨g, cap, hv, -, -, -, hrow⟩ := Row.of_owns hown (by omega)
        simp only [Value.slice.injEq] at hv
        refine ⟨rfl, g, hv.1, ?_⟩
        have := hrow.cell (j := j) (by rw [List.length_map]; exact hj)
        rw [List.getElem_map] at this
        exact this
      have HME := hid hme
      clear hn hck' hown hme
      by_cases hpos : 0 < n
      · go_wp2
        go_loopw [8] (fun av wx => ∃ t : Nat, t ≤ (orderW x l k).length ∧ av = .int .i64 t ∧ (∀ j (h : j < (orderW x l k).length), t ≤ j → ltW x l k (orderW x l k)[j] = true) ∧ Below wq.heap.size wq wx) (fun av _ => (intOf av).toNat)
        case atStart => exact ⟨(orderW x l k).length, Nat.le_refl _, rfl, fun j h h2 => absurd h (by omega), Below.refl _ _⟩
        case round =>
          clear gk gr1 g0 q0 q1 q2 q3 q4 q5 q6 q7 q8
          obtain ⟨t, ht, rfl, hall, hbw⟩ := hrel
          obtain ⟨wz, rfl⟩ : ∃ wz : World, wz = wr := ⟨_, rfl⟩
          have hbz := below_step hb hbw
          have gk := below_cell hbz (HRC.out k hlt)
          rw [← HCKV.out] at gk
          have gr1 := below_cell hbz gr
          obtain ⟨q0, q1, q2, q3, q4, q5, q6, q7, q8⟩ := row9 (R1.below hbw)
          by_cases ht0 : 0 < t
          case' pos =>
            have htl : t - 1 < (orderW x l k).length := by omega
            obtain ⟨-, g, hao, gm⟩ := HME.out (t - 1) htl
            replace gm := below_cell hbw gm
            have hol2 := HLTM.out (t - 1) htl
            obtain ⟨o, ho⟩ : ∃ o, o = (orderW x l k)[t - 1] := ⟨_, rfl⟩
            rw [← ho] at gm hol2
            have hol3 : o < l.length := by omega
            have go0 := below_cell hbz (HLC.out o hol3)
            have go1 := below_cell hbz (HRC.out o hol3)
            have hxo := HXL.out o hol3
            have hxo1 := HXC.out o hol3
            have hob := HLV.out o
            have hcb := costAt_bd GD.out 0 (1 + o)
            have hLT : ltW x l k o = decide (ck * l.getD o 0 < costAt x 0 (1 + o) * n) := by unfold ltW; rw [HCKV.out, HN.out]
            obtain ⟨m, hm⟩ : ∃ m, m = l.getD o 0 := ⟨_, rfl⟩
            obtain ⟨co', hco'⟩ : ∃ co', co' = costAt x 0 (1 + o) := ⟨_, rfl⟩
            rw [← hm] at go0 hob hLT
            rw [← hco'] at go1 hcb hLT
            have hp1 := mul_bd2 hkb.1 hkb.2 hob.1 hob.2
            have hp2 := mul_bd2 hcb.1 hcb.2 hnb.1 hnb.2
            have hxm : ∀ w, (Instr.indexAt 49 (.slice ao (orderW x l k).length cp) (.int .i64 ((t : Int) - 1))).run Try.prog w = .ok (.pointer (some ⟨g, t - 1, none⟩)) w := fun w => by
              have := idx_at1 (c := cp) Try.underlying49 sz_int (a := ao) hao htl w
              rw [show ((t - 1 : Nat) : Int) = (t : Int) - 1 by omega, Nat.zero_add] at this
              exact this
            have ht1 : (1 : Int) ≤ t := by omega
            have ht2 : (t : Int) ≤ 12 := by omega
            have HALL := hid hall
            have HO := hid ho
            clear hm hco' ho hall hao
            by_cases hlt2 : ck * m < co' * n
            case pos =>
              have hd : decide (ck * m < co' * n) = true := decide_eq_true hlt2
              have HLT := hid (hLT.trans hd)
              clear hLT
              go_wp2
              go_quiet (fail)
              go_wp2
              go_roundw
              case rel =>
                refine ⟨t - 1, by omega, by go_num, fun j h h2 => ?_, ?_⟩
                rotate_left
                · exact below_drewN hbw _
                by_cases hj : j = t - 1
                · subst hj; rw [← HO.out]; exact HLT.out
                · exact HALL.out j h (by omega)
              case measure => simp [intOf]; omega
            have hd : decide (ck * m < co' * n) = false := decide_eq_false hlt2
            have HST := hid (show ∀ (h : t - 1 < (orderW x l k).length), 0 < t → ltW x l k (orderW x l k)[t - 1] = false from fun h _ => by rw [← HO.out]; exact hLT.trans hd)
            clear hLT
          case' neg =>
            have ht3 : ¬ (0 : Int) < t := by omega
            have hd : decide ((0 : Int) < t) = false := decide_eq_false ht3
            have HST := hid (show ∀ (h : t - 1 < (orderW x l k).length), 0 < t → ltW x l k (orderW x l k)[t - 1] = false from fun h h2 => absurd h2 ht0)
            have HALL := hid hall
            clear hall
          all_goals
            have HINS := hid ((HYES.out hpos).trans (insR_at ht HALL.out HST.out))
            have hown1 := owns_below HOW.out hbw
            have HOW1 := hid hown1
            have hzz := hbw.size
            clear hown1
            go_wp2
            go_quiet (fail)
            go_wp2_with fail
            have hownA := (show (wz.drewN nq).ownsRow _ _ _ _ _ _ from HOW1.out).alloc (.cells #[.int .i64 k] 3)
            have hneB : some wz.heap.size ≠ (Value.slice ao (orderW x l k).length cp).ownBlock := fun e => by have := (HOW1.out.lt _ e.symm).2; omega
            refine (insert_c (x := .int .i64 k) hownA (by show _ ≤ ((wz.drewN nq).alloc _).heap.size; simp [World.drewN]; omega) ht (by omega) (fun u hu => by obtain ⟨i, _, rfl⟩ := List.mem_map.1 hu; rfl) rfl (heap_alloc_new (wz.drewN nq) _) hneB).mono ?_
            rintro e w2 ⟨u, rfl, hown2, hg2⟩
            obtain ⟨ao2, cp2, hu2, -, -⟩ := owns_slice hown2
            subst hu2
            have hbA : Below w.heap.size w ((wz.drewN nq).alloc (.cells #[.int .i64 k] 3)) := (below_drewN hbz nq).alloc (by show _ ≤ (wz.drewN nq).heap.size; simp [World.drewN]; omega) _
            have HB2 := hid (below_owned hbA hownA (by simp [World.drewN]; omega) (Nat.le_refl _) hg2)
            have HR2 := hid (((R1.below (below_drewN hbw nq)).alloc (.cells #[.int .i64 k] 3)).grown hownA (by decide) hg2)
            have HLEN := hid (show (orderW x l (k + 1)).length = (orderW x l k).length + 1 from by rw [HINS.out]; simp; omega)
            have HOWN2 := hid (show w2.ownsRow w.heap.size 3 1 (.slice ao2 (orderW x l (k + 1)).length cp2) (orderW x l (k + 1)).length ((orderW x l (k + 1)).map idxV) from by
              rw [HLEN.out, HINS.out, List.map_append, List.map_cons, List.map_take, List.map_drop]; exact hown2)
            clear hown2 hg2 hownA hneB hbA
            go_wp2
            go_roundw
            case rel => exact ⟨k + 1, ao2, cp2, by omega, by go_num, by rw [HLEN.out], HOWN2.out, HR2.out, HB2.out⟩
            case measure => simp [intOf]; omega
      · have hd : decide (0 < n) = false := decide_eq_false hpos
        have HN2 := hid (HNO.out hpos)
        go_wp2
        go_loopw [8] (fun av wx => av = .int .i64 (orderW x l k).length ∧ Below wq.heap.size wq wx) (fun av _ => (intOf av).toNat)
        case atStart => exact ⟨rfl, Below.refl _ _⟩
        case round =>
          clear gk gr1 g0 q0 q1 q2 q3 q4 q5 q6 q7 q8
          obtain ⟨rfl, hbw⟩ := hrel
          obtain ⟨wz, rfl⟩ : ∃ wz : World, wz = wr := ⟨_, rfl⟩
          have hbz := below_step hb hbw
          have HOW1 := hid (owns_below HOW.out hbw)
          have HR2 := hid (R1.below hbw)
          go_wp2
          go_quiet (fail)
          go_wp2
          go_roundw
          case rel => exact ⟨k + 1, ao, cp, by omega, by go_num, by rw [HN2.out], by rw [HN2.out]; exact HOW1.out, HR2.out, below_drewN hbz _⟩
          case measure => simp [intOf]; omega
    · have hke : k = l.length := by omega
      subst hke
      have HREP := hid (show (sliceS intS).rep wq (fun b => w.heap.size ≤ b) ((orderW x l l.length).map fun i : Nat => (i : Int)) [.slice ao (orderW x l l.length).length cp] from by
        have := owns_ints (T := 3) (w := wq) (B := w.heap.size) (xs := (orderW x l l.length).map fun i : Nat => (i : Int)) (v := .slice ao (orderW x l l.length).length cp) (by rw [List.length_map, List.map_map]; exact hown) (by
          intro z hz
          obtain ⟨i, hi, rfl⟩ := List.mem_map.1 hz
          have := orderW_lt hi
          unfold wf64; omega)
        exact this)
      clear hown
      go_wp2
      go_ret
      exact ⟨_, rfl, HREP.out, hb⟩
end Go.Proofs.Ytafhjfkdlmijdaa
