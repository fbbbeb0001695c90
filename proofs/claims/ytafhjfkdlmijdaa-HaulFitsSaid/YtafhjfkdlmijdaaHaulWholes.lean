/- Contract: wharfagelaw22.HaulWholes answers true. -/
import Derived.Test.YtafhjfkdlmijdaaHaulOrders
import Derived.Test.YtafhjfkdlmijdaaHaulTrucks
import Derived.Test.YtafhjfkdlmijdaaDraft
import Derived.Test.YtafhjfkdlmijdaaSpoilt
import Derived.Test.YtafhjfkdlmijdaaWhole
namespace Go.Proofs.Ytafhjfkdlmijdaa
open Go.RowKit

/-- Small enough numbers in a plan. -/
structure PlanFew (p : PlanD) : Prop where
  tl : p.trucks.length ≤ 100000
  bl : p.bikes.length ≤ 100
  ts : ∀ t ∈ p.trucks, t.length ≤ 100000 ∧ ∀ s ∈ t, (-1000000000 ≤ s.sat ∧ s.sat ≤ 1000000000) ∧ -1000000000 ≤ s.load ∧ s.load ≤ 1000000000
  bs : ∀ b ∈ p.bikes, (-1000000000 ≤ b.sat ∧ b.sat ≤ 1000000000) ∧ b.stops.length ≤ 100 ∧ ∀ c ∈ b.stops, -1000000000 ≤ c ∧ c ≤ 1000000000
theorem dOne_ok {many room : Int} {q : Bool} {s : Nat} (hr : 1 ≤ room) (hs : s ≤ 1000) : ∀ (f : Nat) (n : Int) (cnt : Nat) (out : List (List StopD)) (left : Int), UnitOk room cnt out left → UnitOk room (cnt + n.toNat) (dOne many room q s f n (out, left)).1 (dOne many room q s f n (out, left)).2
  | 0, n, cnt, out, left, h => ⟨h.leftB, by have := h.lenB; show out.length ≤ _; omega, h.someB, fun t ht => by have := h.stB t ht; exact ⟨by omega, fun u hu => by have := this.2 u hu; omega⟩⟩
  | f + 1, n, cnt, out, left, h => by
    by_cases hn : n ≤ 0
    · rw [dOne_done hn]
      exact ⟨h.leftB, by have := h.lenB; show out.length ≤ _; omega, h.someB, fun t ht => by have := h.stB t ht; exact ⟨by omega, fun u hu => by have := this.2 u hu; omega⟩⟩
    · obtain ⟨o, l, hrd, h1, h2, h3, h4, h5⟩ := h.readyQ (many := many) (q := q) hr
      have hb := UnitOk.batch (room := room) (l := l) (much := min n l) (s := s) ⟨h1, h2⟩ ⟨h3, h4⟩ h5 (by omega) hs
      have ih := dOne_ok (many := many) (q := q) hr hs f (n - min n l) _ _ _ hb
      have e : dOne many room q s (f + 1) n (out, left) = dOne many room q s f (n - min n l) (addLast o ⟨s, min n l⟩, l - min n l) := by
        show (if n ≤ 0 then _ else _) = _
        rw [if_neg hn, hrd]
      rw [e]
      have ec : cnt + (min n l).toNat + (n - min n l).toNat = cnt + n.toNat := by omega
      rw [ec] at ih
      exact ih
theorem dUp_ok {x : InstD} {w : WishD} {lo : List Int} (hr : 1 ≤ x.troom) (hl : ∀ s, 0 ≤ lo.getD s 0 ∧ lo.getD s 0 ≤ 6000) : ∀ s, s ≤ 1000 → UnitOk x.troom (6000 * s) (dUp x w lo s).1 (dUp x w lo s).2
  | 0, _ => UnitOk.nil (by omega)
  | s + 1, hs => by
    have ih := dUp_ok (w := w) hr hl s (by omega)
    have h := dOne_ok (many := x.tmany) (q := cutQ w s) (s := s) hr (by omega) (lo.getD s 0).toNat (lo.getD s 0) (6000 * s) (dUp x w lo s).1 (dUp x w lo s).2 ih
    have := hl s
    refine ⟨h.leftB, ?_, h.someB, fun t ht => ?_⟩
    · have hL : (dOne x.tmany x.troom (cutQ w s) s (lo.getD s 0).toNat (lo.getD s 0) (dUp x w lo s)).1.length ≤ 6000 * s + (lo.getD s 0).toNat := h.lenB
      show (dOne x.tmany x.troom (cutQ w s) s (lo.getD s 0).toNat (lo.getD s 0) (dUp x w lo s)).1.length ≤ 6000 * (s + 1)
      omega
    · have := h.stB t ht; exact ⟨by omega, fun u hu => by have := this.2 u hu; omega⟩
theorem draft_small {x : InstD} (w : WishD) (hns : 1 ≤ x.sats.length ∧ x.sats.length ≤ 3) (hnc : 1 ≤ x.custs.length ∧ x.custs.length ≤ 6) (hcl : ∀ c ∈ x.custs, 1 ≤ c.load ∧ c.load ≤ 1000) (htr : 1 ≤ x.troom) : PlanFew (draftD x w) := by
  have hol : (draftOrd x w).length = x.custs.length := orderUp_len _ _
  have hk := draftUp_ok (x := x) w (os := draftOrd x w) (fun c hc => by have := hcl c hc; omega) (by omega) (orderUp_lt _ _) (draftOrd x w).length (Nat.le_refl _)
  have hlv : ∀ s, 0 ≤ (draftLB x w).1.getD s 0 ∧ (draftLB x w).1.getD s 0 ≤ 6000 := fun s => by
    rw [List.getD_eq_getElem?_getD]
    by_cases hs : s < (draftLB x w).1.length
    · rw [List.getElem?_eq_getElem hs]
      have := hk.loB _ (List.getElem_mem hs)
      exact ⟨this.1, Int.le_trans this.2 (by rw [hol]; omega)⟩
    · rw [List.getElem?_eq_none (by omega)]; simp
  have hd := dUp_ok (x := x) (w := w) htr hlv (draftLB x w).1.length (by unfold draftLB; rw [hk.loL]; omega)
  have hll : (draftLB x w).1.length ≤ 3 := by unfold draftLB; rw [hk.loL]; omega
  refine ⟨?_, ?_, fun t ht => ?_, fun b hb => ?_⟩
  · have := hd.lenB; show (dUp x w (draftLB x w).1 (draftLB x w).1.length).1.length ≤ _; omega
  · have := hk.bsL; show (draftLB x w).2.length ≤ _; unfold draftLB; omega
  · have := hd.stB t ht; exact ⟨by omega, fun u hu => by have := this.2 u hu; omega⟩
  · have := hk.bsB b hb; exact ⟨by omega, by omega, fun c hc => by have := this.2.2 c hc; omega⟩
theorem spoil_bikes {p : PlanD} (h : PlanFew p) (what at_ : Nat) {by_ : Int} (hby : -128 ≤ by_ ∧ by_ ≤ 127) : (spoiltD p what at_ by_).bikes.length ≤ 200 ∧ ∀ b ∈ (spoiltD p what at_ by_).bikes, wf64 b.sat ∧ b.stops.length ≤ 200 ∧ ∀ c ∈ b.stops, wf64 c := by
  have hbl := h.bl
  have base : p.bikes.length ≤ 200 ∧ ∀ b ∈ p.bikes, wf64 b.sat ∧ b.stops.length ≤ 200 ∧ ∀ c ∈ b.stops, wf64 c := ⟨by omega, fun b hb => by
    have h1 := h.bs b hb
    exact ⟨by unfold wf64; omega, by omega, fun c hc => by have := h1.2.2 c hc; unfold wf64; omega⟩⟩
  have hget : ∀ B, (-1000000000 ≤ (p.bikes.getD B ⟨0, []⟩).sat ∧ (p.bikes.getD B ⟨0, []⟩).sat ≤ 1000000000) ∧ (p.bikes.getD B ⟨0, []⟩).stops.length ≤ 100 ∧ ∀ c ∈ (p.bikes.getD B ⟨0, []⟩).stops, -1000000000 ≤ c ∧ c ≤ 1000000000 := fun B => by
    rw [List.getD_eq_getElem?_getD]
    by_cases hB : B < p.bikes.length
    · rw [List.getElem?_eq_getElem hB]; exact h.bs _ (List.getElem_mem hB)
    · rw [List.getElem?_eq_none (by omega)]; exact ⟨by simp, by simp, fun c hc => by cases hc⟩
  have hset : ∀ (B : Nat) (b : BikeD), (wf64 b.sat ∧ b.stops.length ≤ 200 ∧ ∀ c ∈ b.stops, wf64 c) → (p.bikes.set B b).length ≤ 200 ∧ ∀ b' ∈ p.bikes.set B b, wf64 b'.sat ∧ b'.stops.length ≤ 200 ∧ ∀ c ∈ b'.stops, wf64 c := fun B b hb => by
    refine ⟨by rw [List.length_set]; omega, fun b' hb' => ?_⟩
    rcases List.mem_or_eq_of_mem_set hb' with h' | rfl
    · exact base.2 b' h'
    · exact hb
  unfold spoiltD
  split
  · exact base
  · show (spoilB p _ _ _ (at_ : Int) by_).length ≤ 200 ∧ ∀ b ∈ spoilB p _ _ _ (at_ : Int) by_, wf64 b.sat ∧ b.stops.length ≤ 200 ∧ ∀ c ∈ b.stops, wf64 c
    generalize at_ % p.bikes.length = B
    have hg := hget B
    have hgI : ∀ (l : List Int), (∀ c ∈ l, -1000000000 ≤ c ∧ c ≤ 1000000000) → ∀ I, -1000000000 ≤ l.getD I 0 ∧ l.getD I 0 ≤ 1000000000 := fun l hl I => by
      rw [List.getD_eq_getElem?_getD]
      by_cases hI : I < l.length
      · rw [List.getElem?_eq_getElem hI]; exact hl _ (List.getElem_mem hI)
      · rw [List.getElem?_eq_none (by omega)]; simp
    generalize (at_ / 3) % _ = I
    have hI := hgI _ hg.2.2 I
    unfold spoilB
    generalize p.bikes.getD B ⟨0, []⟩ = bk at *
    have hsw : wf64 bk.sat := by unfold wf64; omega
    have hcw : ∀ c ∈ bk.stops, wf64 c := fun c hc => by have := hg.2.2 c hc; unfold wf64; omega
    split
    · exact hset _ _ ⟨hsw, by have := List.length_eraseIdx_le bk.stops I; show (bk.stops.eraseIdx I).length ≤ 200; omega, fun c hc => hcw c (List.mem_of_mem_eraseIdx hc)⟩
    · exact hset _ _ ⟨hsw, by show (bk.stops ++ [_]).length ≤ 200; rw [List.length_append, List.length_singleton]; omega, fun c hc => by
        rcases List.mem_append.1 hc with hc | hc
        · exact hcw c hc
        · obtain rfl := List.mem_singleton.1 hc; unfold wf64; omega⟩
    · exact hset _ _ ⟨hsw, by show (bk.stops.set I _).length ≤ 200; rw [List.length_set]; omega, fun c hc => by
        rcases List.mem_or_eq_of_mem_set hc with hc | rfl
        · exact hcw c hc
        · unfold wf64; omega⟩
    · exact hset _ _ ⟨by show wf64 (bk.sat + by_); unfold wf64; omega, by show bk.stops.length ≤ 200; omega, hcw⟩
    · refine ⟨by rw [List.length_append, List.length_singleton]; omega, fun b hb => ?_⟩
      rcases List.mem_append.1 hb with hb | hb
      · exact base.2 b hb
      · obtain rfl := List.mem_singleton.1 hb
        exact ⟨by show wf64 by_; unfold wf64; omega, by simp, fun c hc => by cases hc⟩
    · exact base
theorem stopsUp_bd {l : List BikeD} {m : Nat} (h : ∀ b ∈ l, b.stops.length ≤ m) : ∀ k, k ≤ l.length → stopsUp l k ≤ m * k
  | 0, _ => by unfold stopsUp; simp
  | k + 1, hk => by
    have ih := stopsUp_bd h k (by omega)
    have := h _ (List.getElem_mem (show k < l.length by omega))
    rw [stopsUp_succ (show k < l.length by omega), Nat.mul_add, Nat.mul_one]
    omega

set_option maxRecDepth 100000 in
set_option maxHeartbeats 3200000 in
theorem haulWholes_c {w : World} {F G : Nat → Prop} {sm : SmallD} {wi : WishD} {cs1 cs2 : List Value} {what at_ : Nat} {by_ : Int} (h1 : smallS.rep w F sm cs1) (h2 : wishS.rep w G wi cs2) (hwh : what ≤ 255) (hat : at_ ≤ 255) (hby : -128 ≤ by_ ∧ by_ ≤ 127) :
    Calls Try.prog 9 #[.agg cs1.toArray, .agg cs2.toArray, .int .u8 (what : Int), .int .u8 (at_ : Int), .int .i8 by_] w fun e w' => e = .returned (.bool true) ∧ Below w.heap.size w w' := by
  have hsrep := h1
  have hwrep := h2
  have hswf := small_wf h1
  obtain ⟨s5, s6, s7, s8, rfl, -, -, -, -, -⟩ := h1
  obtain ⟨u1, u2, u3, rfl, -, -, -⟩ := h2
  have S0 := (Row.new (w := w) (e := 26) (cs := [.int .u8 sm.fin, .int .u8 sm.trucks, .int .u8 sm.troom, .int .u8 sm.bikes, .int .u8 sm.broom, s5, s6, s7, s8, .bool sm.tight, .bool sm.loose]) rfl).alloc (.cells #[u1, u2, u3] 72)
  have W0 := Row.new (w := w.alloc (.cells #[.int .u8 sm.fin, .int .u8 sm.trucks, .int .u8 sm.troom, .int .u8 sm.bikes, .int .u8 sm.broom, s5, s6, s7, s8, .bool sm.tight, .bool sm.loose] 26)) (g := w.heap.size + 1) (e := 72) (cs := [u1, u2, u3]) (by simp)
  have hb0 : Below w.heap.size w ((w.alloc (.cells #[.int .u8 sm.fin, .int .u8 sm.trucks, .int .u8 sm.troom, .int .u8 sm.bikes, .int .u8 sm.broom, s5, s6, s7, s8, .bool sm.tight, .bool sm.loose] 26)).alloc (.cells #[u1, u2, u3] 72)) := ((Below.refl _ _).alloc (Nat.le_refl _) _).alloc (by simp) _
  obtain ⟨lo, hlo⟩ : ∃ lo, sm.loose = lo := ⟨_, rfl⟩
  obtain ⟨ti, hti⟩ : ∃ ti, sm.tight = ti := ⟨_, rfl⟩
  rw [hlo, hti] at S0 W0 hb0 hsrep
  rw [hlo, hti]
  clear hlo hti
  have HSR := hid hsrep
  have HWR := hid hwrep
  clear hsrep hwrep
  go_enter Try.func9, Try.ntmps9
  go_wp2_with fail
  refine (awake22_c _).mono ?_
  rintro e w1 ⟨rfl, hbA⟩
  have S1 := S0.below hbA
  have W1 := W0.below hbA
  have hB1 := below_step hb0 hbA
  clear S0 W0 hb0 hbA
  obtain ⟨p0, p1, p2, p3, p4, p5, p6, p7, p8, p9, p10⟩ := row11 S1
  go_wp2_with fail
  refine (make_c (smallS.below HSR.out hB1)).mono ?_
  rintro e w2 ⟨ds, rfl, hi, hbM⟩
  have hchk := make_check hswf
  have hmw := make_wf hswf
  have htr := make_troom hswf
  have hcm := cust_may hswf
  have hsl := satsOf_len sm
  have hcl := custsOf_len sm
  obtain ⟨y, hy⟩ : ∃ y, y = makeD sm := ⟨_, rfl⟩
  have hsl2 : 1 ≤ y.sats.length ∧ y.sats.length ≤ 3 := by rw [hy]; exact hsl
  have hcl2 : 1 ≤ y.custs.length ∧ y.custs.length ≤ 6 := by rw [hy]; exact hcl
  have hld : ∀ c ∈ y.custs, 1 ≤ c.load ∧ c.load ≤ 1000 := by rw [hy]; exact fun c hc => (hcm c hc).1
  rw [← hy] at hi hchk hmw htr
  obtain ⟨gs, ks1, gc, kc1, gco, cco, rco, gti, cti, rti, I⟩ := hi.at
  obtain rfl := I.lit
  have hyr := I.own.rep hmw
  have hB2 := below_step hB1 hbM
  have W2 := W1.below hbM
  obtain ⟨hby2, hY, hzy⟩ := alloc_row w2 [.int .i64 y.fin, .int .i64 y.tmany, .int .i64 y.troom, .int .i64 y.bmany, .int .i64 y.broom, .slice (some ⟨gs, 0, none⟩) y.sats.length ks1, .slice (some ⟨gc, 0, none⟩) y.custs.length kc1, .slice (some ⟨gco, 0, none⟩) y.cost.length cco, .slice (some ⟨gti, 0, none⟩) y.time.length cti] 33
  have hB3 := below_step hB2 hby2
  have HY3 := hid (instS.below hyr hby2)
  have HW3 := hid (wishS.below HWR.out hB3)
  have W3 := W2.below hby2
  have HCH := hid hchk
  have gd := good_of hchk
  have htr2 := gd.troom
  have hbr2 := gd.broom
  have HCU := hid (show ∀ c ∈ y.custs, 0 ≤ c.load ∧ c.load ≤ 1000000000 from fun c hc => by have := hld c hc; omega)
  have HLD := hid hld
  have hfew := draft_small wi hsl2 hcl2 hld htr
  have HFEW := hid hfew
  clear hy hi I hmw hchk S1 W1 W2 hB1 hbM p0 p1 p2 p3 p4 p5 p6 p7 p8 p9 p10 hyr hby2 hswf hB2 hcm hsl hcl gd hld hfew
  obtain ⟨q0, q1, q2, q3, q4, q5, q6, q7, q8⟩ := row9 hY
  have v0 := W3.cell (j := 0) (by simp)
  have v1 := W3.cell (j := 1) (by simp)
  have v2 := W3.cell (j := 2) (by simp)
  simp only [List.getElem_cons_succ, List.getElem_cons_zero] at v0 v1 v2
  go_wp2_with fail
  refine (draft_c HY3.out HW3.out hsl2 hcl2 HLD.out ⟨htr, htr2.2⟩ hbr2).mono ?_
  rintro e w4 ⟨tv, bv, ts, vs, rfl, hT, hB, hb4⟩
  have Y4 := hY.below hb4
  have hB4 := below_step hB3 hb4
  have HPL := hid (show planS.rep w4 (fun b => _ ≤ b) (draftD y wi) [tv, bv] from ⟨_, _, rfl, hT.rep (fun t ht s hs => by have := (HFEW.out.ts t ht).2 s hs; unfold wf64; omega), hB.rep (fun b hb => by
    have := HFEW.out.bs b hb
    exact ⟨by unfold wf64; omega, fun c hc => by have := this.2.2 c hc; unfold wf64; omega⟩)⟩)
  obtain ⟨ta, tc, htv, -, -⟩ := owns_slice hT.own
  obtain ⟨ba, bc, hbv, -, -⟩ := owns_slice hB.own
  subst htv
  subst hbv
  clear hT hB
  go_wp2_with fail
  refine (spoilt_c HPL.out hwh hat hby HFEW.out.tl (by have := HFEW.out.bl; omega) HFEW.out.ts (fun b hb => by have := HFEW.out.bs b hb; exact ⟨this.1, by omega, this.2.2⟩)).mono ?_
  rintro e w5 ⟨tv2, bv2, ts2, vs2, rfl, hT2, hB2', hb5⟩
  have Y5 := Y4.below hb5
  have hB5 := below_step hB4 hb5
  have HY5 := hid (instS.below (instS.below HY3.out hb4) hb5)
  have hsp := spoil_bikes HFEW.out what at_ hby
  obtain ⟨ta2, tc2, htv2, -, -⟩ := owns_slice hT2.own
  obtain ⟨ba2, bc2, hbv2, -, -⟩ := owns_slice hB2'.own
  subst htv2
  subst hbv2
  obtain ⟨bk, hbk⟩ : ∃ bk, bk = (spoiltD (draftD y wi) what at_ by_).bikes := ⟨_, rfl⟩
  obtain ⟨tk, htk⟩ : ∃ tk, tk = (spoiltD (draftD y wi) what at_ by_).trucks := ⟨_, rfl⟩
  rw [← hbk] at hsp hB2'
  rw [← hbk, ← htk]
  have HBR := hid (show bikesS.rep w5 (fun _ => True) bk [.slice ba2 bk.length bc2] from bikesS.any (hB2'.rep (fun b hb => ⟨(hsp.2 b hb).1, (hsp.2 b hb).2.2⟩)))
  have hbl := hsp.1
  have HBS := hid (show ∀ b ∈ bk, b.stops.length ≤ 1000000 from fun b hb => by have := (hsp.2 b hb).2.1; omega)
  have hst : stopsUp bk bk.length ≤ 1000000 := by
    have := stopsUp_bd (m := 200) (fun b hb => (hsp.2 b hb).2.1) bk.length (Nat.le_refl _)
    have h3 : 200 * bk.length ≤ 200 * 200 := Nat.mul_le_mul_left _ hbl
    omega
  have hfd : ∀ (n : Nat) (w : World), (Instr.field 46 (.agg #[.slice ta2 n tc2, .slice ba2 bk.length bc2]) 1).run Try.prog w = .ok (.slice ba2 bk.length bc2) w := fun n w => field_bikes _ _ _ _ _ _ w
  clear hT2 hB2' hsp hbk htk HPL hb4 hb5 hB4 hB3 Y4 hY W3 v0 v1 v2 HW3 q0 q1 q2 q3 q4 q5 q6 q7 q8
  obtain ⟨q0, q1, q2, q3, q4, q5, q6, q7, q8⟩ := row9 Y5
  go_wp2_with fail
  refine (loads_c HY5.out HBR.out (by omega) HCU.out hst).mono ?_
  rintro e w6 ⟨gl, rfl, hrow, hgl, hb6⟩
  have Y6 := Y5.below hb6
  have hB6 := below_step hB5 hb6
  have HY6 := hid (instS.below HY5.out hb6)
  have HBR6 := hid (bikesS.below HBR.out hb6)
  have hsm := loadsD_bd HCU.out bk
  have hl9 := loadsD_len9 y bk
  have HLR := hid (show (sliceS intS).rep w6 (fun _ => True) (loadsD y bk) [.slice (some ⟨gl, 0, none⟩) y.sats.length y.sats.length] from by
    have := ints_rep (F := fun _ => True) (xs := loadsD y bk) (g := gl) (c := y.sats.length) hrow (by rw [hl9]; exact Nat.le_refl _) (by unfold maxLen; omega) trivial (fun v hv => by have := hsm v hv; unfold wf64; omega)
    rw [hl9] at this; exact this)
  clear hrow hsm hl9 Y5 hB5 hb6 q0 q1 q2 q3 q4 q5 q6 q7 q8
  obtain ⟨q0, q1, q2, q3, q4, q5, q6, q7, q8⟩ := row9 Y6
  go_wp2_with fail
  refine (whole_c HY6.out HBR6.out HCH.out (by omega) HBS.out hst).mono ?_
  rintro e w7 ⟨pt, pb, rfl, hpl, hb7⟩
  have Y7 := Y6.below hb7
  have hB7 := below_step hB6 hb7
  have HY7 := hid (instS.below HY6.out hb7)
  have HL7 := hid ((sliceS intS).below HLR.out hb7)
  have HBR7 := hid (bikesS.below HBR6.out hb7)
  obtain ⟨⟨ps, er⟩, hwd⟩ : ∃ r, r = wholeD y bk := ⟨_, rfl⟩
  rw [← hwd] at hpl ⊢
  have HWD := hid hwd
  simp only at hpl ⊢
  have hpl2 := hpl
  obtain ⟨t7, b7, hlit, htt, hbb⟩ := hpl
  obtain ⟨f1, f2, f3, f4, hf, -, -, -, -, -⟩ := trucks_open htt
  obtain ⟨k1, k2, k3, k4, hk, -, -, -, -, -⟩ := bikes_open hbb
  obtain rfl := List.cons.inj hf |>.1
  obtain rfl := List.cons.inj hk |>.1
  simp only [List.cons.injEq, and_true] at hlit
  obtain ⟨rfl, rfl⟩ := hlit
  obtain ⟨hbp, hP, hzp⟩ := alloc_row w7 [.slice f1 ps.trucks.length f4, .slice k1 ps.bikes.length k4] 46
  have HPP := hid (planS.below hpl2 hbp)
  have Y8 := Y7.below hbp
  have hB8 := below_step hB7 hbp
  have HY8 := hid (instS.below HY7.out hbp)
  have HL8 := hid ((sliceS intS).below HL7.out hbp)
  have HBR8 := hid (bikesS.below HBR7.out hbp)
  clear hwd hpl2 htt hbb hf hk Y6 Y7 hB6 hB7 hb7 hbp q0 q1 q2 q3 q4 q5 q6 q7 q8
  obtain ⟨q0, q1, q2, q3, q4, q5, q6, q7, q8⟩ := row9 Y8
  go_wp2_with fail
  refine (trucksH_c HY8.out HL8.out).mono ?_
  rintro e w9 ⟨u9, rfl, hr9, hb9⟩
  have hB9 := below_step hB8 hb9
  have hP9 := hP.below hb9
  have HPP9 := hid (planS.below HPP.out hb9)
  have HBR9 := hid (bikesS.below HBR8.out hb9)
  obtain ⟨⟨ts9, er9⟩, hter⟩ : ∃ r, r = trucksH y (loadsD y bk) := ⟨_, rfl⟩
  rw [← hter] at hr9 ⊢
  have HW2 := hid (show (ps, er) = if er9 = 0 then (⟨ts9, bk⟩, 0) else (⟨[], []⟩, er9) from by rw [HWD.out]; unfold wholeD; rw [← hter])
  simp only at hr9 ⊢
  obtain ⟨g1, g2, g3, g4, hg, -, -, -, -, -⟩ := trucks_open hr9
  obtain rfl := List.cons.inj hg |>.1
  have HR9 := hid hr9
  obtain ⟨pc0, pc1⟩ := row2 hP9
  clear hter hr9 hg q0 q1 q2 q3 q4 q5 q6 q7 q8 hP hb9 hB8 Y8
  by_cases he : er9 = 0
  · have hw2 := HW2.out
    rw [if_pos he] at hw2
    simp only [Prod.mk.injEq] at hw2
    obtain ⟨rfl, rfl⟩ := hw2
    have e1 : (er9 != 0) = false := by simp [he]
    have HP2 := hid (show planS.rep w9 (fun _ => True) ⟨ts9, bk⟩ [.slice g1 ts9.length g4, .slice ba2 bk.length bc2] from ⟨_, _, rfl, trucksS.any HR9.out, HBR9.out⟩)
    clear he
    go_wp2_with fail
    refine (same17_c HPP9.out HP2.out).mono ?_
    rintro e w10 ⟨rfl, hb10⟩
    rw [decide_eq_true rfl]
    go_wp2
    go_ret
    exact ⟨rfl, below_step hB9 hb10⟩
  · have hw2 := HW2.out
    rw [if_neg he] at hw2
    simp only [Prod.mk.injEq] at hw2
    obtain ⟨rfl, rfl⟩ := hw2
    have e1 : (er != 0) = true := by simpa using he
    clear he
    go_wp2
    go_ret
    exact ⟨rfl, hB9⟩
end Go.Proofs.Ytafhjfkdlmijdaa
