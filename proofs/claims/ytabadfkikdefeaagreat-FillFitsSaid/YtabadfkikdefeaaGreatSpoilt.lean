/- Contract: wharfagelaw17.Spoilt. -/
import Derived.Deep.CutBlock
import Derived.BigRegion
import Derived.Test.YtabadfkikdefeaaGreatP3
set_option linter.all false
set_option maxRecDepth 100000
set_option maxHeartbeats 6400000
namespace Go.Proofs.YtabadfkikdefeaaGreat
open Go.RowKit
theorem delete_c {w : World} {B n i : Nat} {v : Value} {l : List Int} (h : w.ownsRow B 3 1 v n (l.map intV)) (hi : i < n) :
  Calls Tryz.prog 80 #[v, .int .i64 (i : Nat), .int .i64 ((i : Int) + 1)] w fun e w' => ∃ u, e = .returned u ∧ w'.ownsRow B 3 1 u (l.eraseIdx i).length ((l.eraseIdx i).map intV) ∧ w.grownBy w' v.ownBlock ∧ u.ownBlock = v.ownBlock := by
 have hl : l.length = n := by have := h.1; rw [List.length_map, Nat.mul_one] at this; exact this
 rw [show ((i : Int) + 1) = ((i + 1 : Nat) : Int) by push_cast; rfl]
 obtain ⟨-, h2⟩ := h
 rcases h2 with ⟨rfl, rfl⟩ | ⟨g, cap, cur, rfl, hg, hh, hnc, hcm, hcs, ht⟩
 ·omega
 ·rw [Nat.mul_one] at hcs ht
  have hcur : cur.toList = l.map intV ++ cur.toList.drop n := by rw [← ht, List.take_append_drop]
  have hgetc : ∀ j, j < l.length → w.cell? ⟨g, 0 + j, none⟩ = some (.int .i64 (l.getD j 0)) := fun j hj => by
   rw [cell_of hh, Nat.zero_add, ← Array.getElem?_toList, hcur, List.getElem?_append_left (by rw [List.length_map]; exact hj), List.getElem?_map, List.getElem?_eq_getElem hj, getD_at hj]; rfl
  refine (Tryz.slices_Delete_int_cells g 0 n cap i (i + 1) l w (by omega) hnc (by unfold maxLen at hcm; omega) (by omega) (by omega) hgetc (fun j _ => frozen_of hh)).mono ?_
  rintro e w' ⟨rfl, q, rfl⟩
  rw [show i + 1 - i = 1 by omega, show l.take n = l from List.take_of_length_le (by omega)]
  have hel : (l.eraseIdx i).length = n - 1 := by rw [List.length_eraseIdx, if_pos (by omega), hl]
  have hee : l.take i ++ l.drop (i + 1) = l.eraseIdx i := (List.eraseIdx_eq_take_drop_succ l i).symm
  rw [hee]
  obtain ⟨c2, m1, m2⟩ := heap_setCells_in g 3 (0, 0) ((l.eraseIdx i ++ List.replicate 1 0).map (Value.int .i64)) (l.map intV) [] (cur.toList.drop n) 0 (w.drewN q) cur hh (by rw [List.nil_append]; exact hcur) rfl (by rw [List.length_map, List.length_map, List.length_append, hel, List.length_replicate]; omega)
  refine ⟨_, rfl, ?_, (show w.grownBy _ (some g) from grown_step (b := w.drewN q) ⟨rfl, rfl, rfl, Nat.le_refl _, fun _ _ _ => rfl⟩ (grown_setCells g _ _ _)), rfl⟩
  rw [hel]
  refine ⟨by rw [List.length_map, hel, Nat.mul_one], .inr ⟨g, cap, c2, rfl, hg, m1, by omega, hcm, ?_, ?_⟩⟩
  ·have e1 := congrArg List.length m2
   have e2 := congrArg List.length hcur
   simp only [List.length_append, List.length_map, List.length_nil, Array.length_toList, hel, List.length_replicate] at e1 e2
   omega
  ·have hml : ((l.eraseIdx i).map (Value.int .i64)).length = n - 1 := by rw [List.length_map, hel]
   rw [m2, List.nil_append, List.map_append, Nat.mul_one, List.append_assoc, List.take_append_of_le_length (by omega), List.take_of_length_le (by omega)]; rfl
def AnyW (_ : World) : Prop := True
theorem spoil_fin {w wz : World} {tv bv : Value} {T : List (List StopD)} {L : List BikeD} {ts vs cs : List Value} (hT : TOwn 124 121 wz w.heap.size tv T ts) (hB : BOwn 70 3 wz w.heap.size bv L vs)
  (hR : Row wz (w.heap.size + 1) 37 cs) (hl : 0 < cs.length) (hb : Below w.heap.size w wz) : TOwn 124 121 ((wz.setCell ⟨w.heap.size + 1, 0, none⟩ tv).setCell ⟨w.heap.size + 1, 1, none⟩ bv) w.heap.size tv T ts ∧
   BOwn 70 3 ((wz.setCell ⟨w.heap.size + 1, 0, none⟩ tv).setCell ⟨w.heap.size + 1, 1, none⟩ bv) w.heap.size bv L vs ∧ Below w.heap.size w ((wz.setCell ⟨w.heap.size + 1, 0, none⟩ tv).setCell ⟨w.heap.size + 1, 1, none⟩ bv) :=
 ⟨(hT.keptSet hR (by decide) (by decide)).keptSet (hR.set (j := 0) hl tv) (by decide) (by decide), (hB.keptSet hR (by decide) (by decide)).keptSet (hR.set (j := 0) hl tv) (by decide) (by decide),
  (hb.setCell (p := ⟨w.heap.size + 1, 0, none⟩) (by show w.heap.size ≤ w.heap.size + 1; omega) _).setCell (p := ⟨w.heap.size + 1, 1, none⟩) (by show w.heap.size ≤ w.heap.size + 1; omega) _⟩
theorem spoilt_c {w : World} {F : Nat → Prop} {p : PlanD} {cs : List Value} (h : planS.rep w F p cs) {what at_ : Nat} {by_ : Int} (hwh : what ≤ 255) (hat : at_ ≤ 255) (hby : -128 ≤ by_ ∧ by_ ≤ 127)
  (hn1 : p.trucks.length ≤ 100000) (hn2 : p.bikes.length ≤ 100000) (hs1 : ∀ t ∈ p.trucks, t.length ≤ 100000 ∧ ∀ s ∈ t, (-1000000000 ≤ s.sat ∧ s.sat ≤ 1000000000) ∧ -1000000000 ≤ s.load ∧ s.load ≤ 1000000000) (hs2 : ∀ b ∈ p.bikes, (-1000000000 ≤ b.sat ∧ b.sat ≤ 1000000000) ∧ b.stops.length ≤ 100000 ∧ ∀ c ∈ b.stops, -1000000000 ≤ c ∧ c ≤ 1000000000) :
  Calls Tryz.prog 24 #[.agg cs.toArray, .int .u8 (what : Int), .int .u8 (at_ : Int), .int .i8 by_] w fun e w' => ∃ tv bv ts vs, e = .returned (.agg #[tv, bv]) ∧ TOwn 124 121 w' w.heap.size tv (spoiltD p what at_ by_).trucks ts ∧ BOwn 70 3 w' w.heap.size bv (spoiltD p what at_ by_).bikes vs ∧ Below w.heap.size w w' := by
 have hrep := h
 obtain ⟨tv0, bv0, rfl, h1, h2⟩ := h
 obtain ⟨a1, b1, off1, c1, hs, -, -, -, -, -⟩ := trucks_open h1
 obtain ⟨a2, b2, off2, c2, hs', -, -, -, -, -⟩ := bikes_open h2
 obtain rfl := List.cons.inj hs |>.1
 obtain rfl := List.cons.inj hs' |>.1
 clear hs hs' h1 h2
 have X0 := (Row.new (w := w) (e := 37) (cs := [.slice a1 p.trucks.length c1, .slice a2 p.bikes.length c2]) rfl).alloc (.cells #[.slice none 0 0, .slice none 0 0] 37)
 have R0 := Row.new (w := w.alloc (.cells #[.slice a1 p.trucks.length c1, .slice a2 p.bikes.length c2] 37)) (g := w.heap.size + 1) (e := 37) (cs := [.slice none 0 0, .slice none 0 0]) (by simp)
 have hb0 : Below w.heap.size w ((w.alloc (.cells #[.slice a1 p.trucks.length c1, .slice a2 p.bikes.length c2] 37)).alloc (.cells #[.slice none 0 0, .slice none 0 0] 37)) := ((Below.refl _ _).alloc (Nat.le_refl _) _).alloc (by simp) _
 have HS1 := hid hs1
 have HS2 := hid hs2
 have HREP := hid (planS.below hrep hb0)
 obtain ⟨xc0, xc1⟩ := row2 X0
 clear hrep
 go_enter Tryz.func24, Tryz.ntmps24
 go_wp2_with fail
 refine (planClone_c HREP.out (by omega) (by omega) (fun t ht => by have := (HS1.out t ht).1; omega) (fun b hb => by have := (HS2.out b hb).2.1; omega)).mono ?_
 rintro e w1 ⟨tv, bv, ts, vs, rfl, hT, hB, hb1⟩
 obtain ⟨ta, tc, htv, -, -⟩ := owns_slice hT.own
 obtain ⟨ba, bc, hbv, -, -⟩ := owns_slice hB.own
 subst htv
 subst hbv
 have X1 := X0.below hb1
 have R1 := R0.below hb1
 have hB1 := below_step hb0 hb1
 have hle : w.heap.size ≤ ((w.alloc (.cells #[.slice a1 p.trucks.length c1, .slice a2 p.bikes.length c2] 37)).alloc (.cells #[.slice none 0 0, .slice none 0 0] 37)).heap.size := hb0.size
 have hX2 := X1.set (j := 0) (by simp) (.slice ta p.trucks.length tc)
 have hTS := ((hT.keptSet (j := 0) (u := .slice ta p.trucks.length tc) X1 (by decide) (by decide)).keptSet (j := 1) (u := .slice ba p.bikes.length bc) hX2 (by decide) (by decide)).mono hle
 have hBS := ((hB.keptSet (j := 0) (u := .slice ta p.trucks.length tc) X1 (by decide) (by decide)).keptSet (j := 1) (u := .slice ba p.bikes.length bc) hX2 (by decide) (by decide)).mono hle
 have hXS := hX2.set (j := 1) (by simp) (.slice ba p.bikes.length bc)
 have hRS := (R1.setOther (a := ⟨w.heap.size, 0, none⟩) (by show w.heap.size + 1 ≠ w.heap.size; omega) (.slice ta p.trucks.length tc)).setOther (a := ⟨w.heap.size, 1, none⟩) (by show w.heap.size + 1 ≠ w.heap.size; omega) (.slice ba p.bikes.length bc)
 have hBl := (hB1.setCell (p := ⟨w.heap.size, 0, none⟩) (by show w.heap.size ≤ w.heap.size; omega) (.slice ta p.trucks.length tc)).setCell (p := ⟨w.heap.size, 1, none⟩) (by show w.heap.size ≤ w.heap.size; omega) (.slice ba p.bikes.length bc)
 obtain ⟨xd0, xd1⟩ := row2 X1
 have xf0 := X1.frozen 0
 have xf1 := X1.frozen 1
 clear X0 R0 X1 R1 hb0 hb1 hB1 hT hB hX2 xc0 xc1
 go_upto_region 2 with fail
 generalize hwz : (w1.setCell ⟨w.heap.size, 0, none⟩ (.slice ta p.trucks.length tc)).setCell ⟨w.heap.size, 1, none⟩ (.slice ba p.bikes.length bc) = wz at *
 clear hwz
 obtain ⟨pc0, pc1⟩ := row2 hXS
 obtain ⟨rc0, rc1⟩ := row2 hRS
 have rf0 := hRS.frozen 0
 have rf1 := hRS.frozen 1
 have HT := hid hTS
 have HB := hid hBS
 have HX := hid hXS
 have HR := hid hRS
 have HBL := hid hBl
 have hzz := hRS.lt
 clear hTS hBS hXS hRS hBl xd0 xd1 xf0 xf1 hle
 by_cases e1 : p.bikes.length = 0
 ·have b1 : ((p.bikes.length : Int) == 0) = true := by simpa using e1
  have HE := hid (show spoiltD p what at_ by_ = p from by unfold spoiltD; rw [if_pos (by unfold spoilNo; simp [e1])])
  clear e1
  go_wp2
  refine bodyPost_ret (v := .agg #[.slice ta p.trucks.length tc, .slice ba p.bikes.length bc]) (by simp [results, Tryz.results24, go_sem, rc0, rc1]) rfl ⟨_, _, ts, vs, rfl, ?_⟩
  rw [HE.out]
  exact spoil_fin HT.out HB.out HR.out (by simp) HBL.out
 have b1 : ((p.bikes.length : Int) == 0) = false := by simpa using e1
 by_cases e2 : p.trucks.length = 0
 ·have b2 : ((p.trucks.length : Int) == 0) = true := by simpa using e2
  have HE := hid (show spoiltD p what at_ by_ = p from by unfold spoiltD; rw [if_pos (by unfold spoilNo; simp [e2])])
  clear e1 e2
  go_wp2
  refine bodyPost_ret (v := .agg #[.slice ta p.trucks.length tc, .slice ba p.bikes.length bc]) (by simp [results, Tryz.results24, go_sem, rc0, rc1]) rfl ⟨_, _, ts, vs, rfl, ?_⟩
  rw [HE.out]
  exact spoil_fin HT.out HB.out HR.out (by simp) HBL.out
 have b2 : ((p.trucks.length : Int) == 0) = false := by simpa using e2
 have n1 : (0 : Int) < (p.bikes.length : Int) := by omega
 have n2 : (0 : Int) < (p.trucks.length : Int) := by omega
 obtain ⟨B, hBd⟩ : ∃ B, B = at_ % p.bikes.length := ⟨_, rfl⟩
 obtain ⟨T, hTd⟩ : ∃ T, T = at_ % p.trucks.length := ⟨_, rfl⟩
 have hBl : B < p.bikes.length := by rw [hBd]; exact Nat.mod_lt _ (by omega)
 have hTl : T < p.trucks.length := by rw [hTd]; exact Nat.mod_lt _ (by omega)
 have HBM := hid (show (at_ : Int) % (p.bikes.length : Int) = (B : Int) from by rw [hBd]; exact (Int.natCast_emod _ _).symm)
 have HTM := hid (show (at_ : Int) % (p.trucks.length : Int) = (T : Int) from by rw [hTd]; exact (Int.natCast_emod _ _).symm)
 obtain ⟨gb, capb, hvb, -, -, hgb, hRb⟩ := Row.of_owns HB.out.own (by omega)
 obtain ⟨gt, capt, hvt, -, -, hgt, hRt⟩ := Row.of_owns HT.out.own (by omega)
 simp only [Value.slice.injEq] at hvb hvt
 obtain ⟨rfl, -, rfl⟩ := hvb
 obtain ⟨rfl, -, rfl⟩ := hvt
 have hBv : B < vs.length := by rw [HB.out.len]; exact hBl
 have hTv : T < ts.length := by rw [HT.out.len]; exact hTl
 have hxb : ∀ w, (Instr.indexAt 35 (.slice (some ⟨gb, 0, none⟩) p.bikes.length bc) (.int .i64 ((at_ : Int) % (p.bikes.length : Int)))).run Tryz.prog w = .ok (.pointer (some ⟨gb, 2 * B, none⟩)) w := fun w => by
  have := idx_at (c := bc) Tryz.underlying35 sz_bike (a := some ⟨gb, 0, none⟩) rfl hBl w
  rw [Nat.zero_add, Nat.mul_comm] at this
  rw [HBM.out]; exact this
 have hxt : ∀ w, (Instr.indexAt 34 (.slice (some ⟨gt, 0, none⟩) p.trucks.length tc) (.int .i64 ((at_ : Int) % (p.trucks.length : Int)))).run Tryz.prog w = .ok (.pointer (some ⟨gt, T, none⟩)) w := fun w => by
  have := idx_at1 (c := tc) Tryz.underlying34 sz_truck (a := some ⟨gt, 0, none⟩) rfl hTl w
  rw [Nat.zero_add] at this
  rw [HTM.out]; exact this
 have hrb := HB.out.rows B hBl hBv
 have hrt := HT.out.rows T hTl hTv
 obtain ⟨ua, uc, hub, -, -⟩ := owns_slice hrb
 obtain ⟨va, vc, hvt, -, -⟩ := owns_slice hrt
 have hcg := bCells_get p.bikes vs B hBl hBv
 have hcl := bCells_len p.bikes vs HB.out.len
 have cb0 := hRb.cell (j := 2 * B) (by omega)
 have cb1 := hRb.cell (j := 2 * B + 1) (by omega)
 have ct0 := hRt.cell hTv
 rw [List.getElem?_eq_getElem (by omega), List.getElem?_eq_getElem (by omega)] at hcg
 rw [Option.some.inj hcg.1] at cb0
 rw [Option.some.inj hcg.2, hub] at cb1
 rw [hvt] at ct0
 have fb0 := hRb.frozen (2 * B)
 have fb1 := hRb.frozen (2 * B + 1)
 have ft0 := hRt.frozen T
 have hzb := hRb.lt
 have hzt := hRt.lt
 obtain ⟨bs, hbs⟩ : ∃ b, b = p.bikes[B] := ⟨_, rfl⟩
 obtain ⟨tl, htl⟩ : ∃ t, t = p.trucks[T] := ⟨_, rfl⟩
 rw [← hbs] at hrb cb0 cb1 hub
 rw [← htl] at hrt ct0 hvt
 have hb2 := HS2.out bs (by rw [hbs]; exact List.getElem_mem _)
 have ht2 := HS1.out tl (by rw [htl]; exact List.getElem_mem _)
 have HGB := hid (show p.bikes.getD B ⟨0, []⟩ = bs from by rw [hbs]; exact getD_at hBl)
 have HGT := hid (show p.trucks.getD T [] = tl from by rw [htl]; exact getD_at hTl)
 have HBS := hid hbs
 have HTL := hid htl
 have HRB := hid hrb
 have HRT := hid hrt
 have HUB := hid hub
 have HVT := hid hvt
 have HROWB := hid hRb
 have HROWT := hid hRt
 have HBD := hid hBd
 have HTD := hid hTd
 rw [hub] at hrb
 rw [hvt] at hrt
 clear hcg hbs htl hub hvt hRb hRt hBd hTd
 go_upto_region 4 with fail
 go_cut [9, 10] (fun u v wx => u = .pointer (some ⟨gb, 2 * B, none⟩) ∧ v = .pointer (some ⟨gt, T, none⟩) ∧ Below wz.heap.size wz wx)
 case first =>
  go_quiet (fail)
  go_wp2
  go_meet
  exact ⟨rfl, rfl, below_drewN (Below.refl _ _) _⟩
 obtain ⟨rfl, rfl, hbw⟩ := hcut
 obtain ⟨wy, rfl⟩ : ∃ wy : World, wy = wc := ⟨_, rfl⟩
 replace cb0 := below_cell hbw cb0
 replace cb1 := below_cell hbw cb1
 replace ct0 := below_cell hbw ct0
 replace pc0 := below_cell hbw pc0
 replace pc1 := below_cell hbw pc1
 replace rc0 := below_cell hbw rc0
 replace rc1 := below_cell hbw rc1
 have hR2 := HR.out.below hbw
 replace rf0 := hR2.frozen 0
 replace rf1 := hR2.frozen 1
 replace fb0 := (HROWB.out.below hbw).frozen (2 * B)
 replace fb1 := (HROWB.out.below hbw).frozen (2 * B + 1)
 replace ft0 := (HROWT.out.below hbw).frozen T
 have HT2 := hid (HT.out.below hbw)
 have HB2 := hid (HB.out.below hbw)
 have HX2 := hid (HX.out.below hbw)
 have HR2 := hid hR2
 have HBL2 := hid (HBL.out.trans (hbw.mono HBL.out.size))
 have hsy := hbw.size
 clear hR2 hxb hxt
 by_cases e3 : bs.stops.length = 0
 ·have b3 : ((bs.stops.length : Int) == 0) = true := by simpa using e3
  have HE := hid (show spoiltD p what at_ by_ = p from by unfold spoiltD; rw [if_pos (by unfold spoilNo; rw [← HBD.out, HGB.out]; simp [e3])])
  clear e1 e2 e3
  go_wp2
  refine bodyPost_ret (v := .agg #[.slice (some ⟨gt, 0, none⟩) p.trucks.length tc, .slice (some ⟨gb, 0, none⟩) p.bikes.length bc]) (by simp [results, Tryz.results24, go_sem, rc0, rc1]) rfl ⟨_, _, ts, vs, rfl, ?_⟩
  rw [HE.out]
  exact spoil_fin HT2.out HB2.out HR2.out (by simp) HBL2.out
 have b3 : ((bs.stops.length : Int) == 0) = false := by simpa using e3
 by_cases e4 : tl.length = 0
 ·have b4 : ((tl.length : Int) == 0) = true := by simpa using e4
  have HE := hid (show spoiltD p what at_ by_ = p from by unfold spoiltD; rw [if_pos (by unfold spoilNo; rw [← HTD.out, HGT.out]; simp [e4])])
  clear e1 e2 e3 e4
  go_wp2
  refine bodyPost_ret (v := .agg #[.slice (some ⟨gt, 0, none⟩) p.trucks.length tc, .slice (some ⟨gb, 0, none⟩) p.bikes.length bc]) (by simp [results, Tryz.results24, go_sem, rc0, rc1]) rfl ⟨_, _, ts, vs, rfl, ?_⟩
  rw [HE.out]
  exact spoil_fin HT2.out HB2.out HR2.out (by simp) HBL2.out
 have b4 : ((tl.length : Int) == 0) = false := by simpa using e4
 have n3 : (0 : Int) < (bs.stops.length : Int) := by omega
 have n4 : (0 : Int) < (tl.length : Int) := by omega
 obtain ⟨I, hId⟩ : ∃ I, I = (at_ / 3) % bs.stops.length := ⟨_, rfl⟩
 obtain ⟨K, hKd⟩ : ∃ K, K = (at_ / 3) % tl.length := ⟨_, rfl⟩
 have hIl : I < bs.stops.length := by rw [hId]; exact Nat.mod_lt _ (by omega)
 have hKl : K < tl.length := by rw [hKd]; exact Nat.mod_lt _ (by omega)
 have HIM := hid (show ((at_ : Int) / 3) % (bs.stops.length : Int) = (I : Int) from by rw [hId]; norm_cast)
 have HKM := hid (show ((at_ : Int) / 3) % (tl.length : Int) = (K : Int) from by rw [hKd]; norm_cast)
 have HSP := hid (show spoiltD p what at_ by_ = ⟨spoilT p (what % 12) T K at_ by_, spoilB p (what % 12) B I at_ by_⟩ from by
  unfold spoiltD
  rw [if_neg (by unfold spoilNo; rw [← HBD.out, ← HTD.out, HGB.out, HGT.out]; simp [e1, e2, e3, e4]), ← HBD.out, ← HTD.out, HGB.out, HGT.out, ← hId, ← hKd])
 have HID := hid hId
 have HKD := hid hKd
 clear hId hKd e1 e2 e3 e4
 go_upto_region 7 with fail
 go_cut [11, 12] (fun u v wx => u = .int .i64 (I : Int) ∧ v = .int .i64 (K : Int) ∧ Below wy.heap.size wy wx)
 case first =>
  go_quiet (fail)
  go_wp2
  go_meet
  exact ⟨by rw [← HIM.out], by rw [← HKM.out], below_drewN (Below.refl _ _) _⟩
 obtain ⟨rfl, rfl, hbv⟩ := hcut
 obtain ⟨wv, rfl⟩ : ∃ wv : World, wv = wc := ⟨_, rfl⟩
 replace cb0 := below_cell hbv cb0
 replace cb1 := below_cell hbv cb1
 replace ct0 := below_cell hbv ct0
 replace pc0 := below_cell hbv pc0
 replace pc1 := below_cell hbv pc1
 replace rc0 := below_cell hbv rc0
 replace rc1 := below_cell hbv rc1
 have hR3 := HR2.out.below hbv
 replace rf0 := hR3.frozen 0
 replace rf1 := hR3.frozen 1
 have hRb3 := HROWB.out.below (below_step hbw hbv)
 have hRt3 := HROWT.out.below (below_step hbw hbv)
 replace fb0 := hRb3.frozen (2 * B)
 replace fb1 := hRb3.frozen (2 * B + 1)
 replace ft0 := hRt3.frozen T
 have HT3 := hid (HT2.out.below hbv)
 have HB3 := hid (HB2.out.below hbv)
 have hX3 := HX2.out.below hbv
 have pf0 := hX3.frozen 0
 have pf1 := hX3.frozen 1
 have HX3 := hid hX3
 have HR3 := hid hR3
 have HRB3 := hid hRb3
 have HRT3 := hid hRt3
 have HBL3 := hid (HBL2.out.trans (hbv.mono HBL2.out.size))
 have hsv := hbv.size
 have hrb3 := owns_below hrb (below_step hbw hbv)
 have hrt3 := owns_below hrt (below_step hbw hbv)
 obtain ⟨gi, capi, hvi, -, -, hgi, hRi⟩ := Row.of_owns hrb3 (by omega)
 obtain ⟨gs, caps, hvs, -, -, hgs, hRs⟩ := Row.of_owns hrt3 (by omega)
 simp only [Value.slice.injEq] at hvi hvs
 obtain ⟨rfl, -, rfl⟩ := hvi
 obtain ⟨rfl, -, rfl⟩ := hvs
 have hIm : I < (bs.stops.map intV).length := by rw [List.length_map]; exact hIl
 have ci := hRi.cell hIm
 have fi := hRi.frozen I
 rw [List.getElem_map] at ci
 have hIb := hb2.2.2 _ (List.getElem_mem hIl)
 have hfl := stopV_len tl
 have hfg := flat_get tl K hKl (by omega) (by omega)
 have cs0 := hRs.cell (j := 2 * K) (by omega)
 have cs1 := hRs.cell (j := 2 * K + 1) (by omega)
 have fs0 := hRs.frozen (2 * K)
 have fs1 := hRs.frozen (2 * K + 1)
 rw [hfg.1] at cs0
 rw [hfg.2] at cs1
 have hKb := ht2.2 _ (List.getElem_mem hKl)
 have hxi : ∀ w, (Instr.indexAt 68 (.slice (some ⟨gi, 0, none⟩) bs.stops.length uc) (.int .i64 (I : Int))).run Tryz.prog w = .ok (.pointer (some ⟨gi, I, none⟩)) w := fun w => by
  have := idx_at1 (c := uc) Tryz.underlying68 sz_int (a := some ⟨gi, 0, none⟩) rfl hIl w
  rw [Nat.zero_add] at this; exact this
 have hxs : ∀ w, (Instr.indexAt 122 (.slice (some ⟨gs, 0, none⟩) tl.length vc) (.int .i64 (K : Int))).run Tryz.prog w = .ok (.pointer (some ⟨gs, 2 * K, none⟩)) w := fun w => by
  have := idx_at (c := vc) Tryz.underlying122 sz_stop (a := some ⟨gs, 0, none⟩) rfl hKl w
  rw [Nat.zero_add, Nat.mul_comm] at this; exact this
 obtain ⟨di, hdi⟩ : ∃ d, d = (bs.stops)[I] := ⟨_, rfl⟩
 obtain ⟨st, hst⟩ : ∃ s, s = tl[K] := ⟨_, rfl⟩
 rw [← hdi] at ci hIb
 rw [← hst] at cs0 cs1 hKb
 unfold intV at ci
 have HDI := hid (show bs.stops.getD I 0 = di from by rw [hdi]; exact getD_at hIl)
 have HST := hid (show tl.getD K ⟨0, 0⟩ = st from by rw [hst]; exact getD_at hKl)
 have HSTE := hid hst
 have HDIE := hid hdi
 have HRI := hid hRi
 have HRS := hid hRs
 have HOB := hid hrb3
 have HOT := hid hrt3
 have HVB := hid (show vs.getD B undef = .slice (some ⟨gi, 0, none⟩) bs.stops.length uc from (getD_at hBv).trans HUB.out)
 have HVT2 := hid (show ts.getD T undef = .slice (some ⟨gs, 0, none⟩) tl.length vc from (getD_at hTv).trans HVT.out)
 have hzi := hRi.lt
 have hzs := hRs.lt
 have hzp := hX3.lt
 have hzr := hR3.lt
 have hzb3 := hRb3.lt
 have hzt3 := hRt3.lt
 have hbz := HBL3.out.size
 clear hdi hst hRi hRs hrb3 hrt3 hrb hrt hfg hfl hR3 hRb3 hRt3 hX3 hbw hbv hIm
 obtain ⟨wm, hwm⟩ : ∃ wm, wm = what % 12 := ⟨_, rfl⟩
 have HWM := hid (show (what : Int) % 12 = (wm : Int) from by rw [hwm]; norm_cast)
 replace hwm := hwm.symm
 have hwl : wm < 12 := by omega
 rcases (show wm = 0 ∨ wm = 11 ∨ wm = 1 ∨ wm = 2 ∨ wm = 3 ∨ wm = 4 ∨ wm = 5 ∨ wm = 6 ∨ wm = 7 ∨ wm = 8 ∨ wm = 9 ∨ wm = 10 from by omega) with e | e | e | e | e | e | e | e | e | e | e | e
 all_goals
  subst e
  have hm := HWM.out
  try simp only [Int.cast_ofNat_Int, Int.natCast_zero, Int.natCast_one] at hm
  have HMW := hid hwm
  clear hwm
 ·
  have HE := hid (show spoiltD p what at_ by_ = ⟨p.trucks, p.bikes⟩ from by rw [HSP.out, HMW.out]; rfl)
  go_wp2
  refine bodyPost_ret (v := .agg #[.slice (some ⟨gt, 0, none⟩) p.trucks.length tc, .slice (some ⟨gb, 0, none⟩) p.bikes.length bc]) (by simp [results, Tryz.results24, go_sem, rc0, rc1]) rfl ⟨_, _, ts, vs, rfl, ?_⟩
  rw [HE.out]
  exact spoil_fin HT3.out HB3.out HR3.out (by simp) HBL3.out
 ·
  have HE := hid (show spoiltD p what at_ by_ = ⟨p.trucks, p.bikes⟩ from by rw [HSP.out, HMW.out]; rfl)
  go_wp2
  refine bodyPost_ret (v := .agg #[.slice (some ⟨gt, 0, none⟩) p.trucks.length tc, .slice (some ⟨gb, 0, none⟩) p.bikes.length bc]) (by simp [results, Tryz.results24, go_sem, rc0, rc1]) rfl ⟨_, _, ts, vs, rfl, ?_⟩
  rw [HE.out]
  exact spoil_fin HT3.out HB3.out HR3.out (by simp) HBL3.out
 ·
  have HE := hid (show spoiltD p what at_ by_ = ⟨p.trucks, p.bikes.set B ⟨(p.bikes.getD B ⟨0, []⟩).sat, bs.stops.eraseIdx I⟩⟩ from by
   rw [HSP.out, HMW.out]
   show (⟨p.trucks, p.bikes.set B ⟨(p.bikes.getD B ⟨0, []⟩).sat, (p.bikes.getD B ⟨0, []⟩).stops.eraseIdx I⟩⟩ : PlanD) = _
   rw [HGB.out])
  go_wp2_with fail
  refine (delete_c HOB.out hIl).mono ?_
  rintro e w2 ⟨u, rfl, hu, hgrow, hub2⟩
  obtain ⟨au, cu, hul, -, -⟩ := owns_slice hu
  subst hul
  have hown1 := HOB.out
  have hbr : Below wv.heap.size wv wv := Below.refl _ _
  have hR2 := (HR3.out.below hbr).grown hown1 (by decide) hgrow
  have hX2 := (HX3.out.below hbr).grown hown1 (by decide) hgrow
  have hRW2 := (HRB3.out.below hbr).grown hown1 (by decide) hgrow
  have HT4 := hid ((HT3.out.keptOwn hown1 hgrow (by decide) (by decide)).keptSet (j := 2 * B + 1) (u := .slice au (bs.stops.eraseIdx I).length cu) hRW2 (by decide) (by decide))
  have HB4 := hid (HB3.out.stops (u := .slice au (bs.stops.eraseIdx I).length cu) (sp := bs.stops.eraseIdx I) (by decide) hBl (by rw [HVB.out]; exact hgrow) hu (.inl (by rw [HVB.out]; exact hub2)))
  have hBb := below_owned (HBL3.out.trans (hbr.mono HBL3.out.size)) hown1 (by have := hbr.size; omega) (Nat.le_refl _) hgrow
  have HBL4 := hid (hBb.setCell (p := ⟨gb, 2 * B + 1, none⟩) hgb (.slice au (bs.stops.eraseIdx I).length cu))
  have hR4 := hR2.setOther (a := ⟨gb, 2 * B + 1, none⟩) (HR3.out.ne HRB3.out (by decide)) (.slice au (bs.stops.eraseIdx I).length cu)
  obtain ⟨rd0, rd1⟩ := row2 hR4
  have rg0 := hR4.frozen 0
  have rg1 := hR4.frozen 1
  have HR4 := hid hR4
  obtain ⟨pd0, pd1⟩ := row2 (hX2.setOther (a := ⟨gb, 2 * B + 1, none⟩) (HX3.out.ne HRB3.out (by decide)) (.slice au (bs.stops.eraseIdx I).length cu))
  have hc4 := hRW2.cell (j := 2 * B + 1) (by rw [bCells_len p.bikes vs HB3.out.len]; omega)
  obtain ⟨cv4, hcv4⟩ : ∃ cv4, cv4 = (bCells p.bikes vs)[2 * B + 1]'(by rw [bCells_len p.bikes vs HB3.out.len]; omega) := ⟨_, rfl⟩
  rw [← hcv4] at hc4
  have hf4 := hRW2.frozen (2 * B + 1)
  clear hu hgrow hub2 hown1 hbr hR2 hX2 hRW2 hBb hR4 hcv4
  go_wp2
  refine bodyPost_ret (v := .agg #[.slice (some ⟨gt, 0, none⟩) p.trucks.length tc, .slice (some ⟨gb, 0, none⟩) p.bikes.length bc]) (by simp [results, Tryz.results24, go_sem, rd0, rd1]) rfl ⟨_, _, ts, vs.set B (.slice au (bs.stops.eraseIdx I).length cu), rfl, ?_⟩
  rw [HE.out]
  exact spoil_fin HT4.out HB4.out HR4.out (by simp) HBL4.out
 ·
  have HE := hid (show spoiltD p what at_ by_ = ⟨p.trucks, p.bikes.set B ⟨(p.bikes.getD B ⟨0, []⟩).sat, bs.stops ++ [di]⟩⟩ from by
   rw [HSP.out, HMW.out]
   show (⟨p.trucks, p.bikes.set B ⟨(p.bikes.getD B ⟨0, []⟩).sat, (p.bikes.getD B ⟨0, []⟩).stops ++ [(p.bikes.getD B ⟨0, []⟩).stops.getD I 0]⟩⟩ : PlanD) = _
   rw [HGB.out, HDI.out])
  obtain ⟨i1, hi, hi0, hi1, hi2⟩ := info_parts info_int
  have hal : Below wv.heap.size wv ((wv.alloc (.cells #[.int .i64 di] 3)).drew) := ((Below.refl _ _).alloc (Nat.le_refl _) _).drew
  have hown1 := (HOB.out.alloc (.cells #[.int .i64 di] 3)).drew
  go_wp2_with fail
  haveI : Nonempty (At AnyW) := ⟨⟨wv, trivial⟩⟩
  have z1 : ∀ e : At (Old wv), _ := fun e => e.cell cb1
  have z2 : ∀ e : At (Old wv), _ := fun e => e.cell ci
  refine wp_region_mixT (Old wv) AnyW [13, 14, 15, 16] [0] [([1, 2, 3, 4, 5, 6, 7, 8, 9, 10, 11], 12, false), ([], 13, true), ([], 14, true), ([], 15, true), ([], 16, true)] (by kernel_rfl) (by kernel_rfl) (fun _ _ d _ _ h => by cases d <;> exact h) (fun _ _ => trivial) (Old.drew _) ?_
  simp only [List.map_cons, List.map_nil, Array.getD_eq_getD_getElem?, List.getElem?_toArray, List.getElem?_cons_succ, List.getElem?_cons_zero, Option.getD_some]
  repeat (go_big_quiet_step (fail))
  refine wpQuiet_nil ?_
  simp only [mixOf, List.map_cons, List.map_nil, Array.getD_eq_getD_getElem?, List.getElem?_toArray, List.getElem?_cons_succ, List.getElem?_cons_zero, Option.getD_some, wpMixT]
  repeat (go_big_quiet_step (fail))
  refine wpQuiet_nil ?_
  go_wp2_with fail
  refine ⟨hal, wpQuiet_nil ?_⟩
  go_wp2_with (at_builtin; refine wpList_append_own_at _ rfl _ _ 68 rfl w.heap.size 3 i1 (.int .i64 0) 1 8 Tryz.underlying68 hi hi0 hi1 hi2 rfl (by decide) _ _ _ rfl hown1 ⟨wv.heap.size, 0, none⟩ 1 1 [.int .i64 di] rfl rfl ?c1 ?c2 ?c3 ?c4 ?c5 ?_)
  case c1 => exact cell_one_new _ _ _
  case c2 => intro u hu; simp at hu; subst hu; rfl
  case c3 => unfold maxLen; omega
  case c4 => omega
  case c5 => simp; omega
  intro v' w2 hown' hgrow _ hat2
  obtain ⟨ao', cp', hv', -, -⟩ := owns_slice hown'
  subst hv'
  have hR2 := (HR3.out.below hal).grown hown1 (by decide) hgrow
  have hX2 := (HX3.out.below hal).grown hown1 (by decide) hgrow
  have hRW2 := (HRB3.out.below hal).grown hown1 (by decide) hgrow
  have HT4 := hid (((HT3.out.below hal).keptOwn hown1 hgrow (by decide) (by decide)).keptSet (j := 2 * B + 1) (u := .slice ao' (bs.stops.length + 1) cp') hRW2 (by decide) (by decide))
  have HB4 := hid ((HB3.out.below hal).stops (k := B) (u := .slice ao' (bs.stops.length + 1) cp') (sp := bs.stops ++ [di]) (by decide) hBl (by rw [HVB.out]; exact hgrow) (by rw [List.length_append, List.map_append]; exact hown') (by
   rw [HVB.out]
   rcases hat2 with h | h
   ·exact .inl h
   ·exact .inr (.inl ⟨_, h, by simp⟩)))
  have hBb := below_owned (HBL3.out.trans (hal.mono HBL3.out.size)) hown1 (by have := hal.size; omega) (Nat.le_refl _) hgrow
  have HBL4 := hid (hBb.setCell (p := ⟨gb, 2 * B + 1, none⟩) hgb (.slice ao' (bs.stops.length + 1) cp'))
  have hR4 := hR2.setOther (a := ⟨gb, 2 * B + 1, none⟩) (HR3.out.ne HRB3.out (by decide)) (.slice ao' (bs.stops.length + 1) cp')
  obtain ⟨rd0, rd1⟩ := row2 hR4
  have rg0 := hR4.frozen 0
  have rg1 := hR4.frozen 1
  have HR4 := hid hR4
  obtain ⟨pd0, pd1⟩ := row2 (hX2.setOther (a := ⟨gb, 2 * B + 1, none⟩) (HX3.out.ne HRB3.out (by decide)) (.slice ao' (bs.stops.length + 1) cp'))
  have hc4 := hRW2.cell (j := 2 * B + 1) (by rw [bCells_len p.bikes vs HB3.out.len]; omega)
  obtain ⟨cv4, hcv4⟩ : ∃ cv4, cv4 = (bCells p.bikes vs)[2 * B + 1]'(by rw [bCells_len p.bikes vs HB3.out.len]; omega) := ⟨_, rfl⟩
  rw [← hcv4] at hc4
  have hf4 := hRW2.frozen (2 * B + 1)
  clear hown' hgrow hown1 hi hi0 hi1 hi2 hal hR2 hX2 hRW2 hBb hR4 hat2 hcv4
  refine ⟨trivial, wpQuiet_nil ?_⟩
  go_wp2
  refine ⟨trivial, wpQuiet_nil ?_⟩
  go_wp2
  refine ⟨trivial, wpQuiet_nil ?_⟩
  go_wp2
  refine ⟨trivial, ?_⟩
  go_wp2
  refine bodyPost_ret (v := .agg #[.slice (some ⟨gt, 0, none⟩) p.trucks.length tc, .slice (some ⟨gb, 0, none⟩) p.bikes.length bc]) (by simp [results, Tryz.results24, go_sem, rd0, rd1]) rfl ⟨_, _, ts, vs.set B (.slice ao' (bs.stops.length + 1) cp'), rfl, ?_⟩
  rw [HE.out]
  exact spoil_fin HT4.out HB4.out HR4.out (by simp) HBL4.out
 ·
  have HE := hid (show spoiltD p what at_ by_ = ⟨p.trucks, p.bikes.set B ⟨(p.bikes[B]).sat, (p.bikes[B]).stops.set I (di + by_)⟩⟩ from by
   rw [HSP.out, HMW.out]
   show (⟨p.trucks, p.bikes.set B ⟨(p.bikes.getD B ⟨0, []⟩).sat, (p.bikes.getD B ⟨0, []⟩).stops.set I ((p.bikes.getD B ⟨0, []⟩).stops.getD I 0 + by_)⟩⟩ : PlanD) = _
   rw [HGB.out, HDI.out, HBS.out])
  have HT4 := hid (HT3.out.keptSet (j := I) (u := .int .i64 (di + by_)) HRI.out (by decide) (by decide))
  have HB4 := hid (HB3.out.cell (x := di + by_) (j := I) (by decide) hBl (by rw [← HBS.out]; exact HVB.out))
  have hR4 := HR3.out.setOther (a := ⟨gi, I, none⟩) (HR3.out.ne HRI.out (by decide)) (.int .i64 (di + by_))
  obtain ⟨rd0, rd1⟩ := row2 hR4
  have rg0 := hR4.frozen 0
  have rg1 := hR4.frozen 1
  have HR4 := hid hR4
  have hX4 := HX3.out.setOther (a := ⟨gi, I, none⟩) (HX3.out.ne HRI.out (by decide)) (.int .i64 (di + by_))
  obtain ⟨pd0, pd1⟩ := row2 hX4
  have HBL4 := hid (HBL3.out.setCell (p := ⟨gi, I, none⟩) hgi (.int .i64 (di + by_)))
  clear hR4 hX4
  go_wp2
  refine bodyPost_ret (v := .agg #[.slice (some ⟨gt, 0, none⟩) p.trucks.length tc, .slice (some ⟨gb, 0, none⟩) p.bikes.length bc]) (by simp [results, Tryz.results24, go_sem, rd0, rd1]) rfl ⟨_, _, ts, vs, rfl, ?_⟩
  rw [HE.out]
  exact spoil_fin HT4.out HB4.out HR4.out (by simp) HBL4.out
 ·
  have HE := hid (show spoiltD p what at_ by_ = ⟨p.trucks, p.bikes.set B ⟨bs.sat + by_, (p.bikes[B]).stops⟩⟩ from by
   rw [HSP.out, HMW.out]
   show (⟨p.trucks, p.bikes.set B ⟨(p.bikes.getD B ⟨0, []⟩).sat + by_, (p.bikes.getD B ⟨0, []⟩).stops⟩⟩ : PlanD) = _
   rw [HGB.out, ← HBS.out])
  have HT4 := hid (HT3.out.keptSet (j := 2 * B) (u := .int .i64 (bs.sat + by_)) HRB3.out (by decide) (by decide))
  have HB4 := hid (HB3.out.sat (x := bs.sat + by_) (by decide) hBl)
  have hR4 := HR3.out.setOther (a := ⟨gb, 2 * B, none⟩) (HR3.out.ne HRB3.out (by decide)) (.int .i64 (bs.sat + by_))
  obtain ⟨rd0, rd1⟩ := row2 hR4
  have rg0 := hR4.frozen 0
  have rg1 := hR4.frozen 1
  have HR4 := hid hR4
  have hX4 := HX3.out.setOther (a := ⟨gb, 2 * B, none⟩) (HX3.out.ne HRB3.out (by decide)) (.int .i64 (bs.sat + by_))
  obtain ⟨pd0, pd1⟩ := row2 hX4
  have HBL4 := hid (HBL3.out.setCell (p := ⟨gb, 2 * B, none⟩) hgb (.int .i64 (bs.sat + by_)))
  clear hR4 hX4
  go_wp2
  refine bodyPost_ret (v := .agg #[.slice (some ⟨gt, 0, none⟩) p.trucks.length tc, .slice (some ⟨gb, 0, none⟩) p.bikes.length bc]) (by simp [results, Tryz.results24, go_sem, rd0, rd1]) rfl ⟨_, _, ts, vs, rfl, ?_⟩
  rw [HE.out]
  exact spoil_fin HT4.out HB4.out HR4.out (by simp) HBL4.out
 ·
  have HE := hid (show spoiltD p what at_ by_ = ⟨p.trucks.set T (tl.set K ⟨st.sat, st.load + by_⟩), p.bikes⟩ from by
   rw [HSP.out, HMW.out]
   show (⟨p.trucks.set T ((p.trucks.getD T []).set K ⟨((p.trucks.getD T []).getD K ⟨0, 0⟩).sat, ((p.trucks.getD T []).getD K ⟨0, 0⟩).load + by_⟩), p.bikes⟩ : PlanD) = _
   rw [HGT.out, HST.out])
  have HT4 := hid (HT3.out.cell (k := T) (t := tl) (t' := tl.set K ⟨st.sat, st.load + by_⟩) (j := 2 * K + 1) (u := .int .i64 (st.load + by_)) (by decide) hTl HTL.out.symm HVT2.out (by rw [List.length_set]) (by rw [HSTE.out]; exact flat_set tl K hKl _))
  have HB4 := hid (HB3.out.keptSet (j := 2 * K + 1) (u := .int .i64 (st.load + by_)) HRS.out (by decide) (by decide))
  have hR4 := HR3.out.setOther (a := ⟨gs, 2 * K + 1, none⟩) (HR3.out.ne HRS.out (by decide)) (.int .i64 (st.load + by_))
  obtain ⟨rd0, rd1⟩ := row2 hR4
  have rg0 := hR4.frozen 0
  have rg1 := hR4.frozen 1
  have HR4 := hid hR4
  have hX4 := HX3.out.setOther (a := ⟨gs, 2 * K + 1, none⟩) (HX3.out.ne HRS.out (by decide)) (.int .i64 (st.load + by_))
  obtain ⟨pd0, pd1⟩ := row2 hX4
  have HBL4 := hid (HBL3.out.setCell (p := ⟨gs, 2 * K + 1, none⟩) hgs (.int .i64 (st.load + by_)))
  clear hR4 hX4
  go_wp2
  refine bodyPost_ret (v := .agg #[.slice (some ⟨gt, 0, none⟩) p.trucks.length tc, .slice (some ⟨gb, 0, none⟩) p.bikes.length bc]) (by simp [results, Tryz.results24, go_sem, rd0, rd1]) rfl ⟨_, _, ts, vs, rfl, ?_⟩
  rw [HE.out]
  exact spoil_fin HT4.out HB4.out HR4.out (by simp) HBL4.out
 ·
  have HE := hid (show spoiltD p what at_ by_ = ⟨p.trucks.set T (tl.set K ⟨st.sat + by_, st.load⟩), p.bikes⟩ from by
   rw [HSP.out, HMW.out]
   show (⟨p.trucks.set T ((p.trucks.getD T []).set K ⟨((p.trucks.getD T []).getD K ⟨0, 0⟩).sat + by_, ((p.trucks.getD T []).getD K ⟨0, 0⟩).load⟩), p.bikes⟩ : PlanD) = _
   rw [HGT.out, HST.out])
  have HT4 := hid (HT3.out.cell (k := T) (t := tl) (t' := tl.set K ⟨st.sat + by_, st.load⟩) (j := 2 * K) (u := .int .i64 (st.sat + by_)) (by decide) hTl HTL.out.symm HVT2.out (by rw [List.length_set]) (by rw [HSTE.out]; exact flat_setSat tl K hKl _))
  have HB4 := hid (HB3.out.keptSet (j := 2 * K) (u := .int .i64 (st.sat + by_)) HRS.out (by decide) (by decide))
  have hR4 := HR3.out.setOther (a := ⟨gs, 2 * K, none⟩) (HR3.out.ne HRS.out (by decide)) (.int .i64 (st.sat + by_))
  obtain ⟨rd0, rd1⟩ := row2 hR4
  have rg0 := hR4.frozen 0
  have rg1 := hR4.frozen 1
  have HR4 := hid hR4
  have hX4 := HX3.out.setOther (a := ⟨gs, 2 * K, none⟩) (HX3.out.ne HRS.out (by decide)) (.int .i64 (st.sat + by_))
  obtain ⟨pd0, pd1⟩ := row2 hX4
  have HBL4 := hid (HBL3.out.setCell (p := ⟨gs, 2 * K, none⟩) hgs (.int .i64 (st.sat + by_)))
  clear hR4 hX4
  go_wp2
  refine bodyPost_ret (v := .agg #[.slice (some ⟨gt, 0, none⟩) p.trucks.length tc, .slice (some ⟨gb, 0, none⟩) p.bikes.length bc]) (by simp [results, Tryz.results24, go_sem, rd0, rd1]) rfl ⟨_, _, ts, vs, rfl, ?_⟩
  rw [HE.out]
  exact spoil_fin HT4.out HB4.out HR4.out (by simp) HBL4.out
 ·
  have HE := hid (show spoiltD p what at_ by_ = ⟨p.trucks.set T (tl ++ [⟨st.sat, 1⟩]), p.bikes⟩ from by
   rw [HSP.out, HMW.out]
   show (⟨p.trucks.set T (p.trucks.getD T [] ++ [⟨((p.trucks.getD T []).getD K ⟨0, 0⟩).sat, 1⟩]), p.bikes⟩ : PlanD) = _
   rw [HGT.out, HST.out])
  obtain ⟨i1, hi, hi0, hi1, hi2⟩ := info_parts info_stop
  have hal : Below wv.heap.size wv ((wv.alloc (.cells #[.int .i64 st.sat, .int .i64 1] 121)).drew) := ((Below.refl _ _).alloc (Nat.le_refl _) _).drew
  have hown1 := (HOT.out.alloc (.cells #[.int .i64 st.sat, .int .i64 1] 121)).drew
  go_wp2_with fail
  haveI : Nonempty (At AnyW) := ⟨⟨wv, trivial⟩⟩
  have z1 : ∀ e : At (Old wv), _ := fun e => e.cell ct0
  have z2 : ∀ e : At (Old wv), _ := fun e => e.cell cs0
  refine wp_region_mixT (Old wv) AnyW [15, 16, 17, 18] [0] [([1, 2, 3, 4, 5, 6, 7, 8, 9, 10, 11, 12, 13], 14, false), ([], 15, true), ([], 16, true), ([], 17, true), ([], 18, true)] (by kernel_rfl) (by kernel_rfl) (fun _ _ d _ _ h => by cases d <;> exact h) (fun _ _ => trivial) (Old.drew _) ?_
  simp only [List.map_cons, List.map_nil, Array.getD_eq_getD_getElem?, List.getElem?_toArray, List.getElem?_cons_succ, List.getElem?_cons_zero, Option.getD_some]
  repeat (go_big_quiet_step (fail))
  refine wpQuiet_nil ?_
  simp only [mixOf, List.map_cons, List.map_nil, Array.getD_eq_getD_getElem?, List.getElem?_toArray, List.getElem?_cons_succ, List.getElem?_cons_zero, Option.getD_some, wpMixT]
  repeat (go_big_quiet_step (fail))
  refine wpQuiet_nil ?_
  go_wp2_with fail
  refine ⟨hal, wpQuiet_nil ?_⟩
  go_wp2_with (at_builtin; refine wpList_append_own_at _ rfl _ _ 122 rfl w.heap.size 121 i1 (.agg #[.int .i64 0, .int .i64 0]) 2 16 Tryz.underlying122 hi hi0 hi1 hi2 rfl (by decide) _ _ _ rfl hown1 ⟨wv.heap.size, 0, none⟩ 1 1 [.int .i64 st.sat, .int .i64 1] rfl rfl ?c1 ?c2 ?c3 ?c4 ?c5 ?_)
  case c1 => exact cells_new (cs := [.int .i64 st.sat, .int .i64 1]) rfl _
  case c2 => intro u hu; simp at hu; rcases hu with rfl | rfl <;> rfl
  case c3 => unfold maxLen; omega
  case c4 => omega
  case c5 => simp; omega
  intro v' w2 hown' hgrow _ hat2
  obtain ⟨ao', cp', hv', -, -⟩ := owns_slice hown'
  subst hv'
  have hR2 := (HR3.out.below hal).grown hown1 (by decide) hgrow
  have hX2 := (HX3.out.below hal).grown hown1 (by decide) hgrow
  have hRW2 := (HRT3.out.below hal).grown hown1 (by decide) hgrow
  have HT4 := hid ((HT3.out.below hal).stops (k := T) (u := .slice ao' (tl.length + 1) cp') (t' := tl ++ [⟨st.sat, 1⟩]) (by decide) hTl (by rw [HVT2.out]; exact hgrow) (by rw [List.length_append, List.flatMap_append]; exact hown') (by
   rw [HVT2.out]
   rcases hat2 with h | h
   ·exact .inl h
   ·exact .inr ⟨_, h, by simp⟩))
  have HB4 := hid (((HB3.out.below hal).keptOwn hown1 hgrow (by decide) (by decide)).keptSet (j := T) (u := .slice ao' (tl.length + 1) cp') hRW2 (by decide) (by decide))
  have hBb := below_owned (HBL3.out.trans (hal.mono HBL3.out.size)) hown1 (by have := hal.size; omega) (Nat.le_refl _) hgrow
  have HBL4 := hid (hBb.setCell (p := ⟨gt, T, none⟩) hgt (.slice ao' (tl.length + 1) cp'))
  have hR4 := hR2.setOther (a := ⟨gt, T, none⟩) (HR3.out.ne HRT3.out (by decide)) (.slice ao' (tl.length + 1) cp')
  obtain ⟨rd0, rd1⟩ := row2 hR4
  have rg0 := hR4.frozen 0
  have rg1 := hR4.frozen 1
  have HR4 := hid hR4
  obtain ⟨pd0, pd1⟩ := row2 (hX2.setOther (a := ⟨gt, T, none⟩) (HX3.out.ne HRT3.out (by decide)) (.slice ao' (tl.length + 1) cp'))
  have hc4 := hRW2.cell hTv
  obtain ⟨cv4, hcv4⟩ : ∃ cv4, cv4 = ts[T] := ⟨_, rfl⟩
  rw [← hcv4] at hc4
  have hf4 := hRW2.frozen T
  clear hown' hgrow hown1 hi hi0 hi1 hi2 hal hR2 hX2 hRW2 hBb hR4 hat2 hcv4
  refine ⟨trivial, wpQuiet_nil ?_⟩
  go_wp2
  refine ⟨trivial, wpQuiet_nil ?_⟩
  go_wp2
  refine ⟨trivial, wpQuiet_nil ?_⟩
  go_wp2
  refine ⟨trivial, ?_⟩
  go_wp2
  refine bodyPost_ret (v := .agg #[.slice (some ⟨gt, 0, none⟩) p.trucks.length tc, .slice (some ⟨gb, 0, none⟩) p.bikes.length bc]) (by simp [results, Tryz.results24, go_sem, rd0, rd1]) rfl ⟨_, _, ts.set T (.slice ao' (tl.length + 1) cp'), vs, rfl, ?_⟩
  rw [HE.out]
  exact spoil_fin HT4.out HB4.out HR4.out (by simp) HBL4.out
 ·
  have HE := hid (show spoiltD p what at_ by_ = ⟨p.trucks ++ [[]], p.bikes⟩ from by
   rw [HSP.out, HMW.out]
   show (⟨p.trucks ++ [[]], p.bikes⟩ : PlanD) = _
   rw [])
  obtain ⟨i1, hi, hi0, hi1, hi2⟩ := info_parts info_truck
  have hal : Below wv.heap.size wv ((wv.alloc (.cells #[.slice none 0 0] 124))) := ((Below.refl _ _).alloc (Nat.le_refl _) _)
  have hown1 := (HT3.out.own.alloc (.cells #[.slice none 0 0] 124))
  go_wp2_with (at_builtin; refine wpList_append_own _ rfl _ _ 34 rfl w.heap.size 124 i1 (.agg #[.slice none 0 0]) 1 24 Tryz.underlying34 hi hi0 hi1 hi2 rfl (by decide) _ _ _ rfl hown1 ⟨wv.heap.size, 0, none⟩ 1 1 [.slice none 0 0] rfl rfl ?c1 ?c2 ?c3 ?c4 ?c5 ?_)
  case c1 => exact cell_one_new _ _ _
  case c2 => intro u hu; simp at hu; subst hu; rfl
  case c3 => unfold maxLen; omega
  case c4 => omega
  case c5 => simp; omega
  intro v' w2 hown' hgrow _
  obtain ⟨ao', cp', hv', -, -⟩ := owns_slice hown'
  subst hv'
  have hR2 := (HR3.out.below hal).grown hown1 (by decide) hgrow
  have hX2 := (HX3.out.below hal).grown hown1 (by decide) hgrow
  have HT4 := hid (((HT3.out.below hal).push (by decide) hgrow hown').keptSet (j := 0) (u := .slice ao' (p.trucks.length + 1) cp') hX2 (by decide) (by decide))
  have HB4 := hid (((HB3.out.below hal).keptOwn hown1 hgrow (by decide) (by decide)).keptSet (j := 0) (u := .slice ao' (p.trucks.length + 1) cp') hX2 (by decide) (by decide))
  have hBb := below_owned (HBL3.out.trans (hal.mono HBL3.out.size)) hown1 (by have := hal.size; omega) (Nat.le_refl _) hgrow
  have HBL4 := hid (hBb.setCell (p := ⟨w.heap.size, 0, none⟩) (Nat.le_refl _) (.slice ao' (p.trucks.length + 1) cp'))
  have hR4 := hR2.setOther (a := ⟨w.heap.size, 0, none⟩) (by show w.heap.size + 1 ≠ w.heap.size; omega) (.slice ao' (p.trucks.length + 1) cp')
  obtain ⟨rd0, rd1⟩ := row2 hR4
  have rg0 := hR4.frozen 0
  have rg1 := hR4.frozen 1
  have HR4 := hid hR4
  obtain ⟨pe0, pe1⟩ := row2 hX2
  have pg0 := hX2.frozen 0
  have pg1 := hX2.frozen 1
  obtain ⟨pd0, pd1⟩ := row2 (hX2.set (j := 0) (by simp) (.slice ao' (p.trucks.length + 1) cp'))
  clear hown' hgrow hown1 hi hi0 hi1 hi2 hal hR2 hX2 hBb hR4
  go_wp2
  refine bodyPost_ret (v := .agg #[.slice ao' (p.trucks.length + 1) cp', .slice (some ⟨gb, 0, none⟩) p.bikes.length bc]) (by simp [results, Tryz.results24, go_sem, rd0, rd1]) rfl ⟨_, _, ts ++ [.slice none 0 0], vs, rfl, ?_⟩
  rw [HE.out]
  exact spoil_fin HT4.out HB4.out HR4.out (by simp) HBL4.out
 ·
  have HE := hid (show spoiltD p what at_ by_ = ⟨p.trucks, p.bikes ++ [⟨by_, []⟩]⟩ from by
   rw [HSP.out, HMW.out]
   show (⟨p.trucks, p.bikes ++ [⟨by_, []⟩]⟩ : PlanD) = _
   rw [])
  obtain ⟨i1, hi, hi0, hi1, hi2⟩ := info_parts info_bike
  have hal : Below wv.heap.size wv ((wv.alloc (.cells #[.int .i64 by_, .slice none 0 0] 70))) := ((Below.refl _ _).alloc (Nat.le_refl _) _)
  have hown1 := (HB3.out.own.alloc (.cells #[.int .i64 by_, .slice none 0 0] 70))
  go_wp2_with (at_builtin; refine wpList_append_own _ rfl _ _ 35 rfl w.heap.size 70 i1 (.agg #[.int .i64 0, .slice none 0 0]) 2 32 Tryz.underlying35 hi hi0 hi1 hi2 rfl (by decide) _ _ _ rfl hown1 ⟨wv.heap.size, 0, none⟩ 1 1 [.int .i64 by_, .slice none 0 0] rfl rfl ?c1 ?c2 ?c3 ?c4 ?c5 ?_)
  case c1 => exact cells_new (cs := [.int .i64 by_, .slice none 0 0]) rfl _
  case c2 => intro u hu; simp at hu; rcases hu with rfl | rfl <;> rfl
  case c3 => unfold maxLen; omega
  case c4 => omega
  case c5 => simp; omega
  intro v' w2 hown' hgrow _
  obtain ⟨ao', cp', hv', -, -⟩ := owns_slice hown'
  subst hv'
  have hR2 := (HR3.out.below hal).grown hown1 (by decide) hgrow
  have hX2 := (HX3.out.below hal).grown hown1 (by decide) hgrow
  have HT4 := hid (((HT3.out.below hal).keptOwn hown1 hgrow (by decide) (by decide)).keptSet (j := 1) (u := .slice ao' (p.bikes.length + 1) cp') hX2 (by decide) (by decide))
  have HB4 := hid (((HB3.out.below hal).push (b := ⟨by_, []⟩) (u := .slice none 0 0) (by decide) hgrow hown' (World.ownsRow_nil _ _ _ _) (fun i hi => ⟨by
   cases e : vs[i].ownBlock with
   | none => exact .inl rfl
   | some g => exact .inr (by simp [Value.ownBlock]), .inl rfl⟩)).keptSet (j := 1) (u := .slice ao' (p.bikes.length + 1) cp') hX2 (by decide) (by decide))
  have hBb := below_owned (HBL3.out.trans (hal.mono HBL3.out.size)) hown1 (by have := hal.size; omega) (Nat.le_refl _) hgrow
  have HBL4 := hid (hBb.setCell (p := ⟨w.heap.size, 1, none⟩) (Nat.le_refl _) (.slice ao' (p.bikes.length + 1) cp'))
  have hR4 := hR2.setOther (a := ⟨w.heap.size, 1, none⟩) (by show w.heap.size + 1 ≠ w.heap.size; omega) (.slice ao' (p.bikes.length + 1) cp')
  obtain ⟨rd0, rd1⟩ := row2 hR4
  have rg0 := hR4.frozen 0
  have rg1 := hR4.frozen 1
  have HR4 := hid hR4
  obtain ⟨pe0, pe1⟩ := row2 hX2
  have pg0 := hX2.frozen 0
  have pg1 := hX2.frozen 1
  obtain ⟨pd0, pd1⟩ := row2 (hX2.set (j := 1) (by simp) (.slice ao' (p.bikes.length + 1) cp'))
  clear hown' hgrow hown1 hi hi0 hi1 hi2 hal hR2 hX2 hBb hR4
  go_wp2
  refine bodyPost_ret (v := .agg #[.slice (some ⟨gt, 0, none⟩) p.trucks.length tc, .slice ao' (p.bikes.length + 1) cp']) (by simp [results, Tryz.results24, go_sem, rd0, rd1]) rfl ⟨_, _, ts, vs ++ [.slice none 0 0], rfl, ?_⟩
  rw [HE.out]
  exact spoil_fin HT4.out HB4.out HR4.out (by simp) HBL4.out
 ·
  have HE := hid (show spoiltD p what at_ by_ = ⟨p.trucks.set T (tl ++ [⟨by_, at_⟩]), p.bikes⟩ from by
   rw [HSP.out, HMW.out]
   show (⟨p.trucks.set T (p.trucks.getD T [] ++ [⟨by_, at_⟩]), p.bikes⟩ : PlanD) = _
   rw [HGT.out])
  obtain ⟨i1, hi, hi0, hi1, hi2⟩ := info_parts info_stop
  have hal : Below wv.heap.size wv ((wv.alloc (.cells #[.int .i64 by_, .int .i64 (at_ : Int)] 121))) := ((Below.refl _ _).alloc (Nat.le_refl _) _)
  have hown1 := (HOT.out.alloc (.cells #[.int .i64 by_, .int .i64 (at_ : Int)] 121))
  go_wp2_with (at_builtin; refine wpList_append_own_at _ rfl _ _ 122 rfl w.heap.size 121 i1 (.agg #[.int .i64 0, .int .i64 0]) 2 16 Tryz.underlying122 hi hi0 hi1 hi2 rfl (by decide) _ _ _ rfl hown1 ⟨wv.heap.size, 0, none⟩ 1 1 [.int .i64 by_, .int .i64 (at_ : Int)] rfl rfl ?c1 ?c2 ?c3 ?c4 ?c5 ?_)
  case c1 => exact cells_new (cs := [.int .i64 by_, .int .i64 (at_ : Int)]) rfl _
  case c2 => intro u hu; simp at hu; rcases hu with rfl | rfl <;> rfl
  case c3 => unfold maxLen; omega
  case c4 => omega
  case c5 => simp; omega
  intro v' w2 hown' hgrow _ hat2
  obtain ⟨ao', cp', hv', -, -⟩ := owns_slice hown'
  subst hv'
  have hR2 := (HR3.out.below hal).grown hown1 (by decide) hgrow
  have hX2 := (HX3.out.below hal).grown hown1 (by decide) hgrow
  have hRW2 := (HRT3.out.below hal).grown hown1 (by decide) hgrow
  have HT4 := hid ((HT3.out.below hal).stops (k := T) (u := .slice ao' (tl.length + 1) cp') (t' := tl ++ [⟨by_, at_⟩]) (by decide) hTl (by rw [HVT2.out]; exact hgrow) (by rw [List.length_append, List.flatMap_append]; exact hown') (by
   rw [HVT2.out]
   rcases hat2 with h | h
   ·exact .inl h
   ·exact .inr ⟨_, h, by simp⟩))
  have HB4 := hid (((HB3.out.below hal).keptOwn hown1 hgrow (by decide) (by decide)).keptSet (j := T) (u := .slice ao' (tl.length + 1) cp') hRW2 (by decide) (by decide))
  have hBb := below_owned (HBL3.out.trans (hal.mono HBL3.out.size)) hown1 (by have := hal.size; omega) (Nat.le_refl _) hgrow
  have HBL4 := hid (hBb.setCell (p := ⟨gt, T, none⟩) hgt (.slice ao' (tl.length + 1) cp'))
  have hR4 := hR2.setOther (a := ⟨gt, T, none⟩) (HR3.out.ne HRT3.out (by decide)) (.slice ao' (tl.length + 1) cp')
  obtain ⟨rd0, rd1⟩ := row2 hR4
  have rg0 := hR4.frozen 0
  have rg1 := hR4.frozen 1
  have HR4 := hid hR4
  obtain ⟨pd0, pd1⟩ := row2 (hX2.setOther (a := ⟨gt, T, none⟩) (HX3.out.ne HRT3.out (by decide)) (.slice ao' (tl.length + 1) cp'))
  have hc4 := hRW2.cell hTv
  obtain ⟨cv4, hcv4⟩ : ∃ cv4, cv4 = ts[T] := ⟨_, rfl⟩
  rw [← hcv4] at hc4
  have hf4 := hRW2.frozen T
  clear hown' hgrow hown1 hi hi0 hi1 hi2 hal hR2 hX2 hRW2 hBb hR4 hat2 hcv4
  go_wp2
  refine bodyPost_ret (v := .agg #[.slice (some ⟨gt, 0, none⟩) p.trucks.length tc, .slice (some ⟨gb, 0, none⟩) p.bikes.length bc]) (by simp [results, Tryz.results24, go_sem, rd0, rd1]) rfl ⟨_, _, ts.set T (.slice ao' (tl.length + 1) cp'), vs, rfl, ?_⟩
  rw [HE.out]
  exact spoil_fin HT4.out HB4.out HR4.out (by simp) HBL4.out
end Go.Proofs.YtabadfkikdefeaaGreat
