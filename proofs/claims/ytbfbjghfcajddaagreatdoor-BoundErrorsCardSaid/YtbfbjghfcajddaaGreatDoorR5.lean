/- Texts of the proof, joined: BoundErrors, Laid. -/
import Derived.Test.YtbfbjghfcajddaaGreatDoorRows
import Derived.ProofKit
import Derived.LaidMore
import Derived.OpenShut
import Derived.Test.YtbfbjghfcajddaaGreatDoorR4
set_option linter.all false
set_option maxRecDepth 100000
set_option maxHeartbeats 6400000
namespace Go.Proofs.YtbfbjghfcajddaaGreatDoor
open Go.RowKit
theorem glob_one {w : World} (hg : Ab.GlobOk w) : Ab.GlobIn (fun b => b = 0) w := ⟨hg, fun g x h => by
 unfold Ab.glV at h
 split at h
 ·rfl
 ·cases h⟩
theorem awake16_c {w : World} (hg : Ab.GlobOk w) : Calls Tryz.prog 10 #[] w fun e w' => e = .returned (.bool true) ∧ Below w.heap.size w w' := by
 refine (Ab.awake16_p.2 (fun b => b = 0) w [] (glob_one hg) (fun b h => by subst h; exact hg.1) rfl).mono ?_
 rintro e w' ⟨r, v, rho', rfl, rfl, h1, -, h2⟩
 obtain rfl : v = .bool true := h1
 exact ⟨rfl, h2⟩
theorem boundErrors_c {w : World} {F : Nat → Prop} {x : InstD} {cs : List Value} {b1 b2 b3 b4 b5 b6 b7 v1 v2 v3 : Value} (hg : Ab.GlobOk w) (h : instS.rep w F x cs) (hb1 : ∃ n, b1 = .int .i64 n) (hb2 : ∃ a n c, b2 = .slice a n c) (hb3 : ∃ n, b3 = .int .i64 n) (hb4 : ∃ n, b4 = .int .i64 n) (hb5 : ∃ n, b5 = .int .i64 n) (hb6 : ∃ a n c, b6 = .slice a n c) (hb7 : ∃ a n c, b7 = .slice a n c) :
  Calls Tryz.prog 4 #[.agg cs.toArray, .agg #[b1, b2, b3, b4, b5, b6, b7], v1, v2, v3] w fun e w' => e = .returned (.bool true) ∧ Below w.heap.size w w' := by
 obtain ⟨b1, rfl⟩ := hb1
 obtain ⟨_, _, _, rfl⟩ := hb2
 obtain ⟨b3, rfl⟩ := hb3
 obtain ⟨b4, rfl⟩ := hb4
 obtain ⟨b5, rfl⟩ := hb5
 obtain ⟨_, _, _, rfl⟩ := hb6
 obtain ⟨_, _, _, rfl⟩ := hb7
 rename_i b2a b2n b2c b6a b6n b6c b7a b7n b7c
 have hrep := h
 obtain ⟨s, c, co, ti, rfl, -, k1, k2, k3, k4⟩ := h
 obtain ⟨a1, bb1, off1, c1, hs1, -, -, -, -, -, -⟩ := sats_open k1
 obtain ⟨a2, bb2, off2, c2, hs2, hlc2, hc2, -, -, -, -⟩ := custs_open k2
 obtain rfl := List.cons.inj hs1 |>.1
 obtain rfl := List.cons.inj hs2 |>.1
 have hs0 := TSt.start w 28 44 [.int .i64 x.fin, .int .i64 x.tmany, .int .i64 x.troom, .int .i64 x.bmany, .int .i64 x.broom, .slice a1 x.sats.length c1, .slice a2 x.custs.length c2, co, ti] [.int .i64 b1, .slice b2a b2n b2c, .int .i64 b3, .int .i64 b4, .int .i64 b5, .slice b6a b6n b6c, .slice b7a b7n b7c]
 go_enter Tryz.func4, Tryz.ntmps4
 go_upto_region 1 with fail
 generalize (w.alloc (.cells #[.int .i64 x.fin, .int .i64 x.tmany, .int .i64 x.troom, .int .i64 x.bmany, .int .i64 x.broom, .slice a1 x.sats.length c1, .slice a2 x.custs.length c2, co, ti] 28)).alloc (.cells #[.int .i64 b1, .slice b2a b2n b2c, .int .i64 b3, .int .i64 b4, .int .i64 b5, .slice b6a b6n b6c, .slice b7a b7n b7c] 44) = w1 at hs0 ⊢
 have hg1 := hg.below hs0.bel
 have HREP := hid (instS.below hrep hs0.bel)
 have HS := hid hs0
 clear hs0 hrep hs1 hs2 k1 k2 k3 k4 hg
 go_wp2_with fail
 refine (awake16_c hg1).mono ?_
 rintro e w2 ⟨rfl, hb2⟩
 have HS2 := hid (HS.out.below hb2)
 have HREP2 := hid (instS.below HREP.out hb2)
 clear HS HREP hb2 hg1
 go_upto_region 3 with fail
 obtain ⟨q0, q1, q2, q3, q4, q5, q6, q7, q8⟩ := row9 HS2.out.one
 have HB2 := hid HS2.out.bel
 by_cases hc : x.custs.length > 60
 ·have hc' : (x.custs.length : Int) > 60 := by omega
  go_wp2
  go_ret
  exact ⟨rfl, HB2.out⟩
 ·have hc' : ¬ (x.custs.length : Int) > 60 := by omega
  go_wp2_with fail
  refine (check_c HREP2.out).mono ?_
  rintro e w4 ⟨rfl, hb4⟩
  have HS4 := hid (HS2.out.below hb4)
  have HREP4 := hid (instS.below HREP2.out hb4)
  have HB4 := hid HS4.out.bel
  clear q0 q1 q2 q3 q4 q5 q6 q7 q8 HS2 HREP2 HB2 hb4
  by_cases hk : check x = 0
  ·rw [hk]
   go_wp2
   go_ret
   exact ⟨rfl, HB4.out⟩
  ·obtain ⟨q0, q1, q2, q3, q4, q5, q6, q7, q8⟩ := row9 HS4.out.one
   have HK := hid hk
   have hk2 : ¬ check x = 0 := hk
   have hk3 := beq0 hk
   clear hk
   go_wp2_with fail
   refine (boundBad_c HREP4.out HK.out).mono ?_
   rintro e w5 ⟨rfl, hb5⟩
   have HS5 := hid (HS4.out.below hb5)
   have HREP5 := hid (instS.below HREP4.out hb5)
   clear q0 q1 q2 q3 q4 q5 q6 q7 q8 HS4 HREP4 HB4 hb5
   obtain ⟨q0, q1, q2, q3, q4, q5, q6, q7, q8⟩ := row9 HS5.out.one
   have HZ1 : w.heap.size < w5.heap.size := HS5.out.one.lt
   have HZ2 : w.heap.size + 1 < w5.heap.size := HS5.out.two.lt
   obtain ⟨p0, p1, p2, p3, p4, p5, p6⟩ := row7 HS5.out.two
   go_upto_region 6 with fail
   have HT6 := hid (HS5.out.below ((Below.refl _ _).alloc (Nat.le_refl _) (.cells #[.int .i64 0, .slice none 0 0, .int .i64 0, .int .i64 0, .int .i64 0, .slice none 0 0, .slice none 0 0] 44)))
   have HREP6 := hid (instS.below HREP5.out ((Below.refl _ _).alloc (Nat.le_refl _) (.cells #[.int .i64 0, .slice none 0 0, .int .i64 0, .int .i64 0, .int .i64 0, .slice none 0 0, .slice none 0 0] 44)))
   have HC6 := hid (Row.new (w := w5) (g := w5.heap.size) (e := 44) (cs := [.int .i64 0, .slice none 0 0, .int .i64 0, .int .i64 0, .int .i64 0, .slice none 0 0, .slice none 0 0]) rfl)
   obtain ⟨g, hgg⟩ : ∃ g, g = w5.heap.size := ⟨_, rfl⟩
   rw [← hgg] at HC6 ⊢
   generalize w5.alloc (.cells #[.int .i64 0, .slice none 0 0, .int .i64 0, .int .i64 0, .int .i64 0, .slice none 0 0, .slice none 0 0] 44) = w6 at HT6 HREP6 HC6 ⊢
   clear q0 q1 q2 q3 q4 q5 q6 q7 q8 p0 p1 p2 p3 p4 p5 p6 HS5 HREP5 HZ1 HZ2 hgg
   obtain ⟨q0, q1, q2, q3, q4, q5, q6, q7, q8⟩ := row9 HT6.out.one
   go_wp2_with fail
   refine (check_c HREP6.out).mono ?_
   rintro e w7 ⟨rfl, hb7⟩
   have HT7 := hid (HT6.out.below hb7)
   have HREP7 := hid (instS.below HREP6.out hb7)
   have HC7 := hid (HC6.out.below hb7)
   clear q0 q1 q2 q3 q4 q5 q6 q7 q8 HT6 HREP6 HC6 hb7
   obtain ⟨q0, q1, q2, q3, q4, q5, q6, q7, q8⟩ := row9 HT7.out.one
   obtain ⟨r0, r1, r2, r3, r4, r5, r6⟩ := row7 HT7.out.two
   obtain ⟨p0, p1, p2, p3, p4, p5, p6⟩ := row7 HC7.out
   go_wp2_with fail
   refine (boundRightBad_c HREP7.out HK.out _ _ _ _ _ _ _).mono ?_
   rintro e w8 ⟨rfl, hb8⟩
   have HT8 := hid (HT7.out.below hb8)
   have HREP8 := hid (instS.below HREP7.out hb8)
   clear q0 q1 q2 q3 q4 q5 q6 q7 q8 p0 p1 p2 p3 p4 p5 p6 r0 r1 r2 r3 r4 r5 r6 HT7 HREP7 HC7 hb8
   obtain ⟨q0, q1, q2, q3, q4, q5, q6, q7, q8⟩ := row9 HT8.out.one
   go_wp2_with fail
   refine (weightBad_c HREP8.out HK.out _ _ _).mono ?_
   rintro e w9 ⟨rfl, hb9⟩
   have HB9 := hid (HT8.out.below hb9).bel
   clear q0 q1 q2 q3 q4 q5 q6 q7 q8 HT8 HREP8 hb9
   go_wp2
   go_ret
   exact ⟨rfl, HB9.out⟩
open Go.RowKit Go.WideShapes Go.ChangeShapes Go.ChangeAt
theorem g_tab : Tryz.prog.globalNamed "math/bits.deBruijn64tab" = some 0 := by kernel_rfl
theorem t_tab : (Tryz.prog.globals[0]?).map (·.type) = some 189 := by kernel_rfl
theorem door_met (os : Os) (args : Array Value) : laidMetH Tryz.prog Rows.blockNoneRow.laid ((World.doorLaid Tryz.prog 400 os).forCall (fun _ _ => 0) ⟨#[], args, []⟩).memory :=
 laidMetH_of_parts3 (fuel := 8) (laidMet_of_run' 8 (by kernel_rfl) (by kernel_rfl)) (by kernel_rfl) (by kernel_rfl)
theorem tab_datum : Rows.laid_math_bits_deBruijn64tab (H := Unit) = .agg (Ab.tabD.map fun n => .lit (.int .u8 n)) := by kernel_rfl
theorem glob_of_laid {W : World} (h : laidMetH Tryz.prog Rows.blockNoneRow.laid W) : Ab.GlobOk W := by
 rw [MakeChecks.laidMetH_plain _ _ _ (by kernel_rfl)] at h
 obtain ⟨ps, ⟨g0, t0, cs0, f0, p0, q0, hg0, ht0, hv0, hd0, _, _⟩, _, _⟩ := h
 obtain rfl := Option.some.inj (g_tab.symm.trans hg0)
 obtain rfl := Option.some.inj (t_tab.symm.trans ht0)
 obtain ⟨xs, m1, rfl, hx1, hlen, hn, hel⟩ := DataW.trod_array Tryz.underlying189 hd0
 have c1 : Tryz.prog.cellsOf 5 = 1 := by kernel_rfl
 simp only [Prod.mk.injEq] at hx1
 have hx := hx1.1
 rw [tab_datum] at hx
 simp only [DataW.agg.injEq] at hx
 have cell : ∀ i, i < 64 → W.cell? ⟨0, i, none⟩ = some (.int .u8 (Ab.tabD.getD i 0)) := fun i hi => by
  have h1 := hel i hi
  rw [c1, Nat.mul_one, List.getElem?_eq_getElem (by omega)] at h1
  obtain ⟨k, e1, e2, -⟩ := DataW.trod_int Tryz.underlying5 h1
  have h2 : (xs.map (·.1))[i]? = some (.lit (.int .u8 k)) := by
   rw [List.getElem?_map, List.getElem?_eq_getElem (by omega), Option.map_some, e2]
  rw [← hx, List.getElem?_map] at h2
  obtain ⟨n, h3, h4⟩ := Option.map_eq_some_iff.1 h2
  have h5 : n = k := by simpa using h4
  rw [World.var?_cell hg0 hv0 i, List.getD_eq_getElem?_getD, h3, Option.getD_some, h5]
  have e3 : (cs0.toList.drop i).take 1 = [.int .u8 k] := e1
  rw [← Array.getElem?_toList]
  have := congrArg (fun l => l[0]?) e3
  simpa [List.getElem?_take, List.getElem?_drop] using this
 refine ⟨?_, cell⟩
 have := cell 0 (by decide)
 unfold World.cell? at this
 split at this
 ·rename_i hh
  exact (Array.getElem?_eq_some_iff.1 hh).1
 ·cases this
end Go.Proofs.YtbfbjghfcajddaaGreatDoor
