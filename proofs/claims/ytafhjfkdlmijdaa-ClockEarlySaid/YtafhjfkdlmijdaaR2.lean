/- Texts of the proof, joined: Pc2, Same18, ClockEarly. -/
import Derived.Test.YtafhjfkdlmijdaaCan
namespace Go.Proofs.Ytafhjfkdlmijdaa.Ab
open Go.RowKit
def tSum (l : List (List StopD)) : Nat := (l.map List.length).sum
theorem tSum_eq (l : List (List StopD)) : tstopsUp l l.length = tSum l := by unfold tstopsUp tSum; rw [List.take_length]
theorem tSum_set (a : List StopD) : ∀ (l : List (List StopD)) (t : Nat), tSum (l.set t a) ≤ tSum l + a.length
 | [], t => by simp [tSum]
 | b :: l, 0 => by simp [tSum]; omega
 | b :: l, t + 1 => by have := tSum_set a l t; simp only [tSum, List.set_cons_succ, List.map_cons, List.sum_cons] at this ⊢; omega
theorem tSum_get : ∀ (l : List (List StopD)) (t : Nat), (l.getD t []).length ≤ tSum l
 | [], t => by simp [tSum]
 | b :: l, 0 => by simp [tSum]
 | b :: l, t + 1 => by have := tSum_get l t; simp only [tSum, List.getD_cons_succ, List.map_cons, List.sum_cons] at this ⊢; omega
theorem spoil_trucks {p : PlanD} (h : PlanFew p) (hs : tSum p.trucks ≤ 20000) (what at_ : Nat) (hat : at_ ≤ 255) {by_ : Int} (hby : -128 ≤ by_ ∧ by_ ≤ 127) : tSum (spoiltD p what at_ by_).trucks ≤ 100000 ∧ ∀ t ∈ (spoiltD p what at_ by_).trucks, ∀ s ∈ t, StopWf s := by
 have base : ∀ t ∈ p.trucks, ∀ s ∈ t, StopWf s := (few_wf h).trucks
 have small : ∀ T, ∀ s ∈ p.trucks.getD T [], (-1000000000 ≤ s.sat ∧ s.sat ≤ 1000000000) ∧ -1000000000 ≤ s.load ∧ s.load ≤ 1000000000 := fun T s hm => by
  rw [List.getD_eq_getElem?_getD] at hm
  by_cases hT : T < p.trucks.length
  ·rw [List.getElem?_eq_getElem hT] at hm; exact (h.ts _ (List.getElem_mem hT)).2 s hm
  ·rw [List.getElem?_eq_none (by omega)] at hm; cases hm
 have hset : ∀ (T : Nat) (a : List StopD), a.length ≤ 20001 → (∀ s ∈ a, StopWf s) → tSum (p.trucks.set T a) ≤ 100000 ∧ ∀ t ∈ p.trucks.set T a, ∀ s ∈ t, StopWf s := fun T a h1 h2 => by
  refine ⟨by have := tSum_set a p.trucks T; omega, fun t ht => ?_⟩
  rcases List.mem_or_eq_of_mem_set ht with h' | rfl
  ·exact base t h'
  ·exact h2
 unfold spoiltD
 split
 ·exact ⟨by omega, base⟩
 ·show tSum (spoilT p _ _ _ (at_ : Int) by_) ≤ 100000 ∧ ∀ t ∈ spoilT p _ _ _ (at_ : Int) by_, ∀ s ∈ t, StopWf s
  generalize at_ % p.trucks.length = T
  generalize (at_ / 3) % _ = K
  have hg := small T
  have hgl := tSum_get p.trucks T
  unfold spoilT
  generalize p.trucks.getD T [] = tl at *
  have hw : ∀ s ∈ tl, StopWf s := fun s hm => by have := hg s hm; unfold StopWf wf64; omega
  have hK : (-1000000000 ≤ (tl.getD K ⟨0, 0⟩).sat ∧ (tl.getD K ⟨0, 0⟩).sat ≤ 1000000000) ∧ -1000000000 ≤ (tl.getD K ⟨0, 0⟩).load ∧ (tl.getD K ⟨0, 0⟩).load ≤ 1000000000 := by
   rw [List.getD_eq_getElem?_getD]
   by_cases hK : K < tl.length
   ·rw [List.getElem?_eq_getElem hK]; exact hg _ (List.getElem_mem hK)
   ·rw [List.getElem?_eq_none (by omega)]; simp
  generalize tl.getD K ⟨0, 0⟩ = st at *
  have happ : ∀ u, StopWf u → ∀ s ∈ tl ++ [u], StopWf s := fun u hu s hm => by
   rcases List.mem_append.1 hm with hm | hm
   ·exact hw s hm
   ·obtain rfl := List.mem_singleton.1 hm; exact hu
  have hst : ∀ u, StopWf u → ∀ s ∈ tl.set K u, StopWf s := fun u hu s hm => by
   rcases List.mem_or_eq_of_mem_set hm with hm | rfl
   ·exact hw s hm
   ·exact hu
  split
  ·exact hset _ _ (by rw [List.length_set]; omega) (hst _ (by unfold StopWf wf64; simp only; omega))
  ·exact hset _ _ (by rw [List.length_set]; omega) (hst _ (by unfold StopWf wf64; simp only; omega))
  ·exact hset _ _ (by rw [List.length_append, List.length_singleton]; omega) (happ _ (by unfold StopWf wf64; simp only; omega))
  ·refine ⟨by simp [tSum] at hs ⊢; omega, fun t ht => ?_⟩
   rcases List.mem_append.1 ht with ht | ht
   ·exact base t ht
   ·obtain rfl := List.mem_singleton.1 ht; intro s hs; cases hs
  ·exact hset _ _ (by rw [List.length_append, List.length_singleton]; omega) (happ _ (by unfold StopWf wf64; simp only; omega))
  ·exact ⟨by omega, base⟩
structure POk (p : PlanD) : Prop where
 wf : PlanWf p
 small : PlanSmall p
theorem draft_tsum {x : InstD} (w : WishD) (hns : 1 ≤ x.sats.length ∧ x.sats.length ≤ 3) (hnc : 1 ≤ x.custs.length ∧ x.custs.length ≤ 6) (hcl : ∀ c ∈ x.custs, 1 ≤ c.load ∧ c.load ≤ 1000) : tSum (draftD x w).trucks ≤ 18000 := by
 have hol : (draftOrd x w).length = x.custs.length := orderUp_len _ _
 have hk := draftUp_ok (x := x) w (os := draftOrd x w) (fun c hc => by have := hcl c hc; omega) (by omega) (orderUp_lt _ _) (draftOrd x w).length (Nat.le_refl _)
 have hlv : ∀ s, (draftLB x w).1.getD s 0 ≤ 6000 := fun s => by
  rw [List.getD_eq_getElem?_getD]
  by_cases hs : s < (draftLB x w).1.length
  ·rw [List.getElem?_eq_getElem hs]
   have := hk.loB _ (List.getElem_mem hs)
   exact Int.le_trans this.2 (by rw [hol]; omega)
  ·rw [List.getElem?_eq_none (by omega)]; simp
 have hd := tst_dUp (x := x) (w := w) hlv (draftLB x w).1.length
 have hll : (draftLB x w).1.length ≤ 3 := by unfold draftLB; rw [hk.loL]; omega
 have h3 : 6000 * (draftLB x w).1.length ≤ 6000 * 3 := Nat.mul_le_mul_left _ hll
 show ((dUp x w (draftLB x w).1 (draftLB x w).1.length).1.map List.length).sum ≤ _
 omega
theorem draft_ok {y : InstD} (h : YOk y) (wi : WishD) : POk (draftD y wi) :=
 ⟨few_wf (draft_small wi h.ns h.nc h.ld h.troom), draft_stops wi h.ns h.nc h.ld h.troom⟩
theorem spoil_ok {y : InstD} (h : YOk y) (wi : WishD) (what at_ : Nat) (hat : at_ ≤ 255) {by_ : Int} (hby : -128 ≤ by_ ∧ by_ ≤ 127) : POk (spoiltD (draftD y wi) what at_ by_) := by
 have hf := draft_small wi h.ns h.nc h.ld h.troom
 have h1 := spoil_bikes hf what at_ hby
 have h2 := spoil_trucks hf (by have := draft_tsum wi h.ns h.nc h.ld; omega) what at_ hat hby
 refine ⟨⟨h2.2, fun b hb => ⟨(h1.2 b hb).1, (h1.2 b hb).2.2⟩⟩, ?_, ?_⟩
 ·have h3 := stopsUp_bd (m := 200) (fun b hb => (h1.2 b hb).2.1) (spoiltD (draftD y wi) what at_ by_).bikes.length (Nat.le_refl _)
  have h4 := Nat.mul_le_mul_left 200 h1.1
  omega
 ·rw [tSum_eq]; omega
theorem spoilt_p {y : InstD} (h : YOk y) (wi : WishD) {what at_ : Nat} (hwh : what ≤ 255) (hat : at_ ≤ 255) {by_ : Int} (hby : -128 ≤ by_ ∧ by_ ≤ 127) :
  PCall Try.prog 35 [.agg (ePlan (draftD y wi)), .c (.int .u8 what), .c (.int .u8 at_), .c (.int .i8 by_)] (fun r => r = .agg (ePlan (spoiltD (draftD y wi) what at_ by_))) :=
 pcall_mk ⟨_, _, Try.func35, by kernel_rfl, rfl⟩ fun rho w vs hc => by
  obtain ⟨_, _, rfl, ⟨cs, rfl, h1⟩, _, _, rfl, rfl, _, _, rfl, rfl, _, _, rfl, rfl, rfl⟩ := hc
  have hf := draft_small wi h.ns h.nc h.ld h.troom
  refine (spoilt_c (plan_b h1 (draft_ok h wi).wf) hwh hat hby hf.tl (by have := hf.bl; omega) hf.ts (fun b hb => by have := hf.bs b hb; exact ⟨this.1, by omega, this.2.2⟩)).mono ?_
  rintro e w' ⟨tv, bv, ts, vs, rfl, hT, hB, hb⟩
  exact ⟨_, _, rfl, rfl, plan_res hT hB (spoil_ok h wi what at_ hat hby).wf, hb⟩
theorem code_p {y : InstD} {p : PlanD} (h : YOk y) (hp : POk p) : PCall Try.prog 33 [.agg (eInst y), .agg (ePlan p)] (fun r => r = .c (I6 (planCheck y p))) :=
 pcall_mk ⟨_, _, Try.func33, by kernel_rfl, rfl⟩ fun rho w vs hc => by
  obtain ⟨_, _, rfl, ⟨cs, rfl, h1⟩, _, _, rfl, ⟨ds, rfl, h2⟩, rfl⟩ := hc
  refine (code_c (inst_b h1 h.k) (plan_b h2 hp.wf) h.chk h.nc.2 hp.small).mono ?_
  rintro e w' ⟨rfl, hb⟩
  exact ⟨_, _, rfl, rfl, rfl, hb⟩
theorem soon_ok {y : InstD} {p : PlanD} (h : YOk y) (hc : planCheck y p = 0) : SoonOk y p := by
 have hb := planBd_of hc h.nc.2
 have gd := good_of h.chk
 have hl := hb.b
 refine ⟨gd, by have := hb.tl; omega, fun t ht => ⟨by have := hb.t1 t ht; omega, fun s hs => ((hb.ok.truck t ht).2 s hs).1⟩, by omega, fun b hbm => ?_⟩
 have h1 := hb.ok.bike b hbm
 have h2 := len_mem_stops hbm
 have h3 := hb.s
 exact ⟨by omega, h1.1, h1.2.2⟩
theorem tms_wf {t : TimesD} (h : (∀ l ∈ t.trucks, ∀ v ∈ l, 0 ≤ v ∧ v ≤ 10000000000000) ∧ ∀ r ∈ t.bikes, (0 ≤ r.out ∧ r.out ≤ 10000000000000) ∧ (0 ≤ r.back ∧ r.back ≤ 10000000000000) ∧ ∀ v ∈ r.starts, 0 ≤ v ∧ v ≤ 10000000000000) : TmsWf t :=
 ⟨fun l hl v hv => by have := h.1 l hl v hv; unfold wf64; omega, fun r hr => by
  have := h.2 r hr
  exact ⟨by unfold wf64; omega, by unfold wf64; omega, fun v hv => by have := this.2.2 v hv; unfold wf64; omega⟩⟩
theorem soon_p {y : InstD} {p : PlanD} (h : YOk y) (hp : POk p) (hc : planCheck y p = 0) : PCall Try.prog 38 [.agg (eInst y), .agg (ePlan p)] (fun r => r = .agg (eTimes (soonD y p))) :=
 pcall_mk ⟨_, _, Try.func38, by kernel_rfl, rfl⟩ fun rho w vs hcv => by
  obtain ⟨_, _, rfl, ⟨cs, rfl, h1⟩, _, _, rfl, ⟨ds, rfl, h2⟩, rfl⟩ := hcv
  refine (soon_c (inst_b h1 h.k) (plan_b h2 hp.wf) (soon_ok h hc)).mono ?_
  rintro e w' ⟨tv, bv, vs, us, rfl, hT, hB, -, hb⟩
  have k := tms_wf (soon_wf (soon_ok h hc))
  exact ⟨_, _, rfl, rfl, ⟨[tv, bv], rfl, times_f (timesS.lt ⟨tv, bv, rfl, hT.rep k.trucks, hB.rep k.bikes⟩)⟩, hb⟩
theorem early_p {y : InstD} {p : PlanD} (h : YOk y) (hp : POk p) : PCall Try.prog 45 [.agg (eInst y), .agg (ePlan p)] (fun r => r = .tup [.agg (eTimes (earlyD y p)), .c (I6 (clockCheck y p (soonD y p)))]) :=
 pcall_mk ⟨_, _, Try.func45, by kernel_rfl, rfl⟩ fun rho w vs hcv => by
  obtain ⟨_, _, rfl, ⟨cs, rfl, h1⟩, _, _, rfl, ⟨ds, rfl, h2⟩, rfl⟩ := hcv
  refine (early_c (inst_b h1 h.k) (plan_b h2 hp.wf) (fun _ => h.nc.2) hp.small).mono ?_
  rintro e w' ⟨a, b, rfl, hr, hb⟩
  exact ⟨_, _, rfl, rfl, ⟨_, rfl, ⟨_, _, rfl, ⟨_, rfl, times_f (timesS.lt hr)⟩, _, _, rfl, rfl, rfl⟩⟩, hb⟩
end Go.Proofs.Ytafhjfkdlmijdaa.Ab
namespace Go.Proofs.Ytafhjfkdlmijdaa.Ab
open Go.RowKit
set_option maxRecDepth 100000
set_option linter.unusedSimpArgs false
set_option maxHeartbeats 2000000
theorem eq64_p {xs ys : List Int} (hx : ∀ v ∈ xs, wf64 v) (hy : ∀ v ∈ ys, wf64 v) : PCall Try.prog 68 [.c (eInts xs), .c (eInts ys)] (fun r => r = .c (.bool (decide (xs = ys)))) :=
 pcall_mk ⟨_, _, Try.func68, by kernel_rfl, rfl⟩ fun rho w vs hcv => by
  obtain ⟨_, _, rfl, h1, _, _, rfl, h2, rfl⟩ := hcv
  refine (eqI64s_c (bs (e := fun (x : Int) _ => I6 x) 0 int_b h1 hx) (bs (e := fun (x : Int) _ => I6 x) 0 int_b h2 hy)).mono ?_
  rintro e w' ⟨rfl, n, rfl⟩
  exact ⟨_, _, rfl, rfl, rfl, below_drewN (Below.refl _ _) n⟩
theorem tms_wfN {t : TimesD} (h : TmsWf t) (k : Nat) : ∀ v ∈ tmsN t k, wf64 v := by
 unfold tmsN
 rw [List.getD_eq_getElem?_getD]
 by_cases hk : k < t.trucks.length
 ·rw [List.getElem?_eq_getElem hk]; exact h.trucks _ (List.getElem_mem hk)
 ·rw [List.getElem?_eq_none (by omega)]; intro v hv; cases hv
theorem rid_wfN {t : TimesD} (h : TmsWf t) (k : Nat) : RideWf (ridN t k) := by
 unfold ridN
 rw [List.getD_eq_getElem?_getD]
 by_cases hk : k < t.bikes.length
 ·rw [List.getElem?_eq_getElem hk]; exact h.bikes _ (List.getElem_mem hk)
 ·rw [List.getElem?_eq_none (by omega)]; exact ⟨by unfold wf64; simp, by unfold wf64; simp, fun v hv => by cases hv⟩
theorem times_ext {a b : TimesD} (h1 : a.trucks.length = b.trucks.length) (h2 : a.bikes.length = b.bikes.length) (h3 : ∀ i, i < a.trucks.length → tmsN a i = tmsN b i) (h4 : ∀ i, i < a.bikes.length → ridN a i = ridN b i) : a = b := by
 obtain ⟨at_, ab⟩ := a
 obtain ⟨bt, bb⟩ := b
 simp only [TimesD.mk.injEq]
 constructor
 ·refine List.ext_getElem h1 fun i k1 k2 => ?_
  have := h3 i k1
  unfold tmsN at this
  rw [getD_get k1, getD_get k2] at this
  exact this
 ·refine List.ext_getElem h2 fun i k1 k2 => ?_
  have := h4 i k1
  unfold ridN at this
  rw [getD_get k1, getD_get k2] at this
  exact this
theorem ride_ext {r q : RideD} (h1 : r.out = q.out) (h2 : r.starts = q.starts) (h3 : r.back = q.back) : r = q := by
 cases r; cases q; cases h1; cases h2; cases h3; rfl
theorem same_p {a b : TimesD} (ha : TmsWf a) (hb : TmsWf b) (hla : a.trucks.length ≤ 1000000 ∧ a.bikes.length ≤ 1000000) : PCall Try.prog 47 [.agg (eTimes a), .agg (eTimes b)] (fun r => r = .c (.bool (decide (a = b)))) := by
 refine pcall_of ty_ok (by kernel_rfl) (fun _ => ([], 0)) Try.func47 rfl (by kernel_rfl) Try.ntmps47 (congrArg Array.toList Try.results47) (by kernel_rfl) (by simp) ?_
 simp -implicitDefEqProofs only [go_sem, ↓reduceIte, reduceCtorEq, Nat.reduceAdd, Nat.reduceLT, Nat.reduceEqDiff, Nat.reduceMul, Nat.reduceLeDiff, Nat.reduceSub, eTimes]
 refine ⟨fun h => ?_, fun h => ?_⟩
 ·simp only [Bool.or_eq_true, decide_eq_true_eq] at h
  rw [decide_eq_false]
  rintro rfl
  simp at h
 ·simp only [Bool.or_eq_false_iff, decide_eq_false_iff_not, Decidable.not_not] at h
  obtain ⟨hl1, hl2⟩ : a.trucks.length = b.trucks.length ∧ a.bikes.length = b.bikes.length := by omega
  refine awp_loop (ι := Nat) [2, 3, 25] [26] (fun k => k ≤ a.trucks.length ∧ ∀ i, i < k → tmsN a i = tmsN b i) (fun k => [.c (I6 k)]) (fun _ => _) (fun k => a.trucks.length - k) (by kernel_rfl) ⟨0, ⟨Nat.zero_le _, fun i hi => absurd hi (Nat.not_lt_zero _)⟩, rfl, rfl⟩ (fun k _ => ⟨rfl, rfl, rfl, rfl⟩) ?_
  rintro k ⟨hk, hi⟩
  simp -implicitDefEqProofs only [go_sem, ↓reduceIte, reduceCtorEq, Nat.reduceAdd, Nat.reduceLT, Nat.reduceEqDiff, Nat.reduceMul, Nat.reduceLeDiff, Nat.reduceSub]
  refine ⟨fun h => ?_, fun h => ?_⟩
  ·have hlt : k < a.trucks.length := by omega
   refine ⟨by omega, by omega, ?_⟩
   refine callK_e (eq64_p (tms_wfN ha k) (tms_wfN hb k)) ⟨trivial, trivial, trivial⟩ rfl (fun r h => by subst h; rfl) ?_
   rintro r rfl
   simp -implicitDefEqProofs only [go_sem, ↓reduceIte, reduceCtorEq, Nat.reduceAdd, Nat.reduceLT, Nat.reduceEqDiff, Nat.reduceMul, Nat.reduceLeDiff, Nat.reduceSub]
   refine ⟨fun hne => ?_, fun he => ?_⟩
   ·rw [decide_eq_false]
    rintro rfl
    exact hne rfl
   ·simp only [Bool.not_eq_false', decide_eq_true_eq] at he
    refine ⟨by omega, k + 1, ⟨by omega, fun i h => ?_⟩, rfl, by omega⟩
    by_cases e : i = k
    ·subst e; exact he
    ·exact hi i (by omega)
  ·obtain rfl : k = a.trucks.length := by omega
   refine awp_loop (ι := Nat) [2, 3, 44] [45] (fun k => k ≤ a.bikes.length ∧ ∀ i, i < k → ridN a i = ridN b i) (fun k => [.c (I6 k)]) (fun _ => _) (fun k => a.bikes.length - k) (by kernel_rfl) ⟨0, ⟨Nat.zero_le _, fun i hi => absurd hi (Nat.not_lt_zero _)⟩, rfl, rfl⟩ (fun k _ => ⟨rfl, rfl, rfl, rfl⟩) ?_
   rintro k ⟨hk, hj⟩
   simp -implicitDefEqProofs only [go_sem, ↓reduceIte, reduceCtorEq, Nat.reduceAdd, Nat.reduceLT, Nat.reduceEqDiff, Nat.reduceMul, Nat.reduceLeDiff, Nat.reduceSub]
   refine ⟨fun h => ?_, fun h => ?_⟩
   ·have hlt : k < a.bikes.length := by omega
    have hwa := rid_wfN ha k
    have hwb := rid_wfN hb k
    refine ⟨by omega, by omega, fun _ => by omega, fun _ => by omega, fun _ => by omega, fun _ => by omega, fun h1 => ?_, fun h1 => ?_⟩
    ·refine callK_e (eq64_p hwa.2.2 hwb.2.2) ⟨trivial, trivial, trivial⟩ rfl (fun r h => by subst h; rfl) ?_
     rintro r rfl
     simp -implicitDefEqProofs only [go_sem, ↓reduceIte, reduceCtorEq, Nat.reduceAdd, Nat.reduceLT, Nat.reduceEqDiff, Nat.reduceMul, Nat.reduceLeDiff, Nat.reduceSub]
     refine ⟨fun hne => ?_, fun he => ?_⟩
     ·rw [decide_eq_false]
      rintro rfl
      simp at hne
     ·simp only [Bool.or_eq_false_iff, decide_eq_false_iff_not, Bool.not_eq_false', decide_eq_true_eq, Decidable.not_not] at he
      refine ⟨by omega, k + 1, ⟨by omega, fun i h => ?_⟩, rfl, by omega⟩
      by_cases e : i = k
      ·subst e; exact ride_ext he.1.1 he.2 he.1.2
      ·exact hj i (by omega)
    ·have h2 : (decide ¬(ridN a k).out = (ridN b k).out || decide ¬(ridN a k).back = (ridN b k).back) = true := by
      simpa only [Bool.not_eq_false'] using h1
     refine ⟨fun h3 => (by rw [h2] at h3; cases h3), h2, ?_⟩
     rw [decide_eq_false]
     rintro rfl
     simp at h2
   ·obtain rfl : k = a.bikes.length := by omega
    rw [decide_eq_true (times_ext hl1 hl2 hi hj)]
end Go.Proofs.Ytafhjfkdlmijdaa.Ab
namespace Go.Proofs.Ytafhjfkdlmijdaa.Ab
open Go.RowKit
set_option maxRecDepth 100000
set_option linter.unusedSimpArgs false
set_option maxHeartbeats 2000000
theorem callK_p {P : Program} {pu : Bool} {f : FuncId} {H : List Root} {args args' : List RV} {post : RV → Prop} {K : RV → List Root → Prop} (hp : PCall P f args' post) (ho : okRL H args) (he : frzRL H args = args') (hH : frzHRL H args = H) (hK : ∀ r, post r → K r H) : callK P pu f args H K :=
 callK_f hp ho (by rw [he]; exact eqvRL_refl _) (by rw [hH]; exact hK)
theorem soon_fits (x : InstD) (p : PlanD) : fitsD p (soonD x p) = true := by
 unfold fitsD fitsT fitsB
 simp only [Bool.and_eq_true, decide_eq_true_eq, List.all_eq_true, List.mem_range]
 refine ⟨⟨soon_tl x p, soon_bl x p⟩, fun k hk => ?_, fun k hk => ?_⟩
 ·have h := soon_tl x p
  rw [getD_get (by omega), getD_get hk, soon_tk x p hk (by omega)]
 ·have h := soon_bl x p
  show ((soonD x p).bikes.getD k ⟨0, [], 0⟩).starts.length = _
  rw [getD_get (by omega), getD_get hk, soon_bk x p hk (by omega)]
theorem getD_wf {l : List Int} (h : ∀ v ∈ l, wf64 v) (j : Nat) : wf64 (l.getD j 0) := by
 rw [List.getD_eq_getElem?_getD]
 by_cases hj : j < l.length
 ·rw [List.getElem?_eq_getElem hj]; exact h _ (List.getElem_mem hj)
 ·rw [List.getElem?_eq_none (by omega)]; unfold wf64; simp
theorem times_wf {t : TimesD} (h : TmsWf t) : TimesWf t :=
 ⟨fun k j => getD_wf (tms_wfN h k) j, fun k => ⟨(rid_wfN h k).1, (rid_wfN h k).2.1, fun j => getD_wf (rid_wfN h k).2.2 j⟩⟩
theorem early_len {y : InstD} {p : PlanD} (hy : YOk y) : (earlyD y p).trucks.length ≤ 1000000 ∧ (earlyD y p).bikes.length ≤ 1000000 := by
 unfold earlyD
 split
 ·rename_i h
  have hc : planCheck y p = 0 := by
   unfold clockCheck at h
   by_cases e : planCheck y p = 0
   ·exact e
   ·rw [if_pos e] at h; exact h
  have := soon_ok hy hc
  have h1 := this.tl
  have h2 := this.bl
  rw [soon_tl, soon_bl]
  omega
 ·exact ⟨Nat.zero_le _, Nat.zero_le _⟩
theorem clockEarly_p {s : SmallD} {wi : WishD} {what at_ : Nat} {by_ : Int} (hs : SmallK s) (hw : WishK wi) (hwh : what ≤ 255) (hat : at_ ≤ 255) (hby : -128 ≤ by_ ∧ by_ ≤ 127) :
  PCall Try.prog 13 [.agg (eSmall s), .agg (eWish wi), .c (.int .u8 what), .c (.int .u8 at_), .c (.int .i8 by_)] (fun r => r = .c (.bool true)) := by
 refine pcall_of ty_ok (by kernel_rfl) (fun _ => ([], 0)) Try.func13 rfl (by kernel_rfl) Try.ntmps13 (congrArg Array.toList Try.results13) (by kernel_rfl) (by simp) ?_
 simp -implicitDefEqProofs only [go_sem, ↓reduceIte, reduceCtorEq, Nat.reduceAdd, Nat.reduceLT, Nat.reduceEqDiff, Nat.reduceMul, Nat.reduceLeDiff, Nat.reduceSub, eSmall, eWish]
 refine callK_e awake18_p trivial rfl (fun r h => by subst h; rfl) ?_
 rintro r rfl
 simp -implicitDefEqProofs only [go_sem, ↓reduceIte, reduceCtorEq, Nat.reduceAdd, Nat.reduceLT, Nat.reduceEqDiff, Nat.reduceMul, Nat.reduceLeDiff, Nat.reduceSub]
 intro _
 refine callK_p (make_p hs) (by simp -implicitDefEqProofs only [go_sem, ↓reduceIte, reduceCtorEq, Nat.reduceAdd, Nat.reduceLT, Nat.reduceEqDiff, Nat.reduceMul, Nat.reduceLeDiff, Nat.reduceSub]) rfl rfl ?_
 rintro r rfl
 have hy := make_y hs
 generalize makeD s = y at hy
 simp -implicitDefEqProofs only [go_sem, ↓reduceIte, reduceCtorEq, Nat.reduceAdd, Nat.reduceLT, Nat.reduceEqDiff, Nat.reduceMul, Nat.reduceLeDiff, Nat.reduceSub, eInst]
 refine callK_p (draft_p hy hw) (by simp -implicitDefEqProofs only [go_sem, ↓reduceIte, reduceCtorEq, Nat.reduceAdd, Nat.reduceLT, Nat.reduceEqDiff, Nat.reduceMul, Nat.reduceLeDiff, Nat.reduceSub]) rfl rfl ?_
 rintro r rfl
 refine callK_p (spoilt_p hy wi hwh hat hby) (by simp -implicitDefEqProofs only [go_sem, ↓reduceIte, reduceCtorEq, Nat.reduceAdd, Nat.reduceLT, Nat.reduceEqDiff, Nat.reduceMul, Nat.reduceLeDiff, Nat.reduceSub, ePlan]) rfl rfl ?_
 rintro r rfl
 have hp := spoil_ok hy wi what at_ hat hby
 generalize spoiltD (draftD y wi) what at_ by_ = p at hp
 simp -implicitDefEqProofs only [go_sem, ↓reduceIte, reduceCtorEq, Nat.reduceAdd, Nat.reduceLT, Nat.reduceEqDiff, Nat.reduceMul, Nat.reduceLeDiff, Nat.reduceSub, ePlan]
 refine callK_p (early_p hy hp) (by simp -implicitDefEqProofs only [go_sem, ↓reduceIte, reduceCtorEq, Nat.reduceAdd, Nat.reduceLT, Nat.reduceEqDiff, Nat.reduceMul, Nat.reduceLeDiff, Nat.reduceSub]) rfl rfl ?_
 rintro r rfl
 simp -implicitDefEqProofs only [go_sem, ↓reduceIte, reduceCtorEq, Nat.reduceAdd, Nat.reduceLT, Nat.reduceEqDiff, Nat.reduceMul, Nat.reduceLeDiff, Nat.reduceSub, eTimes]
 refine callK_e (code_p hy hp) (by simp -implicitDefEqProofs only [go_sem, ↓reduceIte, reduceCtorEq, Nat.reduceAdd, Nat.reduceLT, Nat.reduceEqDiff, Nat.reduceMul, Nat.reduceLeDiff, Nat.reduceSub]) rfl (fun r h => by subst h; rfl) ?_
 rintro r rfl
 simp -implicitDefEqProofs only [go_sem, ↓reduceIte, reduceCtorEq, Nat.reduceAdd, Nat.reduceLT, Nat.reduceEqDiff, Nat.reduceMul, Nat.reduceLeDiff, Nat.reduceSub]
 have hlen : (earlyD y p).trucks.length ≤ 1000000 ∧ (earlyD y p).bikes.length ≤ 1000000 := early_len hy
 refine ⟨fun hne => ?_, fun he => ?_⟩
 ·have h1 : clockCheck y p (soonD y p) = planCheck y p := by unfold clockCheck; rw [if_pos hne]
  have h2 : earlyD y p = ⟨[], []⟩ := by unfold earlyD; rw [if_neg (by rw [h1]; exact hne)]
  refine ⟨fun _ => by omega, ?_⟩
  rw [h2, decide_eq_true h1]
  rfl
 ·have hc : planCheck y p = 0 := by simpa using he
  refine callK_p (soon_p hy hp hc) (by simp -implicitDefEqProofs only [go_sem, ↓reduceIte, reduceCtorEq, Nat.reduceAdd, Nat.reduceLT, Nat.reduceEqDiff, Nat.reduceMul, Nat.reduceLeDiff, Nat.reduceSub]) rfl rfl ?_
  rintro r rfl
  have hsk := soon_ok hy hc
  have hwf := tms_wf (soon_wf hsk)
  simp -implicitDefEqProofs only [go_sem, ↓reduceIte, reduceCtorEq, Nat.reduceAdd, Nat.reduceLT, Nat.reduceEqDiff, Nat.reduceMul, Nat.reduceLeDiff, Nat.reduceSub, eTimes]
  refine callK_e (can_p hsk (soon_fits y p) (times_wf hwf)) (by simp -implicitDefEqProofs only [go_sem, ↓reduceIte, reduceCtorEq, Nat.reduceAdd, Nat.reduceLT, Nat.reduceEqDiff, Nat.reduceMul, Nat.reduceLeDiff, Nat.reduceSub]) rfl (fun r h => by subst h; rfl) ?_
  rintro r rfl
  simp -implicitDefEqProofs only [go_sem, ↓reduceIte, reduceCtorEq, Nat.reduceAdd, Nat.reduceLT, Nat.reduceEqDiff, Nat.reduceMul, Nat.reduceLeDiff, Nat.reduceSub]
  have hcc : clockCheck y p (soonD y p) = if canL y p (soonD y p) = false then 12 else 0 := by
   rw [canL_eq (soonD y p) (planOk_of hc)]
   unfold clockCheck
   rw [if_neg (by simpa using hc), soon_fits, if_neg (by simp)]
  refine ⟨fun hcn => ?_, fun hcn => ?_⟩
  ·have h1 : clockCheck y p (soonD y p) = 12 := by rw [hcc, if_pos hcn]
   have h2 : earlyD y p = ⟨[], []⟩ := by unfold earlyD; rw [if_neg (by rw [h1]; decide)]
   refine ⟨fun _ => by omega, ?_⟩
   rw [h2, decide_eq_true h1]
   rfl
  ·have hcn : canL y p (soonD y p) = true := by simpa using hcn
   have h1 : clockCheck y p (soonD y p) = 0 := by rw [hcc, if_neg (by rw [hcn]; simp)]
   have h2 : earlyD y p = soonD y p := by unfold earlyD; rw [if_pos h1]
   rw [h2] at hlen ⊢
   refine ⟨fun _ => ?_, fun hh => absurd h1 hh⟩
   refine callK_e (same_p hwf hwf hlen) (by simp -implicitDefEqProofs only [go_sem, ↓reduceIte, reduceCtorEq, Nat.reduceAdd, Nat.reduceLT, Nat.reduceEqDiff, Nat.reduceMul, Nat.reduceLeDiff, Nat.reduceSub]) rfl (fun r h => by subst h; rfl) ?_
   rintro r rfl
   simp -implicitDefEqProofs only [go_sem, ↓reduceIte, reduceCtorEq, Nat.reduceAdd, Nat.reduceLT, Nat.reduceEqDiff, Nat.reduceMul, Nat.reduceLeDiff, Nat.reduceSub]
   rw [decide_eq_true h1]
   rfl
theorem law_of {P : Program} {f : FuncId} {args : List RV} {w : World} {vs : List Value} (h : PCall P f args (fun r => r = .c (.bool true))) (hc : Con0RL (fun b => b < w.heap.size) w args vs) : Calls P f vs.toArray w fun e w' => e = .returned (.bool true) ∧ Below w.heap.size w w' := by
 refine (h.2 _ w vs (fun _ h => h) hc).mono ?_
 rintro e w' ⟨r, v, rho', rfl, rfl, h1, -, h2⟩
 obtain rfl : v = .bool true := h1
 exact ⟨rfl, h2⟩
theorem clockEarly_c {w : World} {F G : Nat → Prop} {s : SmallD} {wi : WishD} {cs1 cs2 : List Value} {what at_ : Nat} {by_ : Int} (h1 : smallS.rep w F s cs1) (h2 : wishS.rep w G wi cs2) (hwh : what ≤ 255) (hat : at_ ≤ 255) (hby : -128 ≤ by_ ∧ by_ ≤ 127) :
  Calls Try.prog 13 #[.agg cs1.toArray, .agg cs2.toArray, .int .u8 (what : Int), .int .u8 (at_ : Int), .int .i8 by_] w fun e w' => e = .returned (.bool true) ∧ Below w.heap.size w w' :=
 law_of (vs := [.agg cs1.toArray, .agg cs2.toArray, .int .u8 (what : Int), .int .u8 (at_ : Int), .int .i8 by_]) (clockEarly_p (small_k h1) (wish_k h2) hwh hat hby) ⟨_, _, rfl, ⟨_, rfl, small_f (smallS.old h1)⟩, _, _, rfl, ⟨_, rfl, wish_f (wishS.old h2)⟩, _, _, rfl, rfl, _, _, rfl, rfl, _, _, rfl, rfl, rfl⟩
end Go.Proofs.Ytafhjfkdlmijdaa.Ab
