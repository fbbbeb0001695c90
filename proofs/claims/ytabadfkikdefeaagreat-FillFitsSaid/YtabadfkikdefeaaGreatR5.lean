/- Texts of the proof, joined: Pc0, FitM, RowL, ReadyM, LawO, FillFits. -/
import Derived.Test.YtabadfkikdefeaaGreatR4
import Derived.Test.YtabadfkikdefeaaGreatP5
set_option linter.all false
set_option maxRecDepth 100000
set_option maxHeartbeats 6400000
namespace Go.Proofs.YtabadfkikdefeaaGreat.Ab
open Go.RowKit
abbrev eBytes (l : List Int) : AV := .sl l.length 1 (fun i _ => .int .u8 (l.getD i 0))
def lsN (x : SmallD) (i : Nat) : LSat := x.sats.getD i ⟨0, 0⟩
def lwN (x : SmallD) (i : Nat) : LWho := x.custs.getD i ⟨0, 0, 0, 0⟩
def eSmall (x : SmallD) : List AV := [.int .u8 x.fin, .int .u8 x.trucks, .int .u8 x.troom, .int .u8 x.bikes, .int .u8 x.broom, .sl x.sats.length 2 (fun i => ix2 (.int .u8 (lsN x i).room) (.int .u8 (lsN x i).hold)),
 .sl x.custs.length 4 (fun i => ix4 (.int .u8 (lwN x i).load) (.int .u8 (lwN x i).opn) (.int .u8 (lwN x i).wide) (.int .u8 (lwN x i).stay)), eBytes x.cost, eBytes x.time, .bool x.tight, .bool x.loose]
def eWish (x : WishD) : List AV := [eBytes x.sats, eBytes x.order, eBytes x.cuts]
def B8 (l : List Int) : Prop := ∀ v ∈ l, 0 ≤ v ∧ v ≤ 255
structure SmallK (x : SmallD) : Prop where
 wf : SmallWf x
 cost : B8 x.cost
 time : B8 x.time
structure WishK (x : WishD) : Prop where
 sats : B8 x.sats
 order : B8 x.order
 cuts : B8 x.cuts
section
variable {w : World} {F : Nat → Prop}
theorem lsat_f : Fwd lsatS (fun x => ix2 (.int .u8 x.room) (.int .u8 x.hold)) := by
 rintro w F x cs ⟨rfl, -⟩ j hj
 have hj : j < 2 := hj
 match j, hj with
 | 0, _ => exact ⟨_, rfl, rfl⟩
 | 1, _ => exact ⟨_, rfl, rfl⟩
theorem lsat_b : Bwd lsatS (fun x => ix2 (.int .u8 x.room) (.int .u8 x.hold)) (fun x => wf8 x.room ∧ wf8 x.hold) := by
 intro w F x cs hl h ho
 obtain ⟨u, v, rfl, h1, h2⟩ := two_b hl h
 exact ⟨by rw [show u = .int .u8 x.room from h1, show v = .int .u8 x.hold from h2], ho⟩
theorem lwho_f : Fwd lwhoS (fun x => ix4 (.int .u8 x.load) (.int .u8 x.opn) (.int .u8 x.wide) (.int .u8 x.stay)) := by
 rintro w F x cs ⟨rfl, -⟩ j hj
 have hj : j < 4 := hj
 match j, hj with
 | 0, _ => exact ⟨_, rfl, rfl⟩
 | 1, _ => exact ⟨_, rfl, rfl⟩
 | 2, _ => exact ⟨_, rfl, rfl⟩
 | 3, _ => exact ⟨_, rfl, rfl⟩
theorem lwho_b : Bwd lwhoS (fun x => ix4 (.int .u8 x.load) (.int .u8 x.opn) (.int .u8 x.wide) (.int .u8 x.stay)) (fun x => wf8 x.load ∧ wf8 x.opn ∧ wf8 x.wide ∧ wf8 x.stay) := by
 intro w F x cs hl h ho
 match cs, hl with
 | [a, b, c, d], _ =>
  obtain ⟨a', h1, h2⟩ := h 0 (by decide)
  obtain ⟨b', h3, h4⟩ := h 1 (by decide)
  obtain ⟨c', h5, h6⟩ := h 2 (by decide)
  obtain ⟨d', h7, h8⟩ := h 3 (by decide)
  cases h1; cases h3; cases h5; cases h7
  exact ⟨by rw [show a = .int .u8 x.load from h2, show b = .int .u8 x.opn from h4, show c = .int .u8 x.wide from h6, show d = .int .u8 x.stay from h8], ho⟩
theorem bytes_f {l : List Int} {v : Value} (h : bytesS.rep w F l [v]) : Con0 F w (eBytes l) v := fs (e := fun x _ => .int .u8 x) (0 : Int) u8_f h
theorem bytes_b {l : List Int} {v : Value} (h : Con0 F w (eBytes l) v) (ho : B8 l) : bytesS.rep w F l [v] := bs (e := fun (x : Int) _ => .int .u8 x) (0 : Int) u8_b h ho
theorem small_f {x : SmallD} {cs : List Value} (h : smallS.rep w F x cs) : Con0L F w (eSmall x) cs := by
 obtain ⟨s, c, co, ti, rfl, -, k1, k2, k3, k4⟩ := h
 have e1 := fs (e := fun (x : LSat) => ix2 (.int .u8 x.room) (.int .u8 x.hold)) (⟨0, 0⟩ : LSat) lsat_f k1
 have e2 := fs (e := fun (x : LWho) => ix4 (.int .u8 x.load) (.int .u8 x.opn) (.int .u8 x.wide) (.int .u8 x.stay)) (⟨0, 0, 0, 0⟩ : LWho) lwho_f k2
 exact ⟨_, _, rfl, rfl, _, _, rfl, rfl, _, _, rfl, rfl, _, _, rfl, rfl, _, _, rfl, rfl, _, _, rfl, e1, _, _, rfl, e2, _, _, rfl, bytes_f k3, _, _, rfl, bytes_f k4, _, _, rfl, rfl, _, _, rfl, rfl, rfl⟩
theorem small_b {x : SmallD} {cs : List Value} (h : Con0L F w (eSmall x) cs) (ok : SmallK x) : smallS.rep w F x cs := by
 obtain ⟨_, _, rfl, rfl, _, _, rfl, rfl, _, _, rfl, rfl, _, _, rfl, rfl, _, _, rfl, rfl, s, _, rfl, k1, c, _, rfl, k2, co, _, rfl, k3, ti, _, rfl, k4, _, _, rfl, rfl, _, _, rfl, rfl, rfl⟩ := h
 have e1 := bs (h0 := by decide) (e := fun (x : LSat) => ix2 (.int .u8 x.room) (.int .u8 x.hold)) (⟨0, 0⟩ : LSat) lsat_b k1 ok.wf.sats
 have e2 := bs (h0 := by decide) (e := fun (x : LWho) => ix4 (.int .u8 x.load) (.int .u8 x.opn) (.int .u8 x.wide) (.int .u8 x.stay)) (⟨0, 0, 0, 0⟩ : LWho) lwho_b k2 ok.wf.custs
 exact ⟨s, c, co, ti, rfl, ⟨ok.wf.fin, ok.wf.trucks, ok.wf.troom, ok.wf.bikes, ok.wf.broom⟩, e1, e2, bytes_b k3 ok.cost, bytes_b k4 ok.time⟩
theorem bytes_wf {l : List Int} {cs : List Value} (h : bytesS.rep w F l cs) : B8 l := by
 obtain ⟨_, _, _, _, -, -, -, -, -, -, hw⟩ := bytes_open h
 exact hw
theorem small_k {x : SmallD} {cs : List Value} (h : smallS.rep w F x cs) : SmallK x := by
 have := small_wf h
 obtain ⟨s, c, co, ti, rfl, -, k1, k2, k3, k4⟩ := h
 exact ⟨this, bytes_wf k3, bytes_wf k4⟩
theorem wish_f {x : WishD} {cs : List Value} (h : wishS.rep w F x cs) : Con0L F w (eWish x) cs := by
 obtain ⟨a, b, c, rfl, k1, k2, k3⟩ := h
 exact ⟨_, _, rfl, bytes_f k1, _, _, rfl, bytes_f k2, _, _, rfl, bytes_f k3, rfl⟩
theorem wish_b {x : WishD} {cs : List Value} (h : Con0L F w (eWish x) cs) (ok : WishK x) : wishS.rep w F x cs := by
 obtain ⟨a, _, rfl, k1, b, _, rfl, k2, c, _, rfl, k3, rfl⟩ := h
 exact ⟨a, b, c, rfl, bytes_b k1 ok.sats, bytes_b k2 ok.order, bytes_b k3 ok.cuts⟩
theorem wish_k {x : WishD} {cs : List Value} (h : wishS.rep w F x cs) : WishK x := by
 obtain ⟨a, b, c, rfl, k1, k2, k3⟩ := h
 exact ⟨bytes_wf k1, bytes_wf k2, bytes_wf k3⟩
end
structure YOk (y : InstD) : Prop where
 chk : check y = 0
 k : InstK y
 ns : 1 ≤ y.sats.length ∧ y.sats.length ≤ 3
 nc : 1 ≤ y.custs.length ∧ y.custs.length ≤ 6
 ld : ∀ c ∈ y.custs, 1 ≤ c.load ∧ c.load ≤ 1000
 troom : 1 ≤ y.troom
theorem instK_of {x : InstD} (g : Good x) (h : InstWf x) : InstK x :=
 ⟨h.1, h.2.1, h.2.2.1, fun r hr => (h.2.2.2.1 r hr).2, fun r hr => (h.2.2.2.2 r hr).2, ⟨g.costL, g.costR⟩, ⟨g.timeL, g.timeR⟩⟩
theorem make_y {s : SmallD} (h : SmallK s) : YOk (makeD s) :=
 ⟨make_check h.wf, instK_of (good_of (make_check h.wf)) (make_wf h.wf), satsOf_len s, custsOf_len s, fun c hc => (cust_may h.wf c hc).1, make_troom h.wf⟩
theorem make_p {s : SmallD} (h : SmallK s) : PCall Tryz.prog 20 [.agg (eSmall s)] (fun r => r = .agg (eInst (makeD s))) :=
 pcall_mk ⟨_, _, Tryz.func20, by kernel_rfl, rfl⟩ fun rho w vs hc => by
  obtain ⟨_, _, rfl, ⟨cs, rfl, h1⟩, rfl⟩ := hc
  refine (make_c (small_b h1 h)).mono ?_
  rintro e w' ⟨ds, rfl, hi, hb⟩
  have k := (make_y h).k
  exact ⟨_, _, rfl, rfl, ⟨_, rfl, inst_f (instS.lt (hi.rep (make_wf h.wf))) k.sqc k.sqt⟩, hb⟩
theorem plan_res {p : PlanD} {w' : World} {n : Nat} {tv bv : Value} {ts vs : List Value} {TT TS TB TI : Nat} (hT : TOwn TT TS w' n tv p.trucks ts) (hB : BOwn TB TI w' n bv p.bikes vs) (h : PlanWf p) : Con0T (fun b => n ≤ b ∧ b < w'.heap.size) w' (.agg (ePlan p)) (.agg #[tv, bv]) :=
 ⟨[tv, bv], rfl, plan_f (planS.lt ⟨tv, bv, rfl, hT.rep h.trucks, hB.rep h.bikes⟩)⟩
theorem few_wf {p : PlanD} (h : PlanFew p) : PlanWf p :=
 ⟨fun t ht s hs => by have := (h.ts t ht).2 s hs; unfold StopWf wf64; omega, fun b hb => by
  have := h.bs b hb
  exact ⟨by unfold wf64; omega, fun c hc => by have := this.2.2 c hc; unfold wf64; omega⟩⟩
theorem draft_p {y : InstD} {wi : WishD} (h : YOk y) (hw : WishK wi) : PCall Tryz.prog 21 [.agg (eInst y), .agg (eWish wi)] (fun r => r = .agg (ePlan (draftD y wi))) :=
 pcall_mk ⟨_, _, Tryz.func21, by kernel_rfl, rfl⟩ fun rho w vs hc => by
  obtain ⟨_, _, rfl, ⟨cs, rfl, h1⟩, _, _, rfl, ⟨ds, rfl, h2⟩, rfl⟩ := hc
  have gd := good_of h.chk
  refine (draft_c (inst_b h1 h.k) (wish_b h2 hw) h.ns h.nc h.ld ⟨h.troom, gd.troom.2⟩ gd.broom).mono ?_
  rintro e w' ⟨tv, bv, ts, vs, rfl, hT, hB, hb⟩
  exact ⟨_, _, rfl, rfl, plan_res hT hB (few_wf (draft_small wi h.ns h.nc h.ld h.troom)), hb⟩
def tSum (l : List (List StopD)) : Nat := (l.map List.length).sum
theorem tSum_eq (l : List (List StopD)) : tstopsUp l l.length = tSum l := by unfold tstopsUp tSum; rw [List.take_length]
theorem tSum_set (a : List StopD) : ∀ (l : List (List StopD)) (t : Nat), tSum (l.set t a) ≤ tSum l + a.length
 | [], t => by simp [tSum]
 | b :: l, 0 => by simp [tSum]; omega
 | b :: l, t + 1 => by have := tSum_set a l t; simp only [tSum, List.set_cons_succ, List.map_cons, List.sum_cons] at this ⊢; omega
theorem tSum_get : ∀ (l : List (List StopD)) (t : Nat), (l.getD t []).length ≤ tSum l
 | [], t => by simp [tSum]
 | b :: l, 0 => by simp [tSum]
 | b :: l, t + 1 => by have := tSum_get l t; simp only [tSum, List.getD_cons_succ, List.map_cons, List.sum_cons] at this ⊢; omega
theorem spoil_trucks {p : PlanD} (h : PlanFew p) (hs : tSum p.trucks ≤ 20000) (what at_ : Nat) (hat : at_ ≤ 255) {by_ : Int} (hby : -128 ≤ by_ ∧ by_ ≤ 127) : tSum (spoiltD p what at_ by_).trucks ≤ 100000 ∧ ∀ t ∈ (spoiltD p what at_ by_).trucks, ∀ s ∈ t, StopWf s := by
 have base : ∀ t ∈ p.trucks, ∀ s ∈ t, StopWf s := (few_wf h).trucks
 have small : ∀ T, ∀ s ∈ p.trucks.getD T [], (-1000000000 ≤ s.sat ∧ s.sat ≤ 1000000000) ∧ -1000000000 ≤ s.load ∧ s.load ≤ 1000000000 := fun T s hm => by
  rw [List.getD_eq_getElem?_getD] at hm
  by_cases hT : T < p.trucks.length
  ·rw [List.getElem?_eq_getElem hT] at hm; exact (h.ts _ (List.getElem_mem hT)).2 s hm
  ·rw [List.getElem?_eq_none (by omega)] at hm; cases hm
 have hset : ∀ (T : Nat) (a : List StopD), a.length ≤ 20001 → (∀ s ∈ a, StopWf s) → tSum (p.trucks.set T a) ≤ 100000 ∧ ∀ t ∈ p.trucks.set T a, ∀ s ∈ t, StopWf s := fun T a h1 h2 => by
  refine ⟨by have := tSum_set a p.trucks T; omega, fun t ht => ?_⟩
  rcases List.mem_or_eq_of_mem_set ht with h' | rfl
  ·exact base t h'
  ·exact h2
 unfold spoiltD
 split
 ·exact ⟨by omega, base⟩
 ·show tSum (spoilT p _ _ _ (at_ : Int) by_) ≤ 100000 ∧ ∀ t ∈ spoilT p _ _ _ (at_ : Int) by_, ∀ s ∈ t, StopWf s
  generalize at_ % p.trucks.length = T
  generalize (at_ / 3) % _ = K
  have hg := small T
  have hgl := tSum_get p.trucks T
  unfold spoilT
  generalize p.trucks.getD T [] = tl at *
  have hw : ∀ s ∈ tl, StopWf s := fun s hm => by have := hg s hm; unfold StopWf wf64; omega
  have hK : (-1000000000 ≤ (tl.getD K ⟨0, 0⟩).sat ∧ (tl.getD K ⟨0, 0⟩).sat ≤ 1000000000) ∧ -1000000000 ≤ (tl.getD K ⟨0, 0⟩).load ∧ (tl.getD K ⟨0, 0⟩).load ≤ 1000000000 := by
   rw [List.getD_eq_getElem?_getD]
   by_cases hK : K < tl.length
   ·rw [List.getElem?_eq_getElem hK]; exact hg _ (List.getElem_mem hK)
   ·rw [List.getElem?_eq_none (by omega)]; simp
  generalize tl.getD K ⟨0, 0⟩ = st at *
  have happ : ∀ u, StopWf u → ∀ s ∈ tl ++ [u], StopWf s := fun u hu s hm => by
   rcases List.mem_append.1 hm with hm | hm
   ·exact hw s hm
   ·obtain rfl := List.mem_singleton.1 hm; exact hu
  have hst : ∀ u, StopWf u → ∀ s ∈ tl.set K u, StopWf s := fun u hu s hm => by
   rcases List.mem_or_eq_of_mem_set hm with hm | rfl
   ·exact hw s hm
   ·exact hu
  split
  ·exact hset _ _ (by rw [List.length_set]; omega) (hst _ (by unfold StopWf wf64; simp only; omega))
  ·exact hset _ _ (by rw [List.length_set]; omega) (hst _ (by unfold StopWf wf64; simp only; omega))
  ·exact hset _ _ (by rw [List.length_append, List.length_singleton]; omega) (happ _ (by unfold StopWf wf64; simp only; omega))
  ·refine ⟨by simp [tSum] at hs ⊢; omega, fun t ht => ?_⟩
   rcases List.mem_append.1 ht with ht | ht
   ·exact base t ht
   ·obtain rfl := List.mem_singleton.1 ht; intro s hs; cases hs
  ·exact hset _ _ (by rw [List.length_append, List.length_singleton]; omega) (happ _ (by unfold StopWf wf64; simp only; omega))
  ·exact ⟨by omega, base⟩
structure POk (p : PlanD) : Prop where
 wf : PlanWf p
 small : PlanSmall p
theorem draft_tsum {x : InstD} (w : WishD) (hns : 1 ≤ x.sats.length ∧ x.sats.length ≤ 3) (hnc : 1 ≤ x.custs.length ∧ x.custs.length ≤ 6) (hcl : ∀ c ∈ x.custs, 1 ≤ c.load ∧ c.load ≤ 1000) : tSum (draftD x w).trucks ≤ 18000 := by
 have hol : (draftOrd x w).length = x.custs.length := orderUp_len _ _
 have hk := draftUp_ok (x := x) w (os := draftOrd x w) (fun c hc => by have := hcl c hc; omega) (by omega) (orderUp_lt _ _) (draftOrd x w).length (Nat.le_refl _)
 have hlv : ∀ s, (draftLB x w).1.getD s 0 ≤ 6000 := fun s => by
  rw [List.getD_eq_getElem?_getD]
  by_cases hs : s < (draftLB x w).1.length
  ·rw [List.getElem?_eq_getElem hs]
   have := hk.loB _ (List.getElem_mem hs)
   exact Int.le_trans this.2 (by rw [hol]; omega)
  ·rw [List.getElem?_eq_none (by omega)]; simp
 have hd := tst_dUp (x := x) (w := w) hlv (draftLB x w).1.length
 have hll : (draftLB x w).1.length ≤ 3 := by unfold draftLB; rw [hk.loL]; omega
 have h3 : 6000 * (draftLB x w).1.length ≤ 6000 * 3 := Nat.mul_le_mul_left _ hll
 show ((dUp x w (draftLB x w).1 (draftLB x w).1.length).1.map List.length).sum ≤ _
 omega
theorem draft_ok {y : InstD} (h : YOk y) (wi : WishD) : POk (draftD y wi) :=
 ⟨few_wf (draft_small wi h.ns h.nc h.ld h.troom), draft_stops wi h.ns h.nc h.ld h.troom⟩
theorem spoil_ok {y : InstD} (h : YOk y) (wi : WishD) (what at_ : Nat) (hat : at_ ≤ 255) {by_ : Int} (hby : -128 ≤ by_ ∧ by_ ≤ 127) : POk (spoiltD (draftD y wi) what at_ by_) := by
 have hf := draft_small wi h.ns h.nc h.ld h.troom
 have h1 := spoil_bikes hf what at_ hby
 have h2 := spoil_trucks hf (by have := draft_tsum wi h.ns h.nc h.ld; omega) what at_ hat hby
 refine ⟨⟨h2.2, fun b hb => ⟨(h1.2 b hb).1, (h1.2 b hb).2.2⟩⟩, ?_, ?_⟩
 ·have h3 := stopsUp_bd (m := 200) (fun b hb => (h1.2 b hb).2.1) (spoiltD (draftD y wi) what at_ by_).bikes.length (Nat.le_refl _)
  have h4 := Nat.mul_le_mul_left 200 h1.1
  omega
 ·rw [tSum_eq]; omega
theorem spoilt_p {y : InstD} (h : YOk y) (wi : WishD) {what at_ : Nat} (hwh : what ≤ 255) (hat : at_ ≤ 255) {by_ : Int} (hby : -128 ≤ by_ ∧ by_ ≤ 127) :
  PCall Tryz.prog 24 [.agg (ePlan (draftD y wi)), .c (.int .u8 what), .c (.int .u8 at_), .c (.int .i8 by_)] (fun r => r = .agg (ePlan (spoiltD (draftD y wi) what at_ by_))) :=
 pcall_mk ⟨_, _, Tryz.func24, by kernel_rfl, rfl⟩ fun rho w vs hc => by
  obtain ⟨_, _, rfl, ⟨cs, rfl, h1⟩, _, _, rfl, rfl, _, _, rfl, rfl, _, _, rfl, rfl, rfl⟩ := hc
  have hf := draft_small wi h.ns h.nc h.ld h.troom
  refine (spoilt_c (plan_b h1 (draft_ok h wi).wf) hwh hat hby hf.tl (by have := hf.bl; omega) hf.ts (fun b hb => by have := hf.bs b hb; exact ⟨this.1, by omega, this.2.2⟩)).mono ?_
  rintro e w' ⟨tv, bv, ts, vs, rfl, hT, hB, hb⟩
  exact ⟨_, _, rfl, rfl, plan_res hT hB (spoil_ok h wi what at_ hat hby).wf, hb⟩
theorem check_p {y : InstD} (h : YOk y) : PCall Tryz.prog 43 [.agg (eInst y)] (fun r => r = .c (I6 0)) :=
 pcall_mk ⟨_, _, Tryz.func43, by kernel_rfl, rfl⟩ fun rho w vs hc => by
  obtain ⟨_, _, rfl, ⟨cs, rfl, h1⟩, rfl⟩ := hc
  refine (check_c (inst_b h1 h.k)).mono ?_
  rintro e w' ⟨rfl, hb⟩
  exact ⟨_, _, rfl, rfl, by rw [h.chk]; rfl, hb⟩
theorem sat_p (x : InstD) {s : Int} (h : 0 ≤ s ∧ s ≤ 1000000) : PCall Tryz.prog 102 [.agg (eInst x), .c (I6 s)] (fun r => r = .c (I6 (1 + s))) := by
 refine pcall_of ty_ok (by kernel_rfl) (fun _ => ([], 0, none)) Tryz.func102 rfl (by kernel_rfl) Tryz.ntmps102 (congrArg Array.toList Tryz.results102) (by kernel_rfl) (by simp) ?_
 simp -implicitDefEqProofs only [go_sem, ↓reduceIte, reduceCtorEq, Nat.reduceAdd, Nat.reduceLT, Nat.reduceEqDiff, Nat.reduceMul, Nat.reduceLeDiff, Nat.reduceSub, eInst]
 omega
theorem customer_p (x : InstD) {c : Int} (h : CustOk x c) (g : Good x) : PCall Tryz.prog 103 [.agg (eInst x), .c (I6 c)] (fun r => r = .c (I6 (1 + x.sats.length + c))) := by
 refine pcall_of ty_ok (by kernel_rfl) (fun _ => ([], 0, none)) Tryz.func103 rfl (by kernel_rfl) Tryz.ntmps103 (congrArg Array.toList Tryz.results103) (by kernel_rfl) (by simp) ?_
 simp -implicitDefEqProofs only [go_sem, ↓reduceIte, reduceCtorEq, Nat.reduceAdd, Nat.reduceLT, Nat.reduceEqDiff, Nat.reduceMul, Nat.reduceLeDiff, Nat.reduceSub, eInst]
 have := g.sats; have := g.custs; unfold CustOk at h
 omega
theorem fitsL_p {x : InstD} (gd : Good x) {out : Int} {b : BikeD} (hs : 0 ≤ b.sat ∧ b.sat < x.sats.length) (ho : 0 ≤ out ∧ out ≤ 1099511627776) (hc : custsB x b b.stops.length = true) (hbl : b.stops.length ≤ 1000000) :
  PCall Tryz.prog 36 [.agg (eInst x), .c (I6 out), .agg [I6 b.sat, eInts b.stops]] (fun r => r = .c (.bool (ftEnd x b out))) := by
 refine pcall_of ty_ok (by kernel_rfl) (fun n => match n with | 5 => ([0,1,2,3,4,5,6,7,12,13,14,15,16,17,8,9,10,11,18,19], 0, none) | _ => ([], 0, none)) Tryz.func36 rfl (by kernel_rfl) Tryz.ntmps36 (congrArg Array.toList Tryz.results36) (by kernel_rfl) (by simp) ?_
 have hs1 := gd.sats; have hc1 := gd.custs; have hf1 := gd.fin; have hbr := gd.broom
 have hcs : ∀ j, j < b.stops.length → custsB x b j = true ∧ CustOk x (b.stops.getD j 0) := fun j hj => by
  have h1 : custsB x b (j + 1) = true := by
   cases h : custsB x b (j + 1) with
   | true => rfl
   | false => rw [custsB_false _ h _ hj] at hc; cases hc
  simp only [custsB, Bool.and_eq_true] at h1
  exact ⟨h1.1, custOk_of h1.2⟩
 simp -implicitDefEqProofs only [go_sem, ↓reduceIte, reduceCtorEq, Nat.reduceAdd, Nat.reduceLT, Nat.reduceEqDiff, Nat.reduceMul, Nat.reduceLeDiff, Nat.reduceSub, eInst]
 refine ⟨by omega, ?_⟩
 refine awp_loop (ι := Nat × FtS) [3, 5, 17, 18] [7, 8, 9, 19] (fun s => s.1 ≤ b.stops.length ∧ ftUp x b out s.1 = some s.2) (fun s => [.c (I6 s.2.now), .c (I6 s.2.node), .c (I6 (x.broom - s.2.left)), .c (I6 s.1)]) (fun _ => _) (fun s => b.stops.length - s.1) (by kernel_rfl) ⟨(0, ⟨out, 1 + b.sat, x.broom⟩), ⟨Nat.zero_le _, rfl⟩, by simp [gets, lk, tvals], rfl⟩ (fun k _ => ⟨rfl, rfl, rfl, rfl⟩) ?_
 rintro ⟨j, st⟩ ⟨hj, hu⟩
 simp only [] at hj hu
 simp -implicitDefEqProofs only [go_sem, ↓reduceIte, reduceCtorEq, Nat.reduceAdd, Nat.reduceLT, Nat.reduceEqDiff, Nat.reduceMul, Nat.reduceLeDiff, Nat.reduceSub]
 have hnx : ftUp x b out (j + 1) = if ftGood x st (b.stops.getD j 0) = true then some (ftStep x st (b.stops.getD j 0)) else none := by
  show (ftUp x b out j).bind _ = _
  rw [hu]; rfl
 refine ⟨fun h => ?_, fun h => ?_⟩
 ·have hjl : j < b.stops.length := by omega
  obtain ⟨hcj, hco⟩ := hcs j hjl
  obtain ⟨b1, b2, b3⟩ := ftUp_bd gd hs ho j hj hcj hu
  have cb := cust_bd2 gd hco
  have htm := timeAt_bd gd st.node (1 + x.sats.length + b.stops.getD j 0)
  have hco2 : 0 ≤ b.stops.getD j 0 ∧ b.stops.getD j 0 < x.custs.length := hco
  refine ⟨by omega, b1, hco, ?_⟩
  refine callK_e (at_p x hco gd) ⟨trivial, trivial, trivial⟩ rfl (fun r h => by subst h; rfl) ?_
  rintro r rfl
  simp -implicitDefEqProofs only [go_sem, ↓reduceIte, reduceCtorEq, Nat.reduceAdd, Nat.reduceLT, Nat.reduceEqDiff, Nat.reduceMul, Nat.reduceLeDiff, Nat.reduceSub]
  have hmx : ftAt x st (b.stops.getD j 0) = max (st.now + timeAt x st.node (1 + x.sats.length + b.stops.getD j 0)) (custD x (b.stops.getD j 0)).opn := rfl
  have hgd : (decide ((custD x (b.stops.getD j 0)).cls < ftAt x st (b.stops.getD j 0)) || decide (x.broom < x.broom - st.left + (custD x (b.stops.getD j 0)).load)) = !ftGood x st (b.stops.getD j 0) := by
   unfold ftGood
   rw [Bool.not_and, ← decide_not, ← decide_not]
   congr 1 <;> exact decide_eq_decide.2 (by omega)
  have hmb : 0 ≤ ftAt x st (b.stops.getD j 0) ∧ ftAt x st (b.stops.getD j 0) ≤ 1200000000000 := by rw [hmx]; omega
  rw [← hmx, hgd]
  have hnd : nodes x = 1 + x.sats.length + x.custs.length := rfl
  refine ⟨by omega, by omega, hco, by omega, hco, fun h => ?_, fun h => ⟨hco, by omega, ?_⟩⟩
  ·rw [if_neg (by simpa using h)] at hnx
   unfold ftEnd
   rw [ftUp_none (j + 1) hnx _ hjl]
  ·rw [if_pos (by simpa using h)] at hnx
   refine callK_e (at_p x hco gd) ⟨trivial, trivial, trivial⟩ rfl (fun r h => by subst h; rfl) ?_
   rintro r rfl
   simp -implicitDefEqProofs only [go_sem, ↓reduceIte, reduceCtorEq, Nat.reduceAdd, Nat.reduceLT, Nat.reduceEqDiff, Nat.reduceMul, Nat.reduceLeDiff, Nat.reduceSub]
   refine ⟨by omega, (j + 1, ftStep x st (b.stops.getD j 0)), ⟨by omega, hnx⟩, ?_, by omega⟩
   simp only [ftStep, RV.c.injEq, AV.int.injEq, List.cons.injEq, Prod.mk.injEq, true_and, and_true]
   omega
 ·obtain rfl : j = b.stops.length := by omega
  have hcl : custsB x b b.stops.length = true := hc
  obtain ⟨b1, b2, b3⟩ := ftUp_bd gd hs ho _ hj hcl hu
  have htm := timeAt_bd gd st.node (1 + b.sat)
  have hnd : nodes x = 1 + x.sats.length + x.custs.length := rfl
  refine ⟨b1, by omega, by omega, by omega, ?_⟩
  unfold ftEnd
  rw [hu]
theorem fits_p {y : InstD} (hy : YOk y) {rd : List Int} {b : BikeD} (hrl : rd.length ≤ 1000000) (hbl : b.stops.length ≤ 1000000) :
  PCall Tryz.prog 35 [.agg (eInst y), .c (eInts rd), .agg [I6 b.sat, eInts b.stops]] (fun r => r = .c (.bool (fitsP y rd b))) := by
 refine pcall_of ty_ok (by kernel_rfl) (fun n => match n with | 3 => ([0,1,2,3,4,5,6,7,9,10,11,8,12,13,14], 0, none) | 10 => ([0,1,2,3,4,5,6,7,12,13,15,16,17,18,8,9,10,11,14,19,20], 0, none) | 15 => ([0,1,2,3,4,5,6,7,8,13,14,9,10,11,12,15,16], 0, none) | _ => ([], 0, none)) Tryz.func35 rfl (by kernel_rfl) Tryz.ntmps35 (congrArg Array.toList Tryz.results35) (by kernel_rfl) (by simp) ?_
 have gd := good_of hy.chk
 have hs1 := gd.sats; have hc1 := gd.custs; have hf1 := gd.fin; have hbr := gd.broom
 simp -implicitDefEqProofs only [go_sem, ↓reduceIte, reduceCtorEq, Nat.reduceAdd, Nat.reduceLT, Nat.reduceEqDiff, Nat.reduceMul, Nat.reduceLeDiff, Nat.reduceSub, eInst]
 refine callK_e (check_p hy) (by simp -implicitDefEqProofs only [go_sem, ↓reduceIte, reduceCtorEq, Nat.reduceAdd, Nat.reduceLT, Nat.reduceEqDiff, Nat.reduceMul, Nat.reduceLeDiff, Nat.reduceSub]) rfl (fun r h => by subst h; rfl) ?_
 rintro r rfl
 simp -implicitDefEqProofs only [go_sem, ↓reduceIte, reduceCtorEq, Nat.reduceAdd, Nat.reduceLT, Nat.reduceEqDiff, Nat.reduceMul, Nat.reduceLeDiff, Nat.reduceSub, eq_self, not_true_eq_false, not_false_eq_true, decide_false, decide_true, Bool.not_false, Bool.not_true, Bool.or_false, Bool.false_or, Bool.true_or, Bool.or_true, Bool.and_true, Bool.true_and, Bool.false_and, Bool.and_false, true_implies]
 have hg : (decide (b.sat < 0) || decide (y.sats.length ≤ b.sat) || decide (rd.length ≤ b.sat) || decide (rd.getD b.sat.toNat 0 < 0) || decide (1099511627776 < rd.getD b.sat.toNat 0)) = !ftThere y rd b := by
  unfold ftThere outOf
  simp only [Bool.not_and, Bool.or_assoc, ← decide_not, Int.not_le, Int.not_lt]
 rw [hg]
 refine ⟨fun h => ?_, fun h => ?_, fun h => ?_, fun h => ?_⟩
 ·simp only [Bool.or_eq_false_iff, decide_eq_false_iff_not] at h; omega
 ·simp only [Bool.or_eq_false_iff, decide_eq_false_iff_not] at h; omega
 ·rw [show fitsP y rd b = false by unfold fitsP; rw [show ftThere y rd b = false by simpa using h]; rfl]
 have hth : ftThere y rd b = true := by simpa using h
 have hfp : fitsP y rd b = (custsB y b b.stops.length && ftEnd y b (outOf rd b)) := by unfold fitsP; rw [hth]; rfl
 unfold ftThere at hth
 simp only [Bool.and_eq_true, decide_eq_true_eq] at hth
 obtain ⟨h1, h2, h3, h4⟩ := hth
 rw [hfp]
 clear hfp hg h
 refine ⟨by omega, ?_⟩
 refine callK_e (sat_p y (by omega)) ⟨trivial, trivial, trivial⟩ rfl (fun r h => by subst h; rfl) ?_
 rintro r rfl
 simp -implicitDefEqProofs only [go_sem, ↓reduceIte, reduceCtorEq, Nat.reduceAdd, Nat.reduceLT, Nat.reduceEqDiff, Nat.reduceMul, Nat.reduceLeDiff, Nat.reduceSub, show rd.getD b.sat.toNat 0 = outOf rd b from rfl]
 generalize outOf rd b = out at h4 ⊢
 refine awp_loop (ι := Nat × FtS) [3, 5, 65, 66] [7, 8, 9, 67] (fun s => s.1 ≤ b.stops.length ∧ ftUp y b out s.1 = some s.2 ∧ custsB y b s.1 = true) (fun s => [.c (I6 s.2.now), .c (I6 s.2.node), .c (I6 s.2.left), .c (I6 s.1)]) (fun _ => _) (fun s => b.stops.length - s.1) (by kernel_rfl) ⟨(0, ⟨out, 1 + b.sat, y.broom⟩), ⟨Nat.zero_le _, rfl, rfl⟩, rfl, rfl⟩ (fun k _ => ⟨rfl, rfl, rfl, rfl⟩) ?_
 rintro ⟨j, st⟩ ⟨hj, hu, hcj⟩
 simp only [] at hj hu hcj
 obtain ⟨b1, b2, b3⟩ := ftUp_bd gd ⟨h1, h2⟩ h4 j hj hcj hu
 have hnd : nodes y = 1 + y.sats.length + y.custs.length := rfl
 have hnx : ftUp y b out (j + 1) = if ftGood y st (b.stops.getD j 0) = true then some (ftStep y st (b.stops.getD j 0)) else none := by
  show (ftUp y b out j).bind _ = _
  rw [hu]; rfl
 have hnc : custsB y b (j + 1) = custB y (b.stops.getD j 0) := by simp only [custsB, hcj, Bool.true_and]
 simp -implicitDefEqProofs only [go_sem, ↓reduceIte, reduceCtorEq, Nat.reduceAdd, Nat.reduceLT, Nat.reduceEqDiff, Nat.reduceMul, Nat.reduceLeDiff, Nat.reduceSub]
 refine ⟨fun h => ?_, fun h => ?_⟩
 ·have hjl : j < b.stops.length := by omega
  have hbad : (decide (b.stops.getD j 0 < 0) || decide (y.custs.length ≤ b.stops.getD j 0)) = !custB y (b.stops.getD j 0) := by
   unfold custB
   simp only [Bool.not_and, ← decide_not, Int.not_le, Int.not_lt]
  rw [hbad]
  refine ⟨by omega, fun h => ?_, fun h => ?_⟩
  ·rw [custsB_false (j + 1) (by rw [hnc]; simpa using h) _ hjl]; rfl
  have hcb : custB y (b.stops.getD j 0) = true := by simpa using h
  have hco := custOk_of hcb
  have hco2 : 0 ≤ b.stops.getD j 0 ∧ b.stops.getD j 0 < y.custs.length := hco
  have cb := cust_bd2 gd hco
  have htm := timeAt_bd gd st.node (1 + y.sats.length + b.stops.getD j 0)
  have hmx : ftAt y st (b.stops.getD j 0) = max (st.now + timeAt y st.node (1 + y.sats.length + b.stops.getD j 0)) (custD y (b.stops.getD j 0)).opn := rfl
  have hgd : (decide ((custD y (b.stops.getD j 0)).cls < ftAt y st (b.stops.getD j 0)) || decide (st.left - (custD y (b.stops.getD j 0)).load < 0)) = !ftGood y st (b.stops.getD j 0) := by
   unfold ftGood
   simp only [Bool.not_and, ← decide_not, Int.not_le]
  have hmb : 0 ≤ ftAt y st (b.stops.getD j 0) ∧ ftAt y st (b.stops.getD j 0) ≤ 1200000000000 := by rw [hmx]; omega
  refine ⟨hco, b1, by omega, ?_⟩
  refine callK_e (customer_p y hco gd) ⟨trivial, trivial, trivial⟩ rfl (fun r h => by subst h; rfl) ?_
  rintro r rfl
  simp -implicitDefEqProofs only [go_sem, ↓reduceIte, reduceCtorEq, Nat.reduceAdd, Nat.reduceLT, Nat.reduceEqDiff, Nat.reduceMul, Nat.reduceLeDiff, Nat.reduceSub]
  rw [← hmx, hgd]
  refine ⟨by omega, by omega, fun h => ?_, fun h => ⟨by omega, ?_⟩⟩
  ·rw [if_neg (by simpa using h)] at hnx
   unfold ftEnd
   rw [ftUp_none (j + 1) hnx _ hjl, Bool.and_false]
  ·rw [if_pos (by simpa using h)] at hnx
   refine callK_e (customer_p y hco gd) ⟨trivial, trivial, trivial⟩ rfl (fun r h => by subst h; rfl) ?_
   rintro r rfl
   simp -implicitDefEqProofs only [go_sem, ↓reduceIte, reduceCtorEq, Nat.reduceAdd, Nat.reduceLT, Nat.reduceEqDiff, Nat.reduceMul, Nat.reduceLeDiff, Nat.reduceSub]
   exact ⟨by omega, (j + 1, ftStep y st (b.stops.getD j 0)), ⟨by omega, hnx, by rw [hnc]; exact hcb⟩, rfl, by omega⟩
 ·obtain rfl : j = b.stops.length := by omega
  have htm := timeAt_bd gd st.node (1 + b.sat)
  refine ⟨b1, ?_⟩
  refine callK_e (sat_p y (by omega)) ⟨trivial, trivial, trivial⟩ rfl (fun r h => by subst h; rfl) ?_
  rintro r rfl
  simp -implicitDefEqProofs only [go_sem, ↓reduceIte, reduceCtorEq, Nat.reduceAdd, Nat.reduceLT, Nat.reduceEqDiff, Nat.reduceMul, Nat.reduceLeDiff, Nat.reduceSub]
  refine ⟨by omega, by omega, ?_⟩
  unfold ftEnd
  rw [hcj, hu]; rfl
def lH (id : Nat) : List Int → AV
 | [] => .nils
 | l => .h id 0 l.length
def lR : List Int → Root
 | [] => .dead
 | l => .live false 2 1 (.ints .i64 l)
theorem nodes_p {x : InstD} (g : Good x) : PCall Tryz.prog 73 [.agg (eInst x)] (fun r => r = .c (I6 (nodes x))) := by
 refine pcall_of ty_ok (by kernel_rfl) (fun _ => ([], 0, none)) Tryz.func73 rfl (by kernel_rfl) Tryz.ntmps73 (congrArg Array.toList Tryz.results73) (by kernel_rfl) (by simp) ?_
 simp -implicitDefEqProofs only [go_sem, ↓reduceIte, reduceCtorEq, Nat.reduceAdd, Nat.reduceLT, Nat.reduceEqDiff, Nat.reduceMul, Nat.reduceLeDiff, Nat.reduceSub, eInst]
 have := g.sats; have := g.custs
 refine ⟨by omega, by omega, ?_⟩
 show RV.c (I6 _) = RV.c (I6 ((1 + x.sats.length + x.custs.length : Nat) : Int))
 congr 2 <;> omega
def belowB (n m : Nat) : List Bool := (List.range n).map fun i => decide (i < m)
theorem belowB_set {n k : Nat} (h : k < n) : (belowB n k).set k true = belowB n (k + 1) := by
 apply List.ext_getElem
 ·simp [belowB]
 ·intro i h1 h2
  simp only [belowB, List.getElem_set, List.getElem_map, List.getElem_range]
  by_cases e : k = i
  ·subst e; simp
  ·rw [if_neg e]; exact decide_eq_decide.2 (by omega)
theorem belowB_zero (n : Nat) : belowB n 0 = List.replicate n false := by
 apply List.ext_getElem
 ·simp [belowB]
 ·intro i h1 h2; simp [belowB]
theorem belowB_len (n m : Nat) : (belowB n m).length = n := by simp [belowB]
def readyD (x : InstD) (D : Nat → Nat → Int) (k : Nat) : List Int := (List.range k).map fun s => D 0 (1 + s) + (satN x s).hold
theorem readyD_succ (x : InstD) (D : Nat → Nat → Int) (k : Nat) : readyD x D (k + 1) = readyD x D k ++ [D 0 (1 + k) + (satN x k).hold] := by simp [readyD, List.range_succ]
theorem readyD_len (x : InstD) (D : Nat → Nat → Int) (k : Nat) : (readyD x D k).length = k := by simp [readyD]
theorem readies_p {y : InstD} (hy : YOk y) : PCall Tryz.prog 34 [.agg (eInst y)] (fun r => ∃ D, ApartOf (nodes y) y.time (List.replicate (nodes y) 0) (belowB (nodes y) (1 + y.sats.length)) D ∧ r = .c (eInts (readyD y D y.sats.length))) := by
 have gd := good_of hy.chk
 have hs1 := gd.sats; have hc1 := gd.custs
 have hnd : nodes y = 1 + y.sats.length + y.custs.length := rfl
 refine pcall_of ty_ok (by kernel_rfl) (fun n => match n with | 8 => ([0,1,2,4,3,5,6], 0, none) | 13 => ([], 2, none) | _ => ([], 0, none)) Tryz.func34 rfl (by kernel_rfl) Tryz.ntmps34 (congrArg Array.toList Tryz.results34) (by kernel_rfl) (by simp) ?_
 simp -implicitDefEqProofs only [go_sem, ↓reduceIte, reduceCtorEq, Nat.reduceAdd, Nat.reduceLT, Nat.reduceEqDiff, Nat.reduceMul, Nat.reduceLeDiff, Nat.reduceSub, eInst]
 refine callK_e (nodes_p gd) (by simp -implicitDefEqProofs only [go_sem, ↓reduceIte, reduceCtorEq, Nat.reduceAdd, Nat.reduceLT, Nat.reduceEqDiff, Nat.reduceMul, Nat.reduceLeDiff, Nat.reduceSub]) rfl (fun r h => by subst h; rfl) ?_
 rintro r rfl
 simp -implicitDefEqProofs only [go_sem, ↓reduceIte, reduceCtorEq, Nat.reduceAdd, Nat.reduceLT, Nat.reduceEqDiff, Nat.reduceMul, Nat.reduceLeDiff, Nat.reduceSub]
 refine ⟨by omega, by omega, ?_⟩
 refine awp_loop (ι := Nat) [1, 3, 4, 17] [18] (fun k => k ≤ 1 + y.sats.length) (fun k => [.c (I6 k)]) (fun k => [.live false 57 9 (.box (eInst y)), .live false 4 1 (.bools (belowB (nodes y) k))]) (fun k => 1 + y.sats.length - k) (by kernel_rfl) ⟨0, Nat.zero_le _, rfl, by rw [belowB_zero]; rfl⟩ (fun k _ => ⟨rfl, rfl, rfl, rfl⟩) ?_
 intro k hk
 simp -implicitDefEqProofs only [go_sem, ↓reduceIte, reduceCtorEq, Nat.reduceAdd, Nat.reduceLT, Nat.reduceEqDiff, Nat.reduceMul, Nat.reduceLeDiff, Nat.reduceSub, eInst]
 refine ⟨fun h => ⟨by rw [belowB_len]; omega, by rw [belowB_len]; omega, by omega, k + 1, by omega, rfl, by rw [belowB_set (by omega)], by omega⟩, fun h => ⟨by omega, ?_⟩⟩
 obtain rfl : k = 1 + y.sats.length := by omega
 have hrep : ∀ i, (List.replicate (nodes y) (0 : Int)).getD i 0 = 0 := fun i => by
  rw [List.getD_eq_getElem?_getD, List.getElem?_replicate]
  split <;> rfl
 have htb : ∀ i k, 0 ≤ tAt y.time i k ∧ tAt y.time i k ≤ 1099511627776 := fun i k => by
  have := timeAt_bd gd (i : Int) (k : Int)
  unfold timeAt at this
  unfold tAt
  simp only [Int.toNat_natCast] at this
  omega
 refine callK_f (apart_p (n := nodes y) (T := y.time) (st := List.replicate (nodes y) 0) (inn := belowB (nodes y) (1 + y.sats.length)) ⟨gd.timeL, gd.timeR⟩ (fun r hr v hv => by have := gd.time r hr v hv; unfold wf64; omega) (by simp) (belowB_len _ _) (by omega) htb (fun i => by rw [hrep]; omega) (fun v hv => by rw [List.eq_of_mem_replicate hv]; unfold wf64; omega)) (by simp -implicitDefEqProofs only [go_sem, ↓reduceIte, reduceCtorEq, Nat.reduceAdd, Nat.reduceLT, Nat.reduceEqDiff, Nat.reduceMul, Nat.reduceLeDiff, Nat.reduceSub, belowB_len, List.length_replicate]) ⟨_, _, rfl, .inl rfl, _, _, rfl, .inl ?_, _, _, rfl, .inl ?_, rfl⟩ ?_
 ·show RV.c (.sl (nodes y) 1 fun i j => Row.get (.ints .i64 (List.replicate (nodes y) 0)) (0 + i) j) = RV.c (.sl (List.replicate (nodes y) (0 : Int)).length 1 fun i _ => I6 ((List.replicate (nodes y) 0).getD i 0))
  rw [List.length_replicate]
  simp only [Row.get, Nat.zero_add]
 ·show RV.c (.sl (nodes y) 1 fun i j => Row.get (.bools (belowB (nodes y) (1 + y.sats.length))) (0 + i) j) = RV.c (.sl (belowB (nodes y) (1 + y.sats.length)).length 1 fun i _ => .bool ((belowB (nodes y) (1 + y.sats.length)).getD i false))
  rw [belowB_len]
  simp only [Row.get, Nat.zero_add]
 rintro r ⟨D, hD, rfl⟩
 simp -implicitDefEqProofs only [go_sem, ↓reduceIte, reduceCtorEq, Nat.reduceAdd, Nat.reduceLT, Nat.reduceEqDiff, Nat.reduceMul, Nat.reduceLeDiff, Nat.reduceSub]
 refine awp_loop2 (ι := Nat) 1 [6, 32, 33] [7, 34] (fun k => k ≤ y.sats.length) (fun k => [.c (lH 3 (readyD y D k)), .c (I6 k)]) (fun k => [.live false 57 9 (.box (eInst y)), .live true 4 1 (.bools (belowB (nodes y) (1 + y.sats.length))), .live true 2 1 (.ints .i64 (List.replicate (nodes y) 0)), lR (readyD y D k)]) (fun k => y.sats.length - k) (by kernel_rfl) ⟨0, Nat.zero_le _, rfl, rfl⟩ (fun k _ => rfl) ?_
 intro k hk
 have hsc := readyD_succ y D k
 have hln := readyD_len y D k
 have hb := fun h : k < y.sats.length => hD.bnd 0 (1 + k) (by omega) (by omega)
 have hh := hold_bd gd (k : Int)
 rw [show holdOf y (k : Int) = (satN y k).hold from rfl] at hh
 generalize hl : readyD y D k = l at hsc hln
 have hk1 : (1 + (k : Int)).toNat = 1 + k := by omega
 rcases l with _ | ⟨v, l⟩
 all_goals
  simp -implicitDefEqProofs only [go_sem, ↓reduceIte, reduceCtorEq, Nat.reduceAdd, Nat.reduceLT, Nat.reduceEqDiff, Nat.reduceMul, Nat.reduceLeDiff, Nat.reduceSub, eInst, lH, lR, hk1]
  refine ⟨fun h => ?_, fun h => ?_⟩
 ·have hb := hb (by omega)
  refine ⟨by omega, by omega, by omega, by omega, by omega, by omega, k + 1, [6], by omega, ⟨rfl, rfl⟩, ?_, ?_, by omega⟩
  ·rw [hsc]; rfl
  ·rw [hsc]; rfl
 ·simp only [List.length_nil] at hln; omega
 ·have hb := hb (by omega)
  simp only [List.length_cons] at hln
  refine ⟨by omega, by omega, by omega, by omega, by omega, by omega, by omega, k + 1, [3], by omega, ⟨rfl, rfl⟩, ?_, ?_, by omega⟩
  ·rw [hsc]; simp only [List.cons_append, List.length_cons, List.length_append, List.length_nil]; rfl
  ·rw [hsc]; rfl
 ·obtain rfl : k = y.sats.length := by omega
  rw [← hl]
  refine ⟨_, ?_, D, hD, rfl⟩
  rw [hl]
  exact ⟨_, rfl, .inl rfl⟩
theorem law_of {P : Program} {f : FuncId} {args : List RV} {w : World} {vs : List Value} (h : PCall P f args (fun r => r = .c (.bool true))) (hc : Con0RL (fun b => b < w.heap.size) w args vs) : Calls P f vs.toArray w fun e w' => e = .returned (.bool true) ∧ Below w.heap.size w w' := by
 refine (h.2 _ w vs glob_triv (fun _ h => h) hc).mono ?_
 rintro e w' ⟨r, v, rho', rfl, rfl, h1, -, h2⟩
 obtain rfl : v = .bool true := h1
 exact ⟨rfl, h2⟩
theorem fld_bikes (a b : AV) : fldV Tryz.prog 37 1 (.agg [a, b]) = some (.c b) := by kernel_rfl
theorem fillFits_p {s : SmallD} {wi : WishD} {what at_ : Nat} {by_ : Int} {ready : List Int} {early : Bool} (hs : SmallK s) (hw : WishK wi) (hwh : what ≤ 255) (hat : at_ ≤ 255) (hby : -128 ≤ by_ ∧ by_ ≤ 127) :
  PCall Tryz.prog 8 [.agg (eSmall s), .agg (eWish wi), .c (.int .u8 what), .c (.int .u8 at_), .c (.int .i8 by_), .c (eInts ready), .c (.bool early)] (fun r => r = .c (.bool true)) := by
 refine pcall_of ty_ok (by kernel_rfl) (fun n => match n with | 17 => ([0,1,2,4,3,5,6,7,8,9,10,11,12,13,14,15], 0, none) | _ => ([], 0, none)) Tryz.func8 rfl (by kernel_rfl) Tryz.ntmps8 (congrArg Array.toList Tryz.results8) (by kernel_rfl) (by simp) ?_
 simp -implicitDefEqProofs only [go_sem, ↓reduceIte, reduceCtorEq, Nat.reduceAdd, Nat.reduceLT, Nat.reduceEqDiff, Nat.reduceMul, Nat.reduceLeDiff, Nat.reduceSub, eSmall, eWish]
 refine callK_e awake21_p trivial rfl (fun r h => by subst h; rfl) ?_
 rintro r rfl
 simp -implicitDefEqProofs only [go_sem, ↓reduceIte, reduceCtorEq, Nat.reduceAdd, Nat.reduceLT, Nat.reduceEqDiff, Nat.reduceMul, Nat.reduceLeDiff, Nat.reduceSub, eq_self, not_true_eq_false, not_false_eq_true, decide_false, decide_true, Bool.not_false, Bool.not_true, Bool.or_false, Bool.false_or, Bool.true_or, Bool.or_true, Bool.and_true, Bool.true_and, Bool.false_and, Bool.and_false, true_implies]
 refine fun hl => ?_
 refine callK_p (make_p hs) (by simp -implicitDefEqProofs only [go_sem, ↓reduceIte, reduceCtorEq, Nat.reduceAdd, Nat.reduceLT, Nat.reduceEqDiff, Nat.reduceMul, Nat.reduceLeDiff, Nat.reduceSub]) rfl rfl ?_
 rintro r rfl
 have hy := make_y hs
 generalize makeD s = y at hy
 simp -implicitDefEqProofs only [go_sem, ↓reduceIte, reduceCtorEq, Nat.reduceAdd, Nat.reduceLT, Nat.reduceEqDiff, Nat.reduceMul, Nat.reduceLeDiff, Nat.reduceSub, eInst]
 have gd := good_of hy.chk
 have hs1 := gd.sats; have hc1 := gd.custs
 have hf := draft_small wi hy.ns hy.nc hy.ld hy.troom
 have hsb := spoil_bikes hf what at_ hby
 refine ⟨fun he => callK_p (readies_p hy) (by simp -implicitDefEqProofs only [go_sem, ↓reduceIte, reduceCtorEq, Nat.reduceAdd, Nat.reduceLT, Nat.reduceEqDiff, Nat.reduceMul, Nat.reduceLeDiff, Nat.reduceSub]) rfl rfl ?_, fun he => ?_⟩
 rotate_left
 have hrl : ready.length ≤ 1000000 := by omega
 generalize ready = rd at *
 rotate_left
 rintro r ⟨D, -, rfl⟩
 have hrl : (readyD y D y.sats.length).length ≤ 1000000 := by rw [readyD_len]; omega
 generalize readyD y D y.sats.length = rd at hrl ⊢
 all_goals
  (try simp -implicitDefEqProofs only [go_sem, ↓reduceIte, reduceCtorEq, Nat.reduceAdd, Nat.reduceLT, Nat.reduceEqDiff, Nat.reduceMul, Nat.reduceLeDiff, Nat.reduceSub])
  refine callK_p (draft_p hy hw) (by simp -implicitDefEqProofs only [go_sem, ↓reduceIte, reduceCtorEq, Nat.reduceAdd, Nat.reduceLT, Nat.reduceEqDiff, Nat.reduceMul, Nat.reduceLeDiff, Nat.reduceSub]) rfl rfl ?_
  rintro r rfl
  refine callK_p (spoilt_p hy wi hwh hat hby) (by simp -implicitDefEqProofs only [go_sem, ↓reduceIte, reduceCtorEq, Nat.reduceAdd, Nat.reduceLT, Nat.reduceEqDiff, Nat.reduceMul, Nat.reduceLeDiff, Nat.reduceSub, ePlan]) rfl rfl ?_
  rintro r rfl
  generalize spoiltD (draftD y wi) what at_ by_ = p at hsb
  simp -implicitDefEqProofs only [go_sem, ↓reduceIte, reduceCtorEq, Nat.reduceAdd, Nat.reduceLT, Nat.reduceEqDiff, Nat.reduceMul, Nat.reduceLeDiff, Nat.reduceSub, ePlan, fld_bikes]
  refine awp_loop (ι := Nat) [5, 15, 38, 39] [40] (fun k => k ≤ p.bikes.length) (fun k => [.c (I6 k)]) (fun _ => _) (fun k => p.bikes.length - k) (by kernel_rfl) ⟨0, Nat.zero_le _, rfl, rfl⟩ (fun k _ => ⟨rfl, rfl, rfl, rfl⟩) ?_
  intro k hk
  simp -implicitDefEqProofs only [go_sem, ↓reduceIte, reduceCtorEq, Nat.reduceAdd, Nat.reduceLT, Nat.reduceEqDiff, Nat.reduceMul, Nat.reduceLeDiff, Nat.reduceSub]
  refine fun h => ?_
  have hlt : k < p.bikes.length := by omega
  obtain ⟨-, hbl, -⟩ := hsb.2 _ (mem_getD hlt ⟨0, []⟩)
  have hbl : (bikN p k).stops.length ≤ 200 := hbl
  generalize bikN p k = b at hbl ⊢
  refine ⟨by omega, fun h1 h2 h3 => by omega, fun h1 h2 h3 _ => by omega, ?_⟩
  refine awp_loop (ι := Nat) [5, 15, 17, 38, 39, 40, 79, 80] [18, 81] (fun j => j ≤ b.stops.length) (fun j => [.c (.bool (ftThere y rd b && custsB y b j)), .c (I6 j)]) (fun _ => _) (fun j => b.stops.length - j) (by kernel_rfl) ⟨0, Nat.zero_le _, by simp [gets, lk, tvals, ftThere, custsB, outOf, Bool.and_assoc], rfl⟩ (fun k _ => ⟨rfl, rfl, rfl, rfl⟩) ?_
  intro j hj
  have hcs : custsB y b (j + 1) = (custsB y b j && custB y (b.stops.getD j 0)) := rfl
  simp -implicitDefEqProofs only [go_sem, ↓reduceIte, reduceCtorEq, Nat.reduceAdd, Nat.reduceLT, Nat.reduceEqDiff, Nat.reduceMul, Nat.reduceLeDiff, Nat.reduceSub]
  refine ⟨fun h => ⟨by omega, by omega, j + 1, by omega, ?_, by omega⟩, fun h => ?_⟩
  ·rw [hcs]; simp [custB, Bool.and_assoc]
  obtain rfl : j = b.stops.length := by omega
  have hfp : fitsP y rd b = (ftThere y rd b && custsB y b b.stops.length && ftEnd y b (outOf rd b)) := by unfold fitsP; rw [Bool.and_assoc]
  refine callK_e (fits_p hy hrl (by omega)) (by simp -implicitDefEqProofs only [go_sem, ↓reduceIte, reduceCtorEq, Nat.reduceAdd, Nat.reduceLT, Nat.reduceEqDiff, Nat.reduceMul, Nat.reduceLeDiff, Nat.reduceSub]) rfl (fun r h => by subst h; rfl) ?_
  rintro r rfl
  rw [hfp]
  cases hT : ftThere y rd b && custsB y b b.stops.length with
  | false =>
   simp -implicitDefEqProofs only [go_sem, ↓reduceIte, reduceCtorEq, Nat.reduceAdd, Nat.reduceLT, Nat.reduceEqDiff, Nat.reduceMul, Nat.reduceLeDiff, Nat.reduceSub, eq_self, not_true_eq_false, not_false_eq_true, decide_false, decide_true, Bool.not_false, Bool.not_true, Bool.or_false, Bool.false_or, Bool.true_or, Bool.or_true, Bool.and_true, Bool.true_and, Bool.false_and, Bool.and_false, true_implies]
   exact ⟨fun h => absurd h (by decide), fun _ => ⟨by omega, k + 1, by omega, rfl, by omega⟩⟩
  | true =>
   rw [Bool.and_eq_true] at hT
   obtain ⟨hth, hcu⟩ := hT
   unfold ftThere at hth
   simp only [Bool.and_eq_true, decide_eq_true_eq] at hth
   obtain ⟨h1, h2, h3, h4⟩ := hth
   simp -implicitDefEqProofs only [go_sem, ↓reduceIte, reduceCtorEq, Nat.reduceAdd, Nat.reduceLT, Nat.reduceEqDiff, Nat.reduceMul, Nat.reduceLeDiff, Nat.reduceSub, eq_self, not_true_eq_false, not_false_eq_true, decide_false, decide_true, Bool.not_false, Bool.not_true, Bool.or_false, Bool.false_or, Bool.true_or, Bool.or_true, Bool.and_true, Bool.true_and, Bool.false_and, Bool.and_false, true_implies, show rd.getD b.sat.toNat 0 = outOf rd b from rfl]
   refine ⟨by omega, ?_⟩
   refine callK_e (fitsL_p gd ⟨h1, h2⟩ h4 hcu (by omega)) (by simp -implicitDefEqProofs only [go_sem, ↓reduceIte, reduceCtorEq, Nat.reduceAdd, Nat.reduceLT, Nat.reduceEqDiff, Nat.reduceMul, Nat.reduceLeDiff, Nat.reduceSub]) rfl (fun r h => by subst h; rfl) ?_
   rintro r rfl
   simp -implicitDefEqProofs only [go_sem, ↓reduceIte, reduceCtorEq, Nat.reduceAdd, Nat.reduceLT, Nat.reduceEqDiff, Nat.reduceMul, Nat.reduceLeDiff, Nat.reduceSub, eq_self, not_true_eq_false, not_false_eq_true, decide_false, decide_true, Bool.not_false, Bool.not_true, Bool.or_false, Bool.false_or, Bool.true_or, Bool.or_true, Bool.and_true, Bool.true_and, Bool.false_and, Bool.and_false, true_implies, selB]
   generalize ftEnd y b (outOf rd b) = z
   cases z
   ·exact ⟨fun h => absurd h (by decide), fun _ => ⟨by omega, k + 1, by omega, rfl, by omega⟩⟩
   ·exact ⟨fun h => absurd h (by decide), fun _ => ⟨by omega, k + 1, by omega, rfl, by omega⟩⟩
theorem fillFits_c {w : World} {F G H : Nat → Prop} {s : SmallD} {wi : WishD} {ready : List Int} {cs1 cs2 : List Value} {v : Value} {what at_ : Nat} {by_ : Int} {early : Bool} (h1 : smallS.rep w F s cs1) (h2 : wishS.rep w G wi cs2) (h3 : (sliceS intS).rep w H ready [v]) (hwh : what ≤ 255) (hat : at_ ≤ 255) (hby : -128 ≤ by_ ∧ by_ ≤ 127) :
  Calls Tryz.prog 8 #[.agg cs1.toArray, .agg cs2.toArray, .int .u8 (what : Int), .int .u8 (at_ : Int), .int .i8 by_, v, .bool early] w fun e w' => e = .returned (.bool true) ∧ Below w.heap.size w w' :=
 law_of (vs := [.agg cs1.toArray, .agg cs2.toArray, .int .u8 (what : Int), .int .u8 (at_ : Int), .int .i8 by_, v, .bool early]) (fillFits_p (ready := ready) (early := early) (small_k h1) (wish_k h2) hwh hat hby) ⟨_, _, rfl, ⟨_, rfl, small_f (smallS.old h1)⟩, _, _, rfl, ⟨_, rfl, wish_f (wishS.old h2)⟩, _, _, rfl, rfl, _, _, rfl, rfl, _, _, rfl, rfl, _, _, rfl, fs (e := fun x _ => I6 x) (0 : Int) int_f ((sliceS intS).old h3), _, _, rfl, rfl, rfl⟩
end Go.Proofs.YtabadfkikdefeaaGreat.Ab
