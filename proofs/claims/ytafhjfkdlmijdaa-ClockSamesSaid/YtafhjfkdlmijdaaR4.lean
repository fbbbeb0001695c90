/- wharfagelaw18.ClockSames answers true, by the abstract machine. -/
import Derived.Test.YtafhjfkdlmijdaaR3
set_option linter.all false
namespace Go.Proofs.Ytafhjfkdlmijdaa.Ab
open Go.RowKit
set_option maxRecDepth 100000
set_option linter.unusedSimpArgs false
set_option maxHeartbeats 2000000
theorem soon_tmsL {x : InstD} {p : PlanD} (h : SoonOk x p) : TmsWf (soonD x p) := tms_wf (soon_wf h)
theorem clockSames_p {a b : TimesD} {s : SmallD} {wi : WishD} {m : List Int × Int} (ha : TmsWf a) (hb : TmsWf b) (la : a.trucks.length ≤ 140737488355328 ∧ a.bikes.length ≤ 140737488355328) (lb : b.trucks.length ≤ 140737488355328 ∧ b.bikes.length ≤ 140737488355328) (hs : SmallK s) (hw : WishK wi) (hm : SlackK m.1 m.2) :
  PCall Try.prog 12 [.agg (eTimes a), .agg (eTimes b), .agg (eSmall s), .agg (eWish wi), .agg (eSlack m)] (fun r => r = .c (.bool true)) := by
 refine pcall_of ty_ok (by kernel_rfl) (fun n => match n with | 9 => ([0,1,3,4,2,5,6,7,8,9,11,12,10,13,14,15,16,17,18,19,20,21,22,23], 0, none) | _ => ([], 0, none)) Try.func12 rfl (by kernel_rfl) Try.ntmps12 (congrArg Array.toList Try.results12) (by kernel_rfl) (by simp) ?_
 simp -implicitDefEqProofs only [go_sem, ↓reduceIte, reduceCtorEq, Nat.reduceAdd, Nat.reduceLT, Nat.reduceEqDiff, Nat.reduceMul, Nat.reduceLeDiff, Nat.reduceSub, eTimes, eSmall, eWish, eSlack]
 refine callK_e awake18_p trivial rfl (fun r h => by subst h; rfl) ?_
 rintro r rfl
 simp -implicitDefEqProofs only [go_sem, ↓reduceIte, reduceCtorEq, Nat.reduceAdd, Nat.reduceLT, Nat.reduceEqDiff, Nat.reduceMul, Nat.reduceLeDiff, Nat.reduceSub]
 intro _
 refine ⟨by omega, by omega, by omega, fun _ => ?_⟩
 refine callK_p (make_p hs) (by simp -implicitDefEqProofs only [go_sem, ↓reduceIte, reduceCtorEq, Nat.reduceAdd, Nat.reduceLT, Nat.reduceEqDiff, Nat.reduceMul, Nat.reduceLeDiff, Nat.reduceSub]) rfl rfl ?_
 rintro r rfl
 have hy := make_y hs
 generalize makeD s = y at hy
 simp -implicitDefEqProofs only [go_sem, ↓reduceIte, reduceCtorEq, Nat.reduceAdd, Nat.reduceLT, Nat.reduceEqDiff, Nat.reduceMul, Nat.reduceLeDiff, Nat.reduceSub, eInst]
 refine callK_p (draft_p hy hw) (by simp -implicitDefEqProofs only [go_sem, ↓reduceIte, reduceCtorEq, Nat.reduceAdd, Nat.reduceLT, Nat.reduceEqDiff, Nat.reduceMul, Nat.reduceLeDiff, Nat.reduceSub]) rfl rfl ?_
 rintro r rfl
 have hsk := draft_soon hy wi
 generalize draftD y wi = p at hsk
 simp -implicitDefEqProofs only [go_sem, ↓reduceIte, reduceCtorEq, Nat.reduceAdd, Nat.reduceLT, Nat.reduceEqDiff, Nat.reduceMul, Nat.reduceLeDiff, Nat.reduceSub, ePlan]
 refine callK_p (soon_m hsk) (by simp -implicitDefEqProofs only [go_sem, ↓reduceIte, reduceCtorEq, Nat.reduceAdd, Nat.reduceLT, Nat.reduceEqDiff, Nat.reduceMul, Nat.reduceLeDiff, Nat.reduceSub]) rfl rfl ?_
 rintro r rfl
 have ht := soon_tmsL hsk
 have htl := (tmsB_of hsk).tl
 have htb := (tmsB_of hsk).bl
 simp -implicitDefEqProofs only [go_sem, ↓reduceIte, reduceCtorEq, Nat.reduceAdd, Nat.reduceLT, Nat.reduceEqDiff, Nat.reduceMul, Nat.reduceLeDiff, Nat.reduceSub, eTimes]
 refine callK_mv hsk hm (by simp -implicitDefEqProofs only [go_sem, ↓reduceIte, reduceCtorEq, Nat.reduceAdd, Nat.reduceLT, Nat.reduceEqDiff, Nat.reduceMul, Nat.reduceLeDiff, Nat.reduceSub, eSlack]) rfl rfl ?_
 intro u hu hul hub
 have hso := soon_m hsk
 generalize soonD y p = t at ht htl htb hso
 simp -implicitDefEqProofs only [go_sem, ↓reduceIte, reduceCtorEq, Nat.reduceAdd, Nat.reduceLT, Nat.reduceEqDiff, Nat.reduceMul, Nat.reduceLeDiff, Nat.reduceSub, eTimes]
 refine callK_e (csame_p ha hb ⟨by omega, by omega⟩) (by simp -implicitDefEqProofs only [go_sem, ↓reduceIte, reduceCtorEq, Nat.reduceAdd, Nat.reduceLT, Nat.reduceEqDiff, Nat.reduceMul, Nat.reduceLeDiff, Nat.reduceSub]) rfl (fun r h => by subst h; rfl) ?_
 rintro r rfl
 (try simp -implicitDefEqProofs only [go_sem, ↓reduceIte, reduceCtorEq, Nat.reduceAdd, Nat.reduceLT, Nat.reduceEqDiff, Nat.reduceMul, Nat.reduceLeDiff, Nat.reduceSub, beq_self_eq_true, eq_self, not_true_eq_false, not_false_eq_true, decide_false, decide_true, Bool.not_false, Bool.not_true, Bool.or_false, Bool.false_or, Bool.true_or, Bool.or_true, Bool.and_true, Bool.true_and, Bool.false_and, Bool.and_false, true_implies])
 refine callK_e (same_p ha hb ⟨by omega, by omega⟩) (by simp -implicitDefEqProofs only [go_sem, ↓reduceIte, reduceCtorEq, Nat.reduceAdd, Nat.reduceLT, Nat.reduceEqDiff, Nat.reduceMul, Nat.reduceLeDiff, Nat.reduceSub]) rfl (fun r h => by subst h; rfl) ?_
 rintro r rfl
 (try simp -implicitDefEqProofs only [go_sem, ↓reduceIte, reduceCtorEq, Nat.reduceAdd, Nat.reduceLT, Nat.reduceEqDiff, Nat.reduceMul, Nat.reduceLeDiff, Nat.reduceSub, beq_self_eq_true, eq_self, not_true_eq_false, not_false_eq_true, decide_false, decide_true, Bool.not_false, Bool.not_true, Bool.or_false, Bool.false_or, Bool.true_or, Bool.or_true, Bool.and_true, Bool.true_and, Bool.false_and, Bool.and_false, true_implies])
 refine callK_e (csame_p ht hu ⟨by omega, by omega⟩) (by simp -implicitDefEqProofs only [go_sem, ↓reduceIte, reduceCtorEq, Nat.reduceAdd, Nat.reduceLT, Nat.reduceEqDiff, Nat.reduceMul, Nat.reduceLeDiff, Nat.reduceSub]) rfl (fun r h => by subst h; rfl) ?_
 rintro r rfl
 (try simp -implicitDefEqProofs only [go_sem, ↓reduceIte, reduceCtorEq, Nat.reduceAdd, Nat.reduceLT, Nat.reduceEqDiff, Nat.reduceMul, Nat.reduceLeDiff, Nat.reduceSub, beq_self_eq_true, eq_self, not_true_eq_false, not_false_eq_true, decide_false, decide_true, Bool.not_false, Bool.not_true, Bool.or_false, Bool.false_or, Bool.true_or, Bool.or_true, Bool.and_true, Bool.true_and, Bool.false_and, Bool.and_false, true_implies])
 refine callK_e (same_p ht hu ⟨by omega, by omega⟩) (by simp -implicitDefEqProofs only [go_sem, ↓reduceIte, reduceCtorEq, Nat.reduceAdd, Nat.reduceLT, Nat.reduceEqDiff, Nat.reduceMul, Nat.reduceLeDiff, Nat.reduceSub]) rfl (fun r h => by subst h; rfl) ?_
 rintro r rfl
 (try simp -implicitDefEqProofs only [go_sem, ↓reduceIte, reduceCtorEq, Nat.reduceAdd, Nat.reduceLT, Nat.reduceEqDiff, Nat.reduceMul, Nat.reduceLeDiff, Nat.reduceSub, beq_self_eq_true, eq_self, not_true_eq_false, not_false_eq_true, decide_false, decide_true, Bool.not_false, Bool.not_true, Bool.or_false, Bool.false_or, Bool.true_or, Bool.or_true, Bool.and_true, Bool.true_and, Bool.false_and, Bool.and_false, true_implies])
 refine callK_p hso (by simp -implicitDefEqProofs only [go_sem, ↓reduceIte, reduceCtorEq, Nat.reduceAdd, Nat.reduceLT, Nat.reduceEqDiff, Nat.reduceMul, Nat.reduceLeDiff, Nat.reduceSub]) rfl rfl ?_
 rintro r rfl
 (try simp -implicitDefEqProofs only [go_sem, ↓reduceIte, reduceCtorEq, Nat.reduceAdd, Nat.reduceLT, Nat.reduceEqDiff, Nat.reduceMul, Nat.reduceLeDiff, Nat.reduceSub, eTimes, beq_self_eq_true, eq_self, not_true_eq_false, not_false_eq_true, decide_false, decide_true, Bool.not_false, Bool.not_true, Bool.or_false, Bool.false_or, Bool.true_or, Bool.or_true, Bool.and_true, Bool.true_and, Bool.false_and, Bool.and_false, true_implies])
 refine callK_e (csame_p ht ht ⟨by omega, by omega⟩) (by simp -implicitDefEqProofs only [go_sem, ↓reduceIte, reduceCtorEq, Nat.reduceAdd, Nat.reduceLT, Nat.reduceEqDiff, Nat.reduceMul, Nat.reduceLeDiff, Nat.reduceSub]) rfl (fun r h => by subst h; rfl) ?_
 rintro r rfl
 (try simp -implicitDefEqProofs only [go_sem, ↓reduceIte, reduceCtorEq, Nat.reduceAdd, Nat.reduceLT, Nat.reduceEqDiff, Nat.reduceMul, Nat.reduceLeDiff, Nat.reduceSub, beq_self_eq_true, eq_self, not_true_eq_false, not_false_eq_true, decide_false, decide_true, Bool.not_false, Bool.not_true, Bool.or_false, Bool.false_or, Bool.true_or, Bool.or_true, Bool.and_true, Bool.true_and, Bool.false_and, Bool.and_false, true_implies])
theorem sl_all {α : Type} {S : Shape α} {h0 : 0 < S.sz} {w : World} {F : Nat → Prop} {l : List α} {cs : List Value} {p : α → Prop} (h : (sliceS S h0).rep w F l cs) (hp : ∀ x es, S.rep w F x es → p x) : ∀ x ∈ l, p x := by
 obtain ⟨a, b, off, c, rfl, h1, h2, h3, h4⟩ := h
 intro x hx
 obtain ⟨i, hi, rfl⟩ := List.getElem_of_mem hx
 obtain ⟨es, k1, -⟩ := h4 i hi
 exact hp _ _ k1
theorem ints_k {w : World} {F : Nat → Prop} {l : List Int} {cs : List Value} (h : (sliceS intS).rep w F l cs) : ∀ v ∈ l, wf64 v := sl_all h fun _ _ h => h.2
theorem times_k {w : World} {F : Nat → Prop} {t : TimesD} {cs : List Value} (h : timesS.rep w F t cs) : TmsWf t := by
 obtain ⟨x, y, rfl, h1, h2⟩ := h
 exact ⟨sl_all h1 fun _ _ h => ints_k h, sl_all h2 fun _ _ h => by obtain ⟨v, -, k1, k2, k3⟩ := h; exact ⟨k1, k2, ints_k k3⟩⟩
theorem clockSames_c {w : World} {A B F G S : Nat → Prop} {a b : TimesD} {s : SmallD} {wi : WishD} {m : List Int × Int} {ca cb cs1 cs2 cs3 : List Value} (ha : timesS.rep w A a ca) (hb : timesS.rep w B b cb) (la : a.trucks.length ≤ 140737488355328 ∧ a.bikes.length ≤ 140737488355328) (lb : b.trucks.length ≤ 140737488355328 ∧ b.bikes.length ≤ 140737488355328) (h1 : smallS.rep w F s cs1) (h2 : wishS.rep w G wi cs2) (h3 : slackS.rep w S m cs3) :
  Calls Try.prog 12 #[.agg ca.toArray, .agg cb.toArray, .agg cs1.toArray, .agg cs2.toArray, .agg cs3.toArray] w fun e w' => e = .returned (.bool true) ∧ Below w.heap.size w w' :=
 law_of (vs := [.agg ca.toArray, .agg cb.toArray, .agg cs1.toArray, .agg cs2.toArray, .agg cs3.toArray]) (clockSames_p (times_k ha) (times_k hb) la lb (small_k h1) (wish_k h2) (slack_k h3)) ⟨_, _, rfl, ⟨_, rfl, times_f (timesS.old ha)⟩, _, _, rfl, ⟨_, rfl, times_f (timesS.old hb)⟩, _, _, rfl, ⟨_, rfl, small_f (smallS.old h1)⟩, _, _, rfl, ⟨_, rfl, wish_f (wishS.old h2)⟩, _, _, rfl, ⟨_, rfl, slack_f (slackS.old h3)⟩, rfl⟩
end Go.Proofs.Ytafhjfkdlmijdaa.Ab
