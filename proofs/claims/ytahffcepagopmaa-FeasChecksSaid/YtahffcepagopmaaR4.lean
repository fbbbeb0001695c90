/- wharfagelaw19.FeasChecks answers true, by the abstract machine. -/
import Derived.Test.YtahffcepagopmaaR3
set_option linter.all false
set_option maxRecDepth 100000
set_option maxHeartbeats 6400000
namespace Go.Proofs.Ytahffcepagopmaa.Ab
open Go.RowKit
theorem rz7 {y:ba7} {s:ts7} (hy:YOk y) (hp:POk s.plan) (ht:bu7 s.times):zi7 Try.prog 15 [.agg (qf7 y), .agg (edb7 s)] (fun r=>r = .c (I6 (fr7 y s))):=by
 refine kk7 xy7 (by kernel_rfl) (fun n=>match n with | 8=>([0,1,2,4,5,3,6,7],0,none) | _=>([],0,none)) Try.func15 rfl (by kernel_rfl) Try.ntmps15 (congrArg Array.toList Try.results15) (by kernel_rfl) (by simp) ?_
 obtain ⟨p,t,c⟩:=s
 simp only at hp ht
 simp -implicitDefEqProofs only [go_sem, ↓reduceIte,reduceCtorEq,Nat.reduceAdd,Nat.reduceLT,Nat.reduceEqDiff,Nat.reduceMul,Nat.reduceLeDiff,Nat.reduceSub,qf7,edb7,if7,dd7,List.cons_append,List.nil_append]
 have hcode:=msb7 hy hp
 by_cases hc:ia7 y p = 0
 ·rw [hc] at hcode
  refine rc7 hcode (by simp -implicitDefEqProofs only [go_sem, ↓reduceIte,reduceCtorEq,Nat.reduceAdd,Nat.reduceLT,Nat.reduceEqDiff,Nat.reduceMul,Nat.reduceLeDiff,Nat.reduceSub]) rfl (fun r h=>by subst h; rfl) ?_
  rintro r rfl
  (try simp -implicitDefEqProofs only [go_sem, ↓reduceIte,reduceCtorEq,Nat.reduceAdd,Nat.reduceLT,Nat.reduceEqDiff,Nat.reduceMul,Nat.reduceLeDiff,Nat.reduceSub,eq_self,not_true_eq_false,not_false_eq_true,decide_false,decide_true,Bool.not_false,Bool.not_true,Bool.or_false,Bool.false_or,Bool.true_or,Bool.or_true,Bool.and_true,Bool.true_and,Bool.false_and,Bool.and_false,true_implies])
  have hsk:=iab7 hy hc
  have hv:=qlb7 (t:=t) hc
  have hfd:fr7 y ⟨p,t,c⟩ = if na7 y p t ≠ 0 then na7 y p t else if qw7 y p ≠ c then 14 else 0:=by
   unfold fr7 hh7; rw [if_pos hc]
  refine rc7 (cqb7 (p:=p) (t:=t) ⟨by have:=hsk.tl; omega,by have:=hsk.bl; omega⟩) (by simp -implicitDefEqProofs only [go_sem, ↓reduceIte,reduceCtorEq,Nat.reduceAdd,Nat.reduceLT,Nat.reduceEqDiff,Nat.reduceMul,Nat.reduceLeDiff,Nat.reduceSub]) rfl (fun r h=>by subst h; rfl) ?_
  rintro r rfl
  cases hf:qn7 p t with
  | false =>
   rw [if_pos hf] at hv
   rw [hfd,hv]
   simp -implicitDefEqProofs only [go_sem, ↓reduceIte,reduceCtorEq,Nat.reduceAdd,Nat.reduceLT,Nat.reduceEqDiff,Nat.reduceMul,Nat.reduceLeDiff,Nat.reduceSub,eq_self,not_true_eq_false,not_false_eq_true,decide_false,decide_true,Bool.not_false,Bool.not_true,Bool.or_false,Bool.false_or,Bool.true_or,Bool.or_true,Bool.and_true,Bool.true_and,Bool.false_and,Bool.and_false,true_implies]
   rfl
  | true =>
   rw [if_neg (by rw [hf]; simp)] at hv
   simp -implicitDefEqProofs only [go_sem, ↓reduceIte,reduceCtorEq,Nat.reduceAdd,Nat.reduceLT,Nat.reduceEqDiff,Nat.reduceMul,Nat.reduceLeDiff,Nat.reduceSub,eq_self,not_true_eq_false,not_false_eq_true,decide_false,decide_true,Bool.not_false,Bool.not_true,Bool.or_false,Bool.false_or,Bool.true_or,Bool.or_true,Bool.and_true,Bool.true_and,Bool.false_and,Bool.and_false,true_implies]
   refine rc7 (vcc7 hsk hf (lrb7 ht)) (by simp -implicitDefEqProofs only [go_sem, ↓reduceIte,reduceCtorEq,Nat.reduceAdd,Nat.reduceLT,Nat.reduceEqDiff,Nat.reduceMul,Nat.reduceLeDiff,Nat.reduceSub]) rfl (fun r h=>by subst h; rfl) ?_
   rintro r rfl
   cases hcn:jvb7 y p t with
   | false =>
    rw [if_pos hcn] at hv
    rw [hfd,hv]
    simp -implicitDefEqProofs only [go_sem, ↓reduceIte,reduceCtorEq,Nat.reduceAdd,Nat.reduceLT,Nat.reduceEqDiff,Nat.reduceMul,Nat.reduceLeDiff,Nat.reduceSub,eq_self,not_true_eq_false,not_false_eq_true,decide_false,decide_true,Bool.not_false,Bool.not_true,Bool.or_false,Bool.false_or,Bool.true_or,Bool.or_true,Bool.and_true,Bool.true_and,Bool.false_and,Bool.and_false,true_implies]
    rfl
   | true =>
    rw [if_neg (by rw [hcn]; simp)] at hv
    rw [hfd,hv]
    simp -implicitDefEqProofs only [go_sem, ↓reduceIte,reduceCtorEq,Nat.reduceAdd,Nat.reduceLT,Nat.reduceEqDiff,Nat.reduceMul,Nat.reduceLeDiff,Nat.reduceSub,eq_self,not_true_eq_false,not_false_eq_true,decide_false,decide_true,Bool.not_false,Bool.not_true,Bool.or_false,Bool.false_or,Bool.true_or,Bool.or_true,Bool.and_true,Bool.true_and,Bool.false_and,Bool.and_false,true_implies]
    refine rc7 (lhb7 hsk hp.small) (by simp -implicitDefEqProofs only [go_sem, ↓reduceIte,reduceCtorEq,Nat.reduceAdd,Nat.reduceLT,Nat.reduceEqDiff,Nat.reduceMul,Nat.reduceLeDiff,Nat.reduceSub]) rfl (fun r h=>by subst h; rfl) ?_
    rintro r rfl
    (try simp -implicitDefEqProofs only [go_sem, ↓reduceIte,reduceCtorEq,Nat.reduceAdd,Nat.reduceLT,Nat.reduceEqDiff,Nat.reduceMul,Nat.reduceLeDiff,Nat.reduceSub,eq_self,not_true_eq_false,not_false_eq_true,decide_false,decide_true,Bool.not_false,Bool.not_true,Bool.or_false,Bool.false_or,Bool.true_or,Bool.or_true,Bool.and_true,Bool.true_and,Bool.false_and,Bool.and_false,true_implies])
    by_cases he:qw7 y p = c
    ·simp [he]
    ·simp [he]
 ·refine rc7 hcode (by simp -implicitDefEqProofs only [go_sem, ↓reduceIte,reduceCtorEq,Nat.reduceAdd,Nat.reduceLT,Nat.reduceEqDiff,Nat.reduceMul,Nat.reduceLeDiff,Nat.reduceSub]) rfl (fun r h=>by subst h; rfl) ?_
  rintro r rfl
  have hfd:fr7 y ⟨p,t,c⟩ = ia7 y p:=by
   have:na7 y p t = ia7 y p:=by unfold na7; rw [if_pos hc]
   unfold fr7; simp only [this]; rw [if_pos hc]
  rw [hfd]
  (try simp -implicitDefEqProofs only [go_sem, ↓reduceIte,reduceCtorEq,Nat.reduceAdd,Nat.reduceLT,Nat.reduceEqDiff,Nat.reduceMul,Nat.reduceLeDiff,Nat.reduceSub,hc,eq_self,not_true_eq_false,not_false_eq_true,decide_false,decide_true,Bool.not_false,Bool.not_true,Bool.or_false,Bool.false_or,Bool.true_or,Bool.or_true,Bool.and_true,Bool.true_and,Bool.false_and,Bool.and_false,true_implies])
theorem vx7 (p:sa7) (c:Int):cyb7 [.sl p.trucks.length 1 (fun i _=>cu7 (tc7 p i)), .sl p.bikes.length 2 (fun i=>ix2 (I6 (sc7 p i).sat) (bi7 (sc7 p i).stops)), .nils, .nils,I6 c] (edb7 ⟨p,⟨[],[]⟩,c⟩) :=
 ⟨_,_,rfl, .inl rfl,_,_,rfl, .inl rfl,_,_,rfl, .inr (.inr ⟨_,_,rfl⟩),_,_,rfl, .inr (.inr ⟨_,_,rfl⟩),_,_,rfl, .inl rfl,rfl⟩
theorem nbb7 {s:wb7} {wi:uf7} {what at_:Nat} {by_ cost:Int} {m:List Int × Int} (hs:SmallK s) (hw:xpb7 wi) (hwh:what ≤ 255) (hat:at_ ≤ 255) (hby : -128 ≤ by_ ∧ by_ ≤ 127) (hm:nhb7 m.1 m.2) (hco:ua7 cost) :
  zi7 Try.prog 4 [.agg (scb7 s), .agg (hnb7 wi), .c (.int .u8 what), .c (.int .u8 at_), .c (.int .i8 by_), .agg (ucb7 m), .c (I6 cost)] (fun r=>r = .c (.bool true)):=by
 refine kk7 xy7 (by kernel_rfl) (fun n=>match n with | 7=>([0,1,3,2,4,5,6],1,none) | 10=>([0,1,3,4,2,5,6,7],0,none) | _=>([],0,none)) Try.func4 rfl (by kernel_rfl) Try.ntmps4 (congrArg Array.toList Try.results4) (by kernel_rfl) (by simp) ?_
 simp -implicitDefEqProofs only [go_sem, ↓reduceIte,reduceCtorEq,Nat.reduceAdd,Nat.reduceLT,Nat.reduceEqDiff,Nat.reduceMul,Nat.reduceLeDiff,Nat.reduceSub,scb7,hnb7,ucb7]
 refine rc7 ujb7 trivial rfl (fun r h=>by subst h; rfl) ?_
 rintro r rfl
 (try simp -implicitDefEqProofs only [go_sem, ↓reduceIte,reduceCtorEq,Nat.reduceAdd,Nat.reduceLT,Nat.reduceEqDiff,Nat.reduceMul,Nat.reduceLeDiff,Nat.reduceSub])
 intro _
 refine yv7 (tzb7 hs) (by simp -implicitDefEqProofs only [go_sem, ↓reduceIte,reduceCtorEq,Nat.reduceAdd,Nat.reduceLT,Nat.reduceEqDiff,Nat.reduceMul,Nat.reduceLeDiff,Nat.reduceSub]) rfl rfl ?_
 rintro r rfl
 have hy:=usb7 hs
 generalize th7 s = y at hy
 simp -implicitDefEqProofs only [go_sem, ↓reduceIte,reduceCtorEq,Nat.reduceAdd,Nat.reduceLT,Nat.reduceEqDiff,Nat.reduceMul,Nat.reduceLeDiff,Nat.reduceSub,qf7]
 refine yv7 (wvb7 hy hw) (by simp -implicitDefEqProofs only [go_sem, ↓reduceIte,reduceCtorEq,Nat.reduceAdd,Nat.reduceLT,Nat.reduceEqDiff,Nat.reduceMul,Nat.reduceLeDiff,Nat.reduceSub]) rfl rfl ?_
 rintro r rfl
 refine yv7 (ppb7 hy wi hwh hat hby) (by simp -implicitDefEqProofs only [go_sem, ↓reduceIte,reduceCtorEq,Nat.reduceAdd,Nat.reduceLT,Nat.reduceEqDiff,Nat.reduceMul,Nat.reduceLeDiff,Nat.reduceSub,if7]) rfl rfl ?_
 rintro r rfl
 have hp:=ogb7 hy wi what at_ hat hby
 generalize rb7 (yh7 y wi) what at_ by_ = p at hp
 simp -implicitDefEqProofs only [go_sem, ↓reduceIte,reduceCtorEq,Nat.reduceAdd,Nat.reduceLT,Nat.reduceEqDiff,Nat.reduceMul,Nat.reduceLeDiff,Nat.reduceSub,if7]
 have hcode:=msb7 hy hp
 by_cases hc:ia7 y p = 0
 ·rw [hc] at hcode
  refine rc7 hcode (by simp -implicitDefEqProofs only [go_sem, ↓reduceIte,reduceCtorEq,Nat.reduceAdd,Nat.reduceLT,Nat.reduceEqDiff,Nat.reduceMul,Nat.reduceLeDiff,Nat.reduceSub]) rfl (fun r h=>by subst h; rfl) ?_
  rintro r rfl
  have hsk:=iab7 hy hc
  have hcw:ua7 (qw7 y p):=by have:=wjb7 hy hp; unfold hh7 at this; rwa [if_pos hc] at this
  (try simp -implicitDefEqProofs only [go_sem, ↓reduceIte,reduceCtorEq,Nat.reduceAdd,Nat.reduceLT,Nat.reduceEqDiff,Nat.reduceMul,Nat.reduceLeDiff,Nat.reduceSub,eq_self,not_true_eq_false,not_false_eq_true,decide_false,decide_true,Bool.not_false,Bool.not_true,Bool.or_false,Bool.false_or,Bool.true_or,Bool.or_true,Bool.and_true,Bool.true_and,Bool.false_and,Bool.and_false,true_implies])
  refine yv7 (ozb7 hsk) (by simp -implicitDefEqProofs only [go_sem, ↓reduceIte,reduceCtorEq,Nat.reduceAdd,Nat.reduceLT,Nat.reduceEqDiff,Nat.reduceMul,Nat.reduceLeDiff,Nat.reduceSub]) rfl rfl ?_
  rintro r rfl
  simp -implicitDefEqProofs only [go_sem, ↓reduceIte,reduceCtorEq,Nat.reduceAdd,Nat.reduceLT,Nat.reduceEqDiff,Nat.reduceMul,Nat.reduceLeDiff,Nat.reduceSub,dd7]
  refine qqb7 hsk hm (by simp -implicitDefEqProofs only [go_sem, ↓reduceIte,reduceCtorEq,Nat.reduceAdd,Nat.reduceLT,Nat.reduceEqDiff,Nat.reduceMul,Nat.reduceLeDiff,Nat.reduceSub,ucb7]) rfl rfl ?_
  intro t ht htl htb
  simp -implicitDefEqProofs only [go_sem, ↓reduceIte,reduceCtorEq,Nat.reduceAdd,Nat.reduceLT,Nat.reduceEqDiff,Nat.reduceMul,Nat.reduceLeDiff,Nat.reduceSub,dd7,eq_self,not_true_eq_false,not_false_eq_true,decide_false,decide_true,Bool.not_false,Bool.not_true,Bool.or_false,Bool.false_or,Bool.true_or,Bool.or_true,Bool.and_true,Bool.true_and,Bool.false_and,Bool.and_false,true_implies]
  refine ⟨by decide,fun _ => ?_,fun _ => ?_⟩
  ·refine rc7 (lhb7 hsk hp.small) (by simp -implicitDefEqProofs only [go_sem, ↓reduceIte,reduceCtorEq,Nat.reduceAdd,Nat.reduceLT,Nat.reduceEqDiff,Nat.reduceMul,Nat.reduceLeDiff,Nat.reduceSub]) rfl (fun r h=>by subst h; rfl) ?_
   rintro r rfl
   (try simp -implicitDefEqProofs only [go_sem, ↓reduceIte,reduceCtorEq,Nat.reduceAdd,Nat.reduceLT,Nat.reduceEqDiff,Nat.reduceMul,Nat.reduceLeDiff,Nat.reduceSub,eq_self,not_true_eq_false,not_false_eq_true,decide_false,decide_true,Bool.not_false,Bool.not_true,Bool.or_false,Bool.false_or,Bool.true_or,Bool.or_true,Bool.and_true,Bool.true_and,Bool.false_and,Bool.and_false,true_implies])
   refine rc7 (ko7 (s:=⟨p,t,qw7 y p⟩) hy hp ht hcw) (by simp -implicitDefEqProofs only [go_sem, ↓reduceIte,reduceCtorEq,Nat.reduceAdd,Nat.reduceLT,Nat.reduceEqDiff,Nat.reduceMul,Nat.reduceLeDiff,Nat.reduceSub]) rfl (fun r h=>by subst h; rfl) ?_
   rintro r rfl
   (try simp -implicitDefEqProofs only [go_sem, ↓reduceIte,reduceCtorEq,Nat.reduceAdd,Nat.reduceLT,Nat.reduceEqDiff,Nat.reduceMul,Nat.reduceLeDiff,Nat.reduceSub,eq_self,not_true_eq_false,not_false_eq_true,decide_false,decide_true,Bool.not_false,Bool.not_true,Bool.or_false,Bool.false_or,Bool.true_or,Bool.or_true,Bool.and_true,Bool.true_and,Bool.false_and,Bool.and_false,true_implies])
   refine rc7 (rz7 (s:=⟨p,t,qw7 y p⟩) hy hp ht) (by simp -implicitDefEqProofs only [go_sem, ↓reduceIte,reduceCtorEq,Nat.reduceAdd,Nat.reduceLT,Nat.reduceEqDiff,Nat.reduceMul,Nat.reduceLeDiff,Nat.reduceSub]) rfl (fun r h=>by subst h; rfl) ?_
   rintro r rfl
   simp -implicitDefEqProofs only [go_sem, ↓reduceIte,reduceCtorEq,Nat.reduceAdd,Nat.reduceLT,Nat.reduceEqDiff,Nat.reduceMul,Nat.reduceLeDiff,Nat.reduceSub,eq_self,not_true_eq_false,not_false_eq_true,decide_false,decide_true,Bool.not_false,Bool.not_true,Bool.or_false,Bool.false_or,Bool.true_or,Bool.or_true,Bool.and_true,Bool.true_and,Bool.false_and,Bool.and_false,true_implies]
  ·refine rc7 (ko7 (s:=⟨p,t,cost⟩) hy hp ht hco) (by simp -implicitDefEqProofs only [go_sem, ↓reduceIte,reduceCtorEq,Nat.reduceAdd,Nat.reduceLT,Nat.reduceEqDiff,Nat.reduceMul,Nat.reduceLeDiff,Nat.reduceSub]) rfl (fun r h=>by subst h; rfl) ?_
   rintro r rfl
   (try simp -implicitDefEqProofs only [go_sem, ↓reduceIte,reduceCtorEq,Nat.reduceAdd,Nat.reduceLT,Nat.reduceEqDiff,Nat.reduceMul,Nat.reduceLeDiff,Nat.reduceSub,eq_self,not_true_eq_false,not_false_eq_true,decide_false,decide_true,Bool.not_false,Bool.not_true,Bool.or_false,Bool.false_or,Bool.true_or,Bool.or_true,Bool.and_true,Bool.true_and,Bool.false_and,Bool.and_false,true_implies])
   refine rc7 (rz7 (s:=⟨p,t,cost⟩) hy hp ht) (by simp -implicitDefEqProofs only [go_sem, ↓reduceIte,reduceCtorEq,Nat.reduceAdd,Nat.reduceLT,Nat.reduceEqDiff,Nat.reduceMul,Nat.reduceLeDiff,Nat.reduceSub]) rfl (fun r h=>by subst h; rfl) ?_
   rintro r rfl
   simp -implicitDefEqProofs only [go_sem, ↓reduceIte,reduceCtorEq,Nat.reduceAdd,Nat.reduceLT,Nat.reduceEqDiff,Nat.reduceMul,Nat.reduceLeDiff,Nat.reduceSub,eq_self,not_true_eq_false,not_false_eq_true,decide_false,decide_true,Bool.not_false,Bool.not_true,Bool.or_false,Bool.false_or,Bool.true_or,Bool.or_true,Bool.and_true,Bool.true_and,Bool.false_and,Bool.and_false,true_implies]
 ·refine rc7 hcode (by simp -implicitDefEqProofs only [go_sem, ↓reduceIte,reduceCtorEq,Nat.reduceAdd,Nat.reduceLT,Nat.reduceEqDiff,Nat.reduceMul,Nat.reduceLeDiff,Nat.reduceSub]) rfl (fun r h=>by subst h; rfl) ?_
  rintro r rfl
  simp -implicitDefEqProofs only [go_sem, ↓reduceIte,reduceCtorEq,Nat.reduceAdd,Nat.reduceLT,Nat.reduceEqDiff,Nat.reduceMul,Nat.reduceLeDiff,Nat.reduceSub,hc,eq_self,not_true_eq_false,not_false_eq_true,decide_false,decide_true,Bool.not_false,Bool.not_true,Bool.or_false,Bool.false_or,Bool.true_or,Bool.or_true,Bool.and_true,Bool.true_and,Bool.false_and,Bool.and_false,true_implies]
  have hw0:bu7 ⟨[],[]⟩:=⟨fun l hl=>(by cases hl),fun r hr=>(by cases hr)⟩
  refine feb7 (ko7 (s:=⟨p,⟨[],[]⟩,cost⟩) hy hp hw0 hco) (by simp -implicitDefEqProofs only [go_sem, ↓reduceIte,reduceCtorEq,Nat.reduceAdd,Nat.reduceLT,Nat.reduceEqDiff,Nat.reduceMul,Nat.reduceLeDiff,Nat.reduceSub]) ⟨_,_,rfl, .inl rfl,_,_,rfl, .inr ⟨_,rfl,vx7 p cost⟩,rfl⟩ (fun r h=>by subst h; rfl) ?_
  rintro r rfl
  (try simp -implicitDefEqProofs only [go_sem, ↓reduceIte,reduceCtorEq,Nat.reduceAdd,Nat.reduceLT,Nat.reduceEqDiff,Nat.reduceMul,Nat.reduceLeDiff,Nat.reduceSub])
  refine feb7 (rz7 (s:=⟨p,⟨[],[]⟩,cost⟩) hy hp hw0) (by simp -implicitDefEqProofs only [go_sem, ↓reduceIte,reduceCtorEq,Nat.reduceAdd,Nat.reduceLT,Nat.reduceEqDiff,Nat.reduceMul,Nat.reduceLeDiff,Nat.reduceSub]) ⟨_,_,rfl, .inl rfl,_,_,rfl, .inr ⟨_,rfl,vx7 p cost⟩,rfl⟩ (fun r h=>by subst h; rfl) ?_
  rintro r rfl
  simp -implicitDefEqProofs only [go_sem, ↓reduceIte,reduceCtorEq,Nat.reduceAdd,Nat.reduceLT,Nat.reduceEqDiff,Nat.reduceMul,Nat.reduceLeDiff,Nat.reduceSub,eq_self,not_true_eq_false,not_false_eq_true,decide_false,decide_true,Bool.not_false,Bool.not_true,Bool.or_false,Bool.false_or,Bool.true_or,Bool.or_true,Bool.and_true,Bool.true_and,Bool.false_and,Bool.and_false,true_implies]
theorem feasChecks_c {w:World} {F G S:Nat → Prop} {s:wb7} {wi:uf7} {m:List Int × Int} {cs1 cs2 cs3:List Value} {what at_:Nat} {by_ cost:Int} (h1:bp7.rep w F s cs1) (h2:veb7.rep w G wi cs2) (hwh:what ≤ 255) (hat:at_ ≤ 255) (hby : -128 ≤ by_ ∧ by_ ≤ 127) (h3:qcb7.rep w S m cs3) (hco:ua7 cost) :
  Calls Try.prog 4 #[.agg cs1.toArray, .agg cs2.toArray, .int .u8 (what:Int), .int .u8 (at_:Int), .int .i8 by_, .agg cs3.toArray, .int .i64 cost] w fun e w'=>e = .returned (.bool true) ∧ Below w.heap.size w w' :=
 vwb7 (vs:=[.agg cs1.toArray, .agg cs2.toArray, .int .u8 (what:Int), .int .u8 (at_:Int), .int .i8 by_, .agg cs3.toArray, .int .i64 cost]) (nbb7 (ewb7 h1) (dac7 h2) hwh hat hby (pvb7 h3) hco) ⟨_,_,rfl,⟨_,rfl,ivb7 (bp7.old h1)⟩,_,_,rfl,⟨_,rfl,pxb7 (veb7.old h2)⟩,_,_,rfl,rfl,_,_,rfl,rfl,_,_,rfl,rfl,_,_,rfl,⟨_,rfl,zvb7 (qcb7.old h3)⟩,_,_,rfl,rfl,rfl⟩
end Go.Proofs.Ytahffcepagopmaa.Ab
