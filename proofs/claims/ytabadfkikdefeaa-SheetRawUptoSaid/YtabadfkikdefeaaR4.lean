/- Texts of the proof, joined: SoonM, Pc2, Same18, GlC, LawK, Awake20, LightM, SheetRaw. -/
import Derived.Test.YtabadfkikdefeaaCan
set_option linter.all false
set_option maxRecDepth 100000
set_option maxHeartbeats 6400000
namespace Go.Proofs.Ytabadfkikdefeaa.Ab
open Go.RowKit
def tsH (id:Nat):List (List Int) → AV
 | [] => .nils
 | l => .h id 0 l.length
def zbc7:List Int → AV
 | [] => .nils
 | l=>nh7 l
def tsR:List (List Int) → Root
 | [] => .dead
 | l => .live false 43 1 (.gen (l.map fun r=>[zbc7 r]))
def lR:List Int → Root
 | [] => .dead
 | l => .live false 2 1 (.ints .i64 l)
def headL (x:ba7) (p:za7) (ts:List (List Int)) (t:List ea7) (ready l:List Int):List Root :=
 [.live false 49 9 (.box (awb7 x)), .live false 25 2 (.box (nk7 p)), .live false 29 2 (.box [.nils, .nils]), .live false 29 2 (.box [tsH 5 ts, .nils]), .live false 2 1 (.ints .i64 ready),tsR ts, .live false 82 1 (.box [pu7 t]),lR l]
def bsH (id:Nat):List xc7 → AV
 | [] => .nils
 | l => .h id 0 l.length
def bsR:List xc7 → Root
 | [] => .dead
 | l => .live false 58 3 (.gen (l.map fun r=>[I6 r.out,zbc7 r.starts,I6 r.back]))
def ihb7 (x:ba7) (p:za7) (ts:List (List Int)) (ready:List Int) (rs:List xc7):List Root :=
 [.live false 49 9 (.box (awb7 x)), .live false 25 2 (.box (nk7 p)), .live false 29 2 (.box [.nils, .nils]), .live false 29 2 (.box [tsH 5 ts,bsH 6 rs]), .live false 2 1 (.ints .i64 ready),tsR ts,bsR rs]
end Go.Proofs.Ytabadfkikdefeaa.Ab


namespace Go.Proofs.Ytabadfkikdefeaa.Ab
open Go.RowKit
theorem glob_triv {rho:Nat → Prop} {w:World}:tr7 rho w:=⟨trivial,fun _ _ h=>by cases h⟩
theorem ayb7 {P:Program} {f:FuncId} {args:List RV} {w:World} {vs:List Value} (h:PCall P f args (fun r=>r = .c (.bool true))) (hc:Con0RL (fun b=>b < w.heap.size) w args vs):Calls P f vs.toArray w fun e w'=>e = .returned (.bool true) ∧ Below w.heap.size w w':=by
 refine (h.2 _ w vs glob_triv (fun _ h=>h) hc).mono ?_
 rintro e w' ⟨r,v,rho',rfl,rfl,h1, -,h2⟩
 obtain rfl:v = .bool true:=h1
 exact ⟨rfl,h2⟩
end Go.Proofs.Ytabadfkikdefeaa.Ab
namespace Go.Proofs.Ytabadfkikdefeaa
open Go.RowKit Go.Lib
theorem qwb7:pv7 ⟨[[⟨0,5⟩]],[]⟩ ⟨[[4]],[]⟩ 0 = [112,108,97,110,32,48,10,116,114,117,99,107,115,32,49,10,49,32,48,32,53,32,52,10,98,105,107,101,115,32,48,10,101,110,100,10]:=by
 have d0:itoa 0 = [48]:=by unfold itoa decDigits; rfl
 have d1:itoa 1 = [49]:=by unfold itoa decDigits; rfl
 have d4:itoa 4 = [52]:=by unfold itoa decDigits; rfl
 have d5:itoa 5 = [53]:=by unfold itoa decDigits; rfl
 simp [pv7,kbb7,zm7,je7,ng7,zx7,ze7,lnS,qf7,tCells,tItem,xp7,d0,d1,d4,d5]
theorem mcc7:pd7 ⟨[[⟨0,5⟩]],[]⟩ ⟨[[4]],[]⟩ 0 where
 nt:=by decide
 nb:=by decide
 st:=by unfold wa7; decide
 sb:=fun b hb=>by cases hb
 tt:=by unfold wa7; decide
 tb:=fun b hb=>by cases hb
 c:=by unfold wa7; decide
theorem gib7 {P:Program} {f:FuncId} {args:List Ab.RV} {w:World} {vs:List Value} {b:ByteArray} (h:Ab.PCall P f args (fun r=>r = .c (.str b))) (hc:Ab.Con0RL (fun b=>b < w.heap.size) w args vs):Calls P f vs.toArray w fun e w'=>e = .returned (.string b) ∧ Below w.heap.size w w':=by
 refine (h.2 _ w vs Ab.glob_triv (fun _ h=>h) hc).mono ?_
 rintro e w' ⟨r,v,rho',rfl,rfl,h1, -,h2⟩
 obtain rfl:v = .string b:=h1
 exact ⟨rfl,h2⟩
theorem bxb7 {w:World} {F:Nat → Prop} {s:ue7} {cs:List Value} (h:pd7 s.plan s.times s.cost) (hs:ai7.rep w F s cs) :
  Calls Try.prog 8 #[.agg cs.toArray] w fun e w'=>e = .returned (.string (S (pv7 s.plan s.times s.cost))) ∧ Below w.heap.size w w' :=
 gib7 (vs:=[.agg cs.toArray]) (Ab.sheet_p h) ⟨_,_,rfl,⟨_,rfl,Ab.sheet_f (ai7.old hs)⟩,rfl⟩
theorem zy7 {α:Type} {S:Shape α} {h0:0 < S.sz} (w:World):(ga7 S h0).rep w (fun _=>True) [] [.slice none 0 0] :=
 ⟨none,0,0,0,rfl,Nat.le_refl _,Nat.zero_le _,fun h=>absurd h (Nat.not_lt_zero _),fun i h=>absurd h (Nat.not_lt_zero _)⟩
theorem cnb7 (w:World):Calls Try.prog 6 #[] w fun e w'=>e = .returned (.bool true) ∧ Below w.heap.size w w':=by
 obtain ⟨W,hW,hold,r1,r2,r3,r4,r5,hz⟩:=rcb7 w [.int .i64 0, .int .i64 5] [.slice (some ⟨w.heap.size,0,none⟩) 1 1] [.int .i64 4] [.slice (some ⟨w.heap.size + 2,0,none⟩) 1 1]
  [.slice (some ⟨w.heap.size + 1,0,none⟩) 1 1, .slice none 0 0, .slice (some ⟨w.heap.size + 3,0,none⟩) 1 1, .slice none 0 0, .int .i64 0] 79 82 2 43 31
 have HW:=hid hW
 have HB:=hid hold
 have e1:(ga7 ye7).rep W (fun _=>True) [⟨0,5⟩] [.slice (some ⟨w.heap.size,0,none⟩) 1 1]:=aqb7 (S:=ye7) ⟨rfl,by unfold wa7; decide,by unfold wa7; decide⟩ r1 trivial
 have e2:wk7.rep W (fun _=>True) [[⟨0,5⟩]] [.slice (some ⟨w.heap.size + 1,0,none⟩) 1 1]:=aqb7 (S:=ga7 ye7) e1 r2 trivial
 have e3:(ga7 ge7).rep W (fun _=>True) [4] [.slice (some ⟨w.heap.size + 2,0,none⟩) 1 1]:=aqb7 (S:=ge7) ⟨rfl,by unfold wa7; decide⟩ r3 trivial
 have e4:gg7.rep W (fun _=>True) [[4]] [.slice (some ⟨w.heap.size + 3,0,none⟩) 1 1]:=aqb7 (S:=ga7 ge7) e3 r4 trivial
 have HS:=hid (show ai7.rep W (fun _=>True) ⟨⟨[[⟨0,5⟩]],[]⟩,⟨[[4]],[]⟩,0⟩ [.slice (some ⟨w.heap.size + 1,0,none⟩) 1 1, .slice none 0 0, .slice (some ⟨w.heap.size + 3,0,none⟩) 1 1, .slice none 0 0, .int .i64 0] from
  ⟨_,_,_,_,rfl,by unfold wa7; decide,⟨_,_,rfl,e2,zy7 _⟩,⟨_,_,rfl,e4,zy7 _⟩⟩)
 have HR:=hid r5
 clear hW hold r1 r2 r3 r4 r5 e1 e2 e3 e4
 obtain ⟨q0,q1,q2,q3,q4⟩:=tnb7 HR.out
 go_enter Try.func6,Try.ntmps6
 go_upto_region 2 with fail
 rw [show w.heap.size + 1 + 1 + 1 = w.heap.size + 3 from rfl,show w.heap.size + 1 + 1 = w.heap.size + 2 from rfl, ← HW.out]
 rw [show w.heap.size + 1 + 1 + 1 + 1 = w.heap.size + 4 from rfl]
 go_wp2_with fail
 refine (bxb7 mcc7 HS.out).mono ?_
 rintro e w5 ⟨rfl,hb5⟩
 rw [qwb7]
 have HB5:=hid (ca7 HB.out hb5)
 clear hb5 q0 q1 q2 q3 q4 HS HR
 go_wp2_with fail
 refine (dib7 _).mono ?_
 rintro e w6 ⟨rfl,hb6⟩
 have HB6:=hid (ca7 HB5.out hb6)
 clear hb6 HB5
 go_wp2
 go_ret
 exact ⟨rfl,HB6.out⟩
end Go.Proofs.Ytabadfkikdefeaa
namespace Go.Proofs.Ytabadfkikdefeaa.Ab
theorem kkb7:PCall Try.prog 6 [] (fun r=>r = .c (.bool true)) :=
 leb7 ⟨_,_,Try.func6,by kernel_rfl,rfl⟩ fun rho w vs hcv=>by
  obtain rfl:=hcv
  refine (cnb7 w).mono ?_
  rintro e w' ⟨rfl,hb⟩
  exact ⟨_,_,rfl,rfl,rfl,hb⟩
open Go.RowKit
def qi7 (p:za7):Nat:=p.trucks.length + p.bikes.length + ra7 p.trucks p.trucks.length + ya7 p.bikes p.bikes.length
theorem itb7 {p:za7} (h:qi7 p ≤ 1000000000000000):PCall Try.prog 7 [.agg (nk7 p)] (fun r=>r = .c (.bool (decide (qi7 p ≤ 200)))):=by
 unfold qi7 at h
 refine rg7 qq7 (by kernel_rfl) (fun _=>([],0,none)) Try.func7 rfl (by kernel_rfl) Try.ntmps7 (congrArg Array.toList Try.results7) (by kernel_rfl) (by simp) ?_
 simp -implicitDefEqProofs only [go_sem, ↓reduceIte,reduceCtorEq,Nat.reduceAdd,Nat.reduceLT,Nat.reduceEqDiff,Nat.reduceMul,Nat.reduceLeDiff,Nat.reduceSub,nk7]
 refine ⟨by omega, ?_⟩
 refine de7 (ι:=Nat) [1,16,17] [3,18] (fun k=>k ≤ p.trucks.length) (fun k=>[.c (I6 (p.trucks.length + p.bikes.length + (ra7 p.trucks k:Nat))), .c (I6 k)]) (fun _=>_) (fun k=>p.trucks.length - k) (by kernel_rfl) ⟨0,Nat.zero_le _,by simp [ra7,gets,lk,ok7],rfl⟩ (fun k _=>⟨rfl,rfl,rfl,rfl⟩) ?_
 intro k hk
 have htu:=mh7 (l:=p.trucks) (k:=k)
 simp -implicitDefEqProofs only [go_sem, ↓reduceIte,reduceCtorEq,Nat.reduceAdd,Nat.reduceLT,Nat.reduceEqDiff,Nat.reduceMul,Nat.reduceLeDiff,Nat.reduceSub]
 refine ⟨fun h1 => ?_,fun h1 => ?_⟩
 ·have hlt:k < p.trucks.length:=by omega
  have hsucc:ra7 p.trucks (k + 1) = ra7 p.trucks k + (ni7 p k).length:=by rw [dd7 hlt]; unfold ni7; rw [lr7 hlt]
  have htu2:=mh7 (l:=p.trucks) (k:=k + 1)
  refine ⟨by omega,by omega,by omega,k + 1,by omega, ?_,by omega⟩
  rw [hsucc,Int.natCast_add, ← Int.add_assoc]; rfl
 ·obtain rfl:k = p.trucks.length:=by omega
  refine de7 (ι:=Nat) [1,29,30] [3,31] (fun k=>k ≤ p.bikes.length) (fun k=>[.c (I6 (p.trucks.length + p.bikes.length + (ra7 p.trucks p.trucks.length:Nat) + (ya7 p.bikes k:Nat))), .c (I6 k)]) (fun _=>_) (fun k=>p.bikes.length - k) (by kernel_rfl) ⟨0,Nat.zero_le _,by simp [ya7,gets,lk,ok7],rfl⟩ (fun k _=>⟨rfl,rfl,rfl,rfl⟩) ?_
  intro k hk
  have hsu:=wg7 (l:=p.bikes) (k:=k)
  simp -implicitDefEqProofs only [go_sem, ↓reduceIte,reduceCtorEq,Nat.reduceAdd,Nat.reduceLT,Nat.reduceEqDiff,Nat.reduceMul,Nat.reduceLeDiff,Nat.reduceSub]
  refine ⟨fun h1 => ?_,fun h1 => ?_⟩
  ·have hlt:k < p.bikes.length:=by omega
   have hsucc:ya7 p.bikes (k + 1) = ya7 p.bikes k + (uh7 p k).stops.length:=by rw [bd7 hlt]; unfold uh7; rw [lr7 hlt]
   have hsu2:=wg7 (l:=p.bikes) (k:=k + 1)
   refine ⟨by omega,by omega,by omega,k + 1,by omega, ?_,by omega⟩
   rw [hsucc,Int.natCast_add, ← Int.add_assoc]; rfl
  ·obtain rfl:k = p.bikes.length:=by omega
   refine congrArg (fun b=>RV.c (.bool b)) (decide_eq_decide.2 ?_)
   unfold qi7
   omega
open Go.RowKit Go.Lib
theorem rwb7 {s:ue7} (hp:ykb7 s.plan) (ht:htb7 s.times) (hc:wa7 s.cost) (h:qi7 s.plan ≤ 200):pd7 s.plan s.times s.cost where
 nt:=by unfold qi7 at h; omega
 nb:=by unfold qi7 at h; omega
 st:=fun l hl=>⟨by have:=dl7 hl; unfold qi7 at h; omega,hp.trucks l hl⟩
 sb:=fun b hb=>⟨by have:=dk7 hb; unfold qi7 at h; omega,(hp.bikes b hb).1,(hp.bikes b hb).2⟩
 tt:=ht.trucks
 tb:=fun r hr=>ht.bikes r hr
 c:=hc
theorem mgb7 {s:ue7} (hp:ykb7 s.plan) (ht:htb7 s.times) (hc:wa7 s.cost) (hl:qi7 s.plan ≤ 1000000000000000) (htl:s.times.trucks.length + s.times.bikes.length ≤ 1000000000000000):PCall Try.prog 3 [.agg (nf7 s)] (fun r=>r = .c (.bool true)):=by
 have hok:=rwb7 hp ht hc
 refine rg7 qq7 (by kernel_rfl) (fun n=>match n with | 5=>([0,2,1,3,4,5],0,none) | _=>([],0,none)) Try.func3 rfl (by kernel_rfl) Try.ntmps3 (congrArg Array.toList Try.results3) (by kernel_rfl) (by simp) ?_
 simp -implicitDefEqProofs only [go_sem, ↓reduceIte,reduceCtorEq,Nat.reduceAdd,Nat.reduceLT,Nat.reduceEqDiff,Nat.reduceMul,Nat.reduceLeDiff,Nat.reduceSub,nf7,nk7,ei7]
 refine ah7 kkb7 (by simp -implicitDefEqProofs only [go_sem, ↓reduceIte,reduceCtorEq,Nat.reduceAdd,Nat.reduceLT,Nat.reduceEqDiff,Nat.reduceMul,Nat.reduceLeDiff,Nat.reduceSub]) rfl (fun r h=>by subst h; rfl) ?_
 rintro r rfl
 (try simp -implicitDefEqProofs only [go_sem, ↓reduceIte,reduceCtorEq,Nat.reduceAdd,Nat.reduceLT,Nat.reduceEqDiff,Nat.reduceMul,Nat.reduceLeDiff,Nat.reduceSub,eq_self,not_true_eq_false,not_false_eq_true,decide_false,decide_true,Bool.not_false,Bool.not_true,Bool.or_false,Bool.false_or,Bool.true_or,Bool.or_true,Bool.and_true,Bool.true_and,Bool.false_and,Bool.and_false,true_implies])
 refine ah7 (itb7 hl) (by simp -implicitDefEqProofs only [go_sem, ↓reduceIte,reduceCtorEq,Nat.reduceAdd,Nat.reduceLT,Nat.reduceEqDiff,Nat.reduceMul,Nat.reduceLeDiff,Nat.reduceSub]) rfl (fun r h=>by subst h; rfl) ?_
 rintro r rfl
 (try simp -implicitDefEqProofs only [go_sem, ↓reduceIte,reduceCtorEq,Nat.reduceAdd,Nat.reduceLT,Nat.reduceEqDiff,Nat.reduceMul,Nat.reduceLeDiff,Nat.reduceSub,eq_self,not_true_eq_false,not_false_eq_true,decide_false,decide_true,Bool.not_false,Bool.not_true,Bool.or_false,Bool.false_or,Bool.true_or,Bool.or_true,Bool.and_true,Bool.true_and,Bool.false_and,Bool.and_false,true_implies])
 refine ⟨fun _=>by omega,fun h => ?_⟩
 have hlt:qi7 s.plan ≤ 200:=by
  by_cases e:qi7 s.plan ≤ 200
  ·exact e
  ·simp [e] at h
 have hT:=hok hlt
 refine ah7 (sheet_p hT) (by simp -implicitDefEqProofs only [go_sem, ↓reduceIte,reduceCtorEq,Nat.reduceAdd,Nat.reduceLT,Nat.reduceEqDiff,Nat.reduceMul,Nat.reduceLeDiff,Nat.reduceSub]) rfl (fun r h=>by subst h; rfl) ?_
 rintro r rfl
 (try simp -implicitDefEqProofs only [go_sem, ↓reduceIte,reduceCtorEq,Nat.reduceAdd,Nat.reduceLT,Nat.reduceEqDiff,Nat.reduceMul,Nat.reduceLeDiff,Nat.reduceSub,eq_self,not_true_eq_false,not_false_eq_true,decide_false,decide_true,Bool.not_false,Bool.not_true,Bool.or_false,Bool.false_or,Bool.true_or,Bool.or_true,Bool.and_true,Bool.true_and,Bool.false_and,Bool.and_false,true_implies])
 refine ah7 (gub7 hT) (by simp -implicitDefEqProofs only [go_sem, ↓reduceIte,reduceCtorEq,Nat.reduceAdd,Nat.reduceLT,Nat.reduceEqDiff,Nat.reduceMul,Nat.reduceLeDiff,Nat.reduceSub]) rfl (fun r h=>by subst h; rfl) ?_
 rintro r rfl
 (try simp -implicitDefEqProofs only [go_sem, ↓reduceIte,reduceCtorEq,Nat.reduceAdd,Nat.reduceLT,Nat.reduceEqDiff,Nat.reduceMul,Nat.reduceLeDiff,Nat.reduceSub,eq_self,not_true_eq_false,not_false_eq_true,decide_false,decide_true,Bool.not_false,Bool.not_true,Bool.or_false,Bool.false_or,Bool.true_or,Bool.or_true,Bool.and_true,Bool.true_and,Bool.false_and,Bool.and_false,true_implies])
 exact congrArg (fun b=>RV.c (AV.bool b)) (show eqS _ _ = true from decide_eq_true rfl)
theorem omb7:∀ (l:List (List ea7)) (B:Nat),(∀ t ∈ l,t.length ≤ B) → ra7 l l.length ≤ l.length * B
 | [],B,_=>by simp [ra7]
 | a :: l,B,h=>by
  have h1:=omb7 l B fun t ht=>h t (List.mem_cons_of_mem _ ht)
  have h2:=h a (List.mem_cons_self ..)
  have e:ra7 (a :: l) (a :: l).length = a.length + ra7 l l.length:=by unfold ra7; simp
  rw [e,List.length_cons,Nat.add_mul,Nat.one_mul]; omega
theorem xqb7:∀ (l:List oa7) (B:Nat),(∀ t ∈ l,t.stops.length ≤ B) → ya7 l l.length ≤ l.length * B
 | [],B,_=>by simp [ya7]
 | a :: l,B,h=>by
  have h1:=xqb7 l B fun t ht=>h t (List.mem_cons_of_mem _ ht)
  have h2:=h a (List.mem_cons_self ..)
  have e:ya7 (a :: l) (a :: l).length = a.stops.length + ya7 l l.length:=by unfold ya7; simp
  rw [e,List.length_cons,Nat.add_mul,Nat.one_mul]; omega
theorem bi7 {α:Type} {S:Shape α} {h0:0 < S.sz} {w:World} {F:Nat → Prop} {l:List α} {cs:List Value} {p:α → Prop} (h:(ga7 S h0).rep w F l cs) (hp:∀ x es,S.rep w F x es → p x):∀ x ∈ l,p x:=by
 obtain ⟨a,b,off,c,rfl,h1,h2,h3,h4⟩:=h
 intro x hx
 obtain ⟨i,hi,rfl⟩:=List.getElem_of_mem hx
 obtain ⟨es,k1, -⟩:=h4 i hi
 exact hp _ _ k1
theorem sheetRaw_c {w:World} {F:Nat → Prop} {s:ue7} {cs:List Value} (h:ai7.rep w F s cs) (hb:(s.times.trucks.length ≤ 1048576 ∧ s.times.bikes.length ≤ 1048576) ∧ (s.plan.trucks.length ≤ 1048576 ∧ ∀ t ∈ s.plan.trucks,t.length ≤ 1048576) ∧ s.plan.bikes.length ≤ 1048576 ∧ ∀ b ∈ s.plan.bikes,b.stops.length ≤ 1048576) :
  Calls Try.prog 3 #[.agg cs.toArray] w fun e w'=>e = .returned (.bool true) ∧ Below w.heap.size w w':=by
 obtain ⟨⟨b1,b2⟩,⟨b3,b4⟩,b5,b6⟩:=hb
 have h7:=h
 obtain ⟨v1,v2,v3,v4,rfl,hc,⟨_,_, -,k1,k2⟩,⟨_,_, -,k3,k4⟩⟩:=h7
 have hp:ykb7 s.plan:=⟨bi7 k1 fun _ _ h=>bi7 h fun _ _ h=>h.2,bi7 k2 fun _ _ h=>by obtain ⟨_, -,q1,q2⟩:=h; exact ⟨q1,bi7 q2 fun _ _ h=>h.2⟩⟩
 have ht:htb7 s.times:=⟨bi7 k3 fun _ _ h=>bi7 h fun _ _ h=>h.2,bi7 k4 fun _ _ h=>by obtain ⟨_, -,q1,q2,q3⟩:=h; exact ⟨q1,q2,bi7 q3 fun _ _ h=>h.2⟩⟩
 have m1:=omb7 _ _ b4
 have m2:=xqb7 _ _ b6
 exact ayb7 (vs:=[.agg _]) (mgb7 hp ht hc (by unfold qi7; omega) (by omega)) ⟨_,_,rfl,⟨_,rfl,sheet_f (ai7.old h)⟩,rfl⟩
end Go.Proofs.Ytabadfkikdefeaa.Ab
