/- Texts of the proof, joined: Reads, Same20, SheetSpoilt. -/
import Derived.Test.YtedahhjopmkbbaaGreatR8
set_option linter.all false
set_option maxRecDepth 100000
set_option maxHeartbeats 6400000
namespace Go.Proofs.YtedahhjopmkbbaaGreat.Ab
open Go.RowKit
abbrev dfc7 (k:Nat):Tw:=.br 0 4 (.br (k+2) 5 (.br 0 10 (.br 1 11 (.br 0 12 (.br 0 13 .d .no) .no) (.br 0 12 (.br 1 11 (.br 0 13 .d .no) (.br 0 13 (.br 1 11 .d .no) .no)) .no)) (.br 0 12 (.br 0 10 (.br 1 11 (.br 0 13 .d .no) (.br 0 13 (.br 1 11 .d .no) .no)) (.br 0 13 (.br 0 10 (.br 1 11 .d .no) .no) .no)) .no)) (.br 0 10 (.br (k+2) 5 (.br 1 11 (.br 0 12 (.br 0 13 .d .no) .no) (.br 0 12 (.br 1 11 (.br 0 13 .d .no) (.br 0 13 (.br 1 11 .d .no) .no)) .no)) .no) .no)) (.br 0 10 (.br 0 4 (.br (k+2) 5 (.br 1 11 (.br 0 12 (.br 0 13 .d .no) .no) (.br 0 12 (.br 1 11 (.br 0 13 .d .no) (.br 0 13 (.br 1 11 .d .no) .no)) .no)) .no) .no) .no)
abbrev jqc7 (k:Nat):Tw:=.br 0 3 (.br (k+2) 4 (.br 3 8 (.br 0 9 (.br 1 10 (.br 0 11 .d .no) (.br 0 11 (.br 1 10 .d .no) .no)) (.br 0 11 (.br 0 9 (.br 1 10 .d .no) .no) .no)) (.br 0 11 (.br 3 8 (.br 0 9 (.br 1 10 .d .no) .no) .no) .no)) .no) .no
theorem ygc7 {ws:List (List UInt8×Nat)}{most:Int}{s:Stt}(hm:0≤most) (hs:s.1≤ws.length):(0≤(so7 ws most s).1∧(so7 ws most s).1≤most)∧(so7 ws most s).2.1≤ws.length:=by
 unfold so7 jbb7
 split
 ·exact⟨⟨Int.le_refl _,hm⟩,hs⟩
 ·split
  ·exact⟨⟨Int.le_refl _,hm⟩,hs⟩
  ·split
   ·exact⟨⟨Int.le_refl _,hm⟩,hs⟩
   ·split
    ·exact⟨⟨Int.le_refl _,hm⟩,hs⟩
    ·exact⟨⟨by simp only;omega,by simp only;omega⟩,by simp only;omega⟩
theorem vzb7 {ws:List (List UInt8×Nat)}{w:List UInt8}{s:Stt}(hs:s.1≤ws.length):(tbb7 ws w s).1≤ws.length:=by
 unfold tbb7 tr7
 split
 ·exact hs
 ·split
  ·exact hs
  ·simp only;omega
theorem qrb7 (X:Pan) {P:Program}{pu:Pu}{f:FuncId}{args:List RV}{H:List Root}{K:RV→List Root→Prop}(h : @lb7 P noPan pu f args H K) : @lb7 P X pu f args H K :=
 ⟨h.1,fun E M w vs hr hc=>(h.2 E M w vs hr hc).mono fun _ _ h=>h.imp id fun ⟨_,_,hp⟩=>(qa7 hp).elim⟩
theorem yub7 {A:Root}{R:List Root}{ws:List (List UInt8×Nat)}{i len:Nat}{code most:Int}{K:RV→List Root→Prop}(hi:i≤1000000000000) (hw:∀w∈ws,w.1.length≤1000000000000)
  (hK:K (.c (I6 (jbb7 ws i code most).1)) (A::bc7 ws (jbb7 ws i code most).2.1 len (jbb7 ws i code most).2.2::R)) :
  lb7 Tryz.prog (some (some 1)) 31 [.c (.ptr 1 1 0 0),.c (I6 most)] (A::bc7 ws i len code::R) K:=by
 refine nfb7 (fun _=>trivial) (k:=1) (t:=100) (sz:=4) (l:=[ri7 ws,I6 i,I6 len,I6 code]) rfl rfl rfl ?_
 refine qrb7 _ ?_
 refine hob7 (A:=.dead) (R:=R.map fun _=>.dead) hi hw ⟨rfl,[ri7 ws,I6 (jbb7 ws i code most).2.1,I6 len,I6 (jbb7 ws i code most).2.2],rfl,rfl,hK⟩
theorem fnb7 {A:Root}{R:List Root}{ws:List (List UInt8×Nat)}{s:Stt}{len:Nat}{w:List UInt8}{K:RV→List Root→Prop}(hi:s.1≤1000000000000) (hK:∀r s',tbb7 ws w s=s'→K r (A::bc7 ws s'.1 len s'.2::R)) :
  lb7 Tryz.prog none 30 [.c (.ptr 1 1 0 0),.c (.str (S w))] (A::bc7 ws s.1 len s.2::R) K:=rnc7 hi fun r=>hK r _ rfl
theorem kb7 {A:Root}{R:List Root}{ws:List (List UInt8×Nat)}{s:Stt}{len:Nat}{most:Int}{K:RV→List Root→Prop}(hi:s.1≤1000000000000) (hw:∀w∈ws,w.1.length≤1000000000000) (hK:∀x s',so7 ws most s=(x,s')→K (.c (I6 x)) (A::bc7 ws s'.1 len s'.2::R)) :
  lb7 Tryz.prog none 31 [.c (.ptr 1 1 0 0),.c (I6 most)] (A::bc7 ws s.1 len s.2::R) K:=hob7 hi hw (hK _ _ rfl)
theorem zgb7 {A:Root}{R:List Root}{ws:List (List UInt8×Nat)}{s:Stt}{len:Nat}{most:Int}{K:RV→List Root→Prop}(hi:s.1≤1000000000000) (hw:∀w∈ws,w.1.length≤1000000000000) (hK:∀x s',so7 ws most s=(x,s')→K (.c (I6 x)) (A::bc7 ws s'.1 len s'.2::R)) :
  lb7 Tryz.prog (some (some 1)) 31 [.c (.ptr 1 1 0 0),.c (I6 most)] (A::bc7 ws s.1 len s.2::R) K:=yub7 hi hw (hK _ _ rfl)
theorem vb7 {ws:List (List UInt8×Nat)}{most:Int}{s s':Stt}{x:Int}(h:so7 ws most s=(x,s')) (hm:0≤most) (hs:s.1≤ws.length):(0≤x∧x≤most)∧s'.1≤ws.length:=by
 have:=ygc7 (s:=s) hm hs
 rw[h]at this
 exact this
theorem iu7 {ws:List (List UInt8×Nat)}{w:List UInt8}{s s':Stt}(h:tbb7 ws w s=s') (hs:s.1≤ws.length):s'.1≤ws.length:=by
 have:=vzb7 (w:=w) hs
 rw[h]at this
 exact this
def dv7 (s:List UInt8):zd7×Int×Int:=if iq7 s<s.length then (gg7,(iq7 s:Int),3) else vkb7 (ta7 s) s.length (jv7 (ta7 s))
def xz7 (s:List UInt8):RV:=.tup [.agg (ac7 (dv7 s).1),.c (I6 (dv7 s).2.1),.c (I6 (dv7 s).2.2)]
theorem ulb7 {s:List UInt8}(h:s.length≤131072):dv7 s=fj7 s:=by
 unfold dv7 fj7
 rw[if_neg (show ¬131072<s.length by omega)]
 split
 ·rfl
 ·rw[← llb7,← dab7,cwb7]
def wlc7 (A:Root) (ws:List (List UInt8×Nat)) (len:Nat) (cost:Int) (a:(List (List ba7)×List (List Int))×Stt):List Root :=
 [A,bc7 ws a.2.1 len a.2.2,dk7 (gH 3 a.1.1) .nils (gH 4 a.1.2) .nils cost,trR a.1.1,tmR a.1.2]
def lmb7 (A:Root) (ws:List (List UInt8×Nat)) (len:Nat) (x:Root) (T:List (List ba7)×List (List Int)) (a:(List ba7×List Int)×Stt):List Root :=
 [A,bc7 ws a.2.1 len a.2.2,x,trR T.1,tmR T.2,.live false 69 1 (.box [stH 6 a.1.1]),stR a.1.1,lR a.1.2]
def vrb7 (A:Root) (ws:List (List UInt8×Nat)) (len:Nat) (cost:Int) (T:List (List ba7)×List (List Int)) (a:(List ga7×List ka7)×Stt):List Root :=
 [A,bc7 ws a.2.1 len a.2.2,dk7 (gH 3 T.1) (gH 5 a.1.1) (gH 4 T.2) (gH 6 a.1.2) cost,trR T.1,tmR T.2,bkR a.1.1,riR a.1.2]
def sec7 (A:Root) (ws:List (List UInt8×Nat)) (len:Nat) (cost:Int) (T:List (List ba7)×List (List Int)) (U:List ga7×List ka7) (sat ou:Int) (a:(List Int×List Int)×Stt):List Root :=
 [A,bc7 ws a.2.1 len a.2.2,dk7 (gH 3 T.1) (gH 5 U.1) (gH 4 T.2) (gH 6 U.2) cost,trR T.1,tmR T.2,bkR U.1,riR U.2,.live false 75 2 (.box [I6 sat,lH 9 a.1.1]),.live false 63 3 (.box [I6 ou,lH 10 a.1.2,I6 0]),iR a.1.1,lR a.1.2]
theorem lic7 (s:List UInt8) (hl:s.length≤1000000):be7 Tryz.prog 10 [.c (.str (S s))] (fun r=>r=xz7 s):=by
 refine vc7 zb7 (by kernel_rfl) (fun n=>match n with | 19=>([0,1,2,3,6,7,8,9],0,some (.t [3] (dfc7 3) [14,15,16,17] [11,14,15,16,17])) | 29=>([0,1,2,5,6,7],0,some (.t [9,1] (jqc7 9) [12,13,14] [10,12,13,14])) | 32=>([0,1,2,3,6,7,8,9],0,some (.t [5] (dfc7 5) [14,15,16,17] [11,14,15,16,17])) | 39=>([0,4,1,2,3,5,6,7,8,9],0,none) | 40=>([0,4,1,2,3,5,6,7,8,9,10,11],0,none) | 41=>([],0,some (.r 0)) | _=>([],0,none)) Tryz.func10 rfl (by kernel_rfl) Tryz.ntmps10 (congrArg Array.toList Tryz.results10) (by kernel_rfl) (by simp) ?_
 simp -implicitDefEqProofs only [go_sem]
 refine wg7 (stb7 s (by omega)) (by simp -implicitDefEqProofs only [go_sem]) rfl rfl ?_
 rintro r rfl
 by_cases c3:iq7 s<s.length
 ·have e:xz7 s = .tup [.agg (ac7 gg7),.c (I6 (iq7 s)),.c (I6 3)]:=by unfold xz7 dv7;rw[if_pos c3]
  rw[e,show ws7 s = .tup [.c .nils,.c (I6 (iq7 s))] from if_pos c3]
  simp -implicitDefEqProofs only [go_sem]
  refine⟨fun _=>?_,fun h=>by omega⟩
  exact⟨_,⟨_,rfl,⟨_,_,rfl,.inr ⟨_,rfl,⟨_,_,rfl,.inr (.inr ⟨_,_,rfl⟩),_,_,rfl,.inr (.inr ⟨_,_,rfl⟩),_,_,rfl,.inr (.inr ⟨_,_,rfl⟩),_,_,rfl,.inr (.inr ⟨_,_,rfl⟩),_,_,rfl,.inl rfl,rfl⟩⟩,_,_,rfl,.inl rfl,_,_,rfl,.inl rfl,rfl⟩⟩,rfl⟩
 have eA:xz7 s = .tup [.agg (ac7 (vkb7 (ta7 s) s.length (jv7 (ta7 s))).1),.c (I6 (vkb7 (ta7 s) s.length (jv7 (ta7 s))).2.1),.c (I6 (vkb7 (ta7 s) s.length (jv7 (ta7 s))).2.2)]:=by unfold xz7 dv7;rw[if_neg c3]
 rw[eA,show ws7 s = .tup [.c (ri7 (ta7 s)),.c (I6 (-1))] from if_neg c3]
 clear eA
 have hok:=pgb7 (mtb7 c3)
 have hwn:(ta7 s).length≤1000001:=by omega
 have hw:∀w∈ta7 s,w.1.length≤1000000000000:=fun x hx=>by have:=(hok.1 x hx).2;omega
 generalize ta7 s=ws at *
 clear hok c3
 simp -implicitDefEqProofs only [go_sem]
 refine⟨fun h=>by omega,fun _=>?_⟩
 refine fnb7 (s:=(0,0)) (by simp) (fun _ s1 h1=>?_)
 have b1:=iu7 h1 (Nat.zero_le _)
 refine kb7 (by omega) hw (fun cost s2 h2=>?_)
 obtain⟨c2,b2⟩:=vb7 h2 (by decide) b1
 simp -implicitDefEqProofs only [go_sem,bc7]
 refine fnb7 (by omega) (fun _ s3 h3=>?_)
 have b3:=iu7 h3 b2
 refine kb7 (by omega) hw (fun n s4 h4=>?_)
 obtain⟨c4,b4⟩:=vb7 h4 (by decide) b3
 simp -implicitDefEqProofs only [go_sem,bc7]
 refine qc7 (ι:=Nat×((List (List ba7)×List (List Int))×Stt)) 2 [2,3,4,5,7,8,39] [40] (fun q=>(q.1≤n.toNat∧q.2.1.1.length=q.1∧q.2.1.2.length=q.1∧q.2.2.1≤ws.length)∧Go.Proofs.YtedahhjopmkbbaaGreat.rep (hc7 ws) n.toNat (([],[]),s4)=Go.Proofs.YtedahhjopmkbbaaGreat.rep (hc7 ws) (n.toNat-q.1) q.2) (fun q=>[.c (I6 q.1)]) (fun q=>wlc7 (.live false 47 5 (.box [.nils,.nils,.nils,.nils,I6 0])) ws s.length cost q.2) (fun q=>n.toNat-q.1) (by kernel_rfl) ⟨(0,([],[]),s4),⟨⟨Nat.zero_le _,rfl,rfl,b4⟩,rfl⟩,rfl,rfl⟩ (fun k _=>rfl) ?_
 rintro⟨k,⟨ss,ts⟩,s5⟩ ⟨⟨hk,hl1,hl2,hj⟩,he⟩
 simp only at hk hl1 hl2 hj he
 simp -implicitDefEqProofs only [go_sem,wlc7,dk7,bc7]
 refine⟨fun h=>?_,fun h=>?_⟩
 ·have hn:n.toNat-k=(n.toNat-(k+1))+1:=by omega
  rw[hn]at he
  rcases ss with _ | ⟨q1,ss⟩ <;> rcases ts with _ | ⟨q2,ts⟩
  rotate_left
  ·simp only[List.length_cons,List.length_nil]at hl1 hl2;omega
  ·simp only[List.length_cons,List.length_nil]at hl1 hl2;omega
  rotate_left
  ·refine kb7 (by omega) hw (fun x s6 h6=>?_)
   obtain⟨c6,b6⟩:=vb7 h6 (by decide) hj
   simp -implicitDefEqProofs only [go_sem,bc7]
   have htk:oh7 ws s5=Go.Proofs.YtedahhjopmkbbaaGreat.rep (gj7 ws) x.toNat (([],[]),s6):=by unfold oh7;rw[h6]
   refine qc7 (ι:=Nat×((List ba7×List Int)×Stt)) 2 [2,3,4,5,7,8,9,39,40,43] [44,10] (fun q=>(q.1≤x.toNat∧q.2.1.1.length=q.1∧q.2.1.2.length=q.1∧q.2.2.1≤ws.length)∧oh7 ws s5=Go.Proofs.YtedahhjopmkbbaaGreat.rep (gj7 ws) (x.toNat-q.1) q.2) (fun q=>[.c (I6 q.1),.c (lH 7 q.2.1.2)]) (fun q=>lmb7 (.live false 47 5 (.box [.nils,.nils,.nils,.nils,I6 0])) ws s.length (dk7 (gH 3 ([]:List (List ba7))) .nils (gH 4 ([]:List (List Int))) .nils cost) (([]:List (List ba7)),([]:List (List Int))) q.2) (fun q=>x.toNat-q.1) (by kernel_rfl) ⟨(0,([],[]),s6),⟨⟨Nat.zero_le _,rfl,rfl,b6⟩,htk⟩,rfl,rfl⟩ (fun k _=>rfl) ?_
   rintro⟨m,⟨sl,tl⟩,s7⟩ ⟨⟨hm,hm1,hm2,hmj⟩,hme⟩
   simp only at hm hm1 hm2 hmj hme
   clear htk
   rcases sl with _ | ⟨z,sl⟩ <;> rcases tl with _ | ⟨u,tl⟩
   rotate_left
   ·simp only[List.length_cons,List.length_nil]at hm1 hm2;omega
   ·simp only[List.length_cons,List.length_nil]at hm1 hm2;omega
   rotate_left
   all_goals
    simp -implicitDefEqProofs (maxSteps:=4000000) only [go_sem,lmb7,stH,lH,stR,lR,xu7,vh7,trR,tmR,dk7,bc7,List.length_map]
    refine⟨fun hx=>?_,fun hx=>?_⟩
   ·have hxn:x.toNat-m=(x.toNat-(m+1))+1:=by omega
    rw[hxn]at hme
    refine kb7 (by omega) hw (fun y1 t1 g1=>?_)
    obtain⟨d1,e1⟩:=vb7 g1 (by decide) hmj
    simp -implicitDefEqProofs only [go_sem,bc7]
    refine kb7 (by omega) hw (fun y2 t2 g2=>?_)
    obtain⟨d2,e2⟩:=vb7 g2 (by decide) e1
    simp -implicitDefEqProofs only [go_sem,bc7]
    refine kb7 (by omega) hw (fun y3 t3 g3=>?_)
    obtain⟨d3,e3⟩:=vb7 g3 (by decide) e2
    simp -implicitDefEqProofs only [go_sem,bc7]
    have hme2:oh7 ws s5=Go.Proofs.YtedahhjopmkbbaaGreat.rep (gj7 ws) (x.toNat-(m+1)) ((([]:List ba7)++[(⟨y1,y2⟩:ba7)],([]:List Int)++[y3]),t3):=by
     rw[hme]
     show Go.Proofs.YtedahhjopmkbbaaGreat.rep (gj7 ws) _ (gj7 ws _)=_
     unfold gj7
     simp only[g1,g2,g3]
    refine⟨by omega,(m+1,((([]:List ba7)++[(⟨y1,y2⟩:ba7)],([]:List Int)++[y3]),t3)),[9,11],⟨⟨by omega,by simp at hm1 ⊢; omega,by simp at hm2 ⊢; omega,e3⟩,hme2⟩,⟨rfl,rfl⟩,rfl, ?_,by omega⟩
    rfl
   ·have h0:x.toNat-m=0:=by omega
    rw[h0]at hme
    have hme0:oh7 ws s5=(([],[]),s7):=hme
    have he2:Go.Proofs.YtedahhjopmkbbaaGreat.rep (hc7 ws) n.toNat (([],[]),s4)=Go.Proofs.YtedahhjopmkbbaaGreat.rep (hc7 ws) (n.toNat-(k+1)) ((([]:List (List ba7))++[[]],([]:List (List Int))++[[]]),s7):=by
     rw[he]
     show Go.Proofs.YtedahhjopmkbbaaGreat.rep (hc7 ws) _ (hc7 ws _)=_
     unfold hc7
     simp only[hme0]
    clear he hme hme0
    and_intros
    all_goals try omega
    all_goals first | (refine⟨(k+1,((([]:List (List ba7))++[[]],([]:List (List Int))++[[]]),s7)),[9,11],⟨⟨by omega,by simp at hl1 ⊢; omega,by simp at hl2 ⊢; omega,hmj⟩,he2⟩,⟨rfl,rfl⟩,rfl, ?_,by omega⟩;rfl) | (refine⟨(k+1,((([]:List (List ba7))++[[]],([]:List (List Int))++[[]]),s7)),[10,11],⟨⟨by omega,by simp at hl1 ⊢; omega,by simp at hl2 ⊢; omega,hmj⟩,he2⟩,⟨rfl,rfl⟩,rfl, ?_,by omega⟩;rfl)
   ·have hxn:x.toNat-m=(x.toNat-(m+1))+1:=by omega
    rw[hxn]at hme
    simp only[List.length_cons]at hm1 hm2
    refine kb7 (by omega) hw (fun y1 t1 g1=>?_)
    obtain⟨d1,e1⟩:=vb7 g1 (by decide) hmj
    simp -implicitDefEqProofs only [go_sem,bc7]
    refine kb7 (by omega) hw (fun y2 t2 g2=>?_)
    obtain⟨d2,e2⟩:=vb7 g2 (by decide) e1
    simp -implicitDefEqProofs only [go_sem,bc7]
    refine⟨⟨by rw[List.length_map],by omega⟩, ?_⟩
    refine kb7 (by omega) hw (fun y3 t3 g3=>?_)
    obtain⟨d3,e3⟩:=vb7 g3 (by decide) e2
    simp -implicitDefEqProofs only [go_sem,bc7]
    have hme2:oh7 ws s5=Go.Proofs.YtedahhjopmkbbaaGreat.rep (gj7 ws) (x.toNat-(m+1)) (((z::sl)++[(⟨y1,y2⟩:ba7)],(u::tl)++[y3]),t3):=by
     rw[hme]
     show Go.Proofs.YtedahhjopmkbbaaGreat.rep (gj7 ws) _ (gj7 ws _)=_
     unfold gj7
     simp only[g1,g2,g3]
    and_intros
    all_goals try omega
    refine⟨(m+1,(((z::sl)++[(⟨y1,y2⟩:ba7)],(u::tl)++[y3]),t3)),[6,7],⟨⟨by omega,by simp at hm1 ⊢; omega,by simp at hm2 ⊢; omega,e3⟩,hme2⟩,⟨rfl,rfl⟩, ?_, ?_,by omega⟩
    ·simp only[List.cons_append,List.length_cons,List.length_append,List.length_nil];rfl
    ·simp only[List.cons_append,List.map_cons,List.map_append,List.map_nil,List.length_cons,List.length_append,List.length_nil]
     rfl
   ·have h0:x.toNat-m=0:=by omega
    rw[h0]at hme
    have hme0:oh7 ws s5=(((z::sl),(u::tl)),s7):=hme
    have he2:Go.Proofs.YtedahhjopmkbbaaGreat.rep (hc7 ws) n.toNat (([],[]),s4)=Go.Proofs.YtedahhjopmkbbaaGreat.rep (hc7 ws) (n.toNat-(k+1)) ((([]:List (List ba7))++[(z::sl)],([]:List (List Int))++[(u::tl)]),s7):=by
     rw[he]
     show Go.Proofs.YtedahhjopmkbbaaGreat.rep (hc7 ws) _ (hc7 ws _)=_
     unfold hc7
     simp only[hme0]
    clear he hme hme0
    and_intros
    all_goals try omega
    all_goals first | (refine⟨(k+1,((([]:List (List ba7))++[(z::sl)],([]:List (List Int))++[(u::tl)]),s7)),[9,11],⟨⟨by omega,by simp at hl1 ⊢; omega,by simp at hl2 ⊢; omega,hmj⟩,he2⟩,⟨rfl,rfl⟩,rfl, ?_,by omega⟩;rfl) | (refine⟨(k+1,((([]:List (List ba7))++[(z::sl)],([]:List (List Int))++[(u::tl)]),s7)),[10,11],⟨⟨by omega,by simp at hl1 ⊢; omega,by simp at hl2 ⊢; omega,hmj⟩,he2⟩,⟨rfl,rfl⟩,rfl, ?_,by omega⟩;rfl)
  ·simp only[List.length_cons]at hl1 hl2
   refine kb7 (by omega) hw (fun x s6 h6=>?_)
   obtain⟨c6,b6⟩:=vb7 h6 (by decide) hj
   simp -implicitDefEqProofs only [go_sem,bc7]
   have htk:oh7 ws s5=Go.Proofs.YtedahhjopmkbbaaGreat.rep (gj7 ws) x.toNat (([],[]),s6):=by unfold oh7;rw[h6]
   refine qc7 (ι:=Nat×((List ba7×List Int)×Stt)) 2 [2,3,4,5,7,8,9,39,40,43] [44,10] (fun q=>(q.1≤x.toNat∧q.2.1.1.length=q.1∧q.2.1.2.length=q.1∧q.2.2.1≤ws.length)∧oh7 ws s5=Go.Proofs.YtedahhjopmkbbaaGreat.rep (gj7 ws) (x.toNat-q.1) q.2) (fun q=>[.c (I6 q.1),.c (lH 7 q.2.1.2)]) (fun q=>lmb7 (.live false 47 5 (.box [.nils,.nils,.nils,.nils,I6 0])) ws s.length (dk7 (gH 3 (q1::ss)) .nils (gH 4 (q2::ts)) .nils cost) ((q1::ss),(q2::ts)) q.2) (fun q=>x.toNat-q.1) (by kernel_rfl) ⟨(0,([],[]),s6),⟨⟨Nat.zero_le _,rfl,rfl,b6⟩,htk⟩,rfl,rfl⟩ (fun k _=>rfl) ?_
   rintro⟨m,⟨sl,tl⟩,s7⟩ ⟨⟨hm,hm1,hm2,hmj⟩,hme⟩
   simp only at hm hm1 hm2 hmj hme
   clear htk
   rcases sl with _ | ⟨z,sl⟩ <;> rcases tl with _ | ⟨u,tl⟩
   rotate_left
   ·simp only[List.length_cons,List.length_nil]at hm1 hm2;omega
   ·simp only[List.length_cons,List.length_nil]at hm1 hm2;omega
   rotate_left
   all_goals
    simp -implicitDefEqProofs (maxSteps:=4000000) only [go_sem,lmb7,stH,lH,stR,lR,xu7,vh7,trR,tmR,dk7,bc7,List.length_map]
    refine⟨fun hx=>?_,fun hx=>?_⟩
   ·have hxn:x.toNat-m=(x.toNat-(m+1))+1:=by omega
    rw[hxn]at hme
    refine kb7 (by omega) hw (fun y1 t1 g1=>?_)
    obtain⟨d1,e1⟩:=vb7 g1 (by decide) hmj
    simp -implicitDefEqProofs only [go_sem,bc7]
    refine kb7 (by omega) hw (fun y2 t2 g2=>?_)
    obtain⟨d2,e2⟩:=vb7 g2 (by decide) e1
    simp -implicitDefEqProofs only [go_sem,bc7]
    refine kb7 (by omega) hw (fun y3 t3 g3=>?_)
    obtain⟨d3,e3⟩:=vb7 g3 (by decide) e2
    simp -implicitDefEqProofs only [go_sem,bc7]
    have hme2:oh7 ws s5=Go.Proofs.YtedahhjopmkbbaaGreat.rep (gj7 ws) (x.toNat-(m+1)) ((([]:List ba7)++[(⟨y1,y2⟩:ba7)],([]:List Int)++[y3]),t3):=by
     rw[hme]
     show Go.Proofs.YtedahhjopmkbbaaGreat.rep (gj7 ws) _ (gj7 ws _)=_
     unfold gj7
     simp only[g1,g2,g3]
    refine⟨by omega,(m+1,((([]:List ba7)++[(⟨y1,y2⟩:ba7)],([]:List Int)++[y3]),t3)),[9,11],⟨⟨by omega,by simp at hm1 ⊢; omega,by simp at hm2 ⊢; omega,e3⟩,hme2⟩,⟨rfl,rfl⟩,rfl, ?_,by omega⟩
    rfl
   ·have h0:x.toNat-m=0:=by omega
    rw[h0]at hme
    have hme0:oh7 ws s5=(([],[]),s7):=hme
    have he2:Go.Proofs.YtedahhjopmkbbaaGreat.rep (hc7 ws) n.toNat (([],[]),s4)=Go.Proofs.YtedahhjopmkbbaaGreat.rep (hc7 ws) (n.toNat-(k+1)) (((q1::ss)++[[]],(q2::ts)++[[]]),s7):=by
     rw[he]
     show Go.Proofs.YtedahhjopmkbbaaGreat.rep (hc7 ws) _ (hc7 ws _)=_
     unfold hc7
     simp only[hme0]
    clear he hme hme0
    and_intros
    all_goals try omega
    all_goals first | (refine⟨(k+1,(((q1::ss)++[[]],(q2::ts)++[[]]),s7)),[3,4],⟨⟨by omega,by simp at hl1 ⊢; omega,by simp at hl2 ⊢; omega,hmj⟩,he2⟩,⟨rfl,rfl⟩,rfl, ?_,by omega⟩;simp only[List.cons_append,vh7,trR,tmR,List.map_cons,List.map_append,List.map_nil,List.length_cons,List.length_append,List.length_nil];rfl)
   ·have hxn:x.toNat-m=(x.toNat-(m+1))+1:=by omega
    rw[hxn]at hme
    simp only[List.length_cons]at hm1 hm2
    refine kb7 (by omega) hw (fun y1 t1 g1=>?_)
    obtain⟨d1,e1⟩:=vb7 g1 (by decide) hmj
    simp -implicitDefEqProofs only [go_sem,bc7]
    refine kb7 (by omega) hw (fun y2 t2 g2=>?_)
    obtain⟨d2,e2⟩:=vb7 g2 (by decide) e1
    simp -implicitDefEqProofs only [go_sem,bc7]
    refine⟨⟨by rw[List.length_map],by omega⟩, ?_⟩
    refine kb7 (by omega) hw (fun y3 t3 g3=>?_)
    obtain⟨d3,e3⟩:=vb7 g3 (by decide) e2
    simp -implicitDefEqProofs only [go_sem,bc7]
    have hme2:oh7 ws s5=Go.Proofs.YtedahhjopmkbbaaGreat.rep (gj7 ws) (x.toNat-(m+1)) (((z::sl)++[(⟨y1,y2⟩:ba7)],(u::tl)++[y3]),t3):=by
     rw[hme]
     show Go.Proofs.YtedahhjopmkbbaaGreat.rep (gj7 ws) _ (gj7 ws _)=_
     unfold gj7
     simp only[g1,g2,g3]
    and_intros
    all_goals try omega
    refine⟨(m+1,(((z::sl)++[(⟨y1,y2⟩:ba7)],(u::tl)++[y3]),t3)),[6,7],⟨⟨by omega,by simp at hm1 ⊢; omega,by simp at hm2 ⊢; omega,e3⟩,hme2⟩,⟨rfl,rfl⟩, ?_, ?_,by omega⟩
    ·simp only[List.cons_append,List.length_cons,List.length_append,List.length_nil];rfl
    ·simp only[List.cons_append,List.map_cons,List.map_append,List.map_nil,List.length_cons,List.length_append,List.length_nil]
     rfl
   ·have h0:x.toNat-m=0:=by omega
    rw[h0]at hme
    have hme0:oh7 ws s5=(((z::sl),(u::tl)),s7):=hme
    have he2:Go.Proofs.YtedahhjopmkbbaaGreat.rep (hc7 ws) n.toNat (([],[]),s4)=Go.Proofs.YtedahhjopmkbbaaGreat.rep (hc7 ws) (n.toNat-(k+1)) (((q1::ss)++[(z::sl)],(q2::ts)++[(u::tl)]),s7):=by
     rw[he]
     show Go.Proofs.YtedahhjopmkbbaaGreat.rep (hc7 ws) _ (hc7 ws _)=_
     unfold hc7
     simp only[hme0]
    clear he hme hme0
    and_intros
    all_goals try omega
    all_goals first | (refine⟨(k+1,(((q1::ss)++[(z::sl)],(q2::ts)++[(u::tl)]),s7)),[3,4],⟨⟨by omega,by simp at hl1 ⊢; omega,by simp at hl2 ⊢; omega,hmj⟩,he2⟩,⟨rfl,rfl⟩,rfl, ?_,by omega⟩;simp only[List.cons_append,vh7,trR,tmR,List.map_cons,List.map_append,List.map_nil,List.length_cons,List.length_append,List.length_nil];rfl)
 ·have h0:n.toNat-k=0:=by omega
  rw[h0]at he
  have hT:Go.Proofs.YtedahhjopmkbbaaGreat.rep (hc7 ws) n.toNat (([],[]),s4)=((ss,ts),s5):=he
  clear he h0 hk hl1 hl2 h
  refine fnb7 (by omega) (fun _ s6 h6=>?_)
  have b6:=iu7 h6 hj
  simp -implicitDefEqProofs only [go_sem,bc7]
  refine kb7 (by omega) hw (fun m s7 h7=>?_)
  obtain⟨c7,b7⟩:=vb7 h7 (by decide) b6
  simp -implicitDefEqProofs only [go_sem,bc7]
  have hS:jv7 ws=((⟨⟨ss,(Go.Proofs.YtedahhjopmkbbaaGreat.rep (rd7 ws) m.toNat (([],[]),s7)).1.1⟩,⟨ts,(Go.Proofs.YtedahhjopmkbbaaGreat.rep (rd7 ws) m.toNat (([],[]),s7)).1.2⟩,cost⟩:zd7),tbb7 ws [101,110,100] (Go.Proofs.YtedahhjopmkbbaaGreat.rep (rd7 ws) m.toNat (([],[]),s7)).2):=by
   unfold jv7
   simp only[h1,h2,h3,h4,hT,h6,h7]
  clear h1 h2 h3 h4 hT h6 h7 hj b6
  refine qc7 (ι:=Nat×((List ga7×List ka7)×Stt)) 2 [2,3,4,5,7,8,84] [85] (fun q=>(q.1≤m.toNat∧q.2.1.1.length=q.1∧q.2.1.2.length=q.1∧q.2.2.1≤ws.length)∧Go.Proofs.YtedahhjopmkbbaaGreat.rep (rd7 ws) m.toNat (([],[]),s7)=Go.Proofs.YtedahhjopmkbbaaGreat.rep (rd7 ws) (m.toNat-q.1) q.2) (fun q=>[.c (I6 q.1)]) (fun q=>vrb7 (.live false 47 5 (.box [.nils,.nils,.nils,.nils,I6 0])) ws s.length cost (ss,ts) q.2) (fun q=>m.toNat-q.1) (by kernel_rfl) ⟨(0,([],[]),s7),⟨⟨Nat.zero_le _,rfl,rfl,b7⟩,rfl⟩,rfl,rfl⟩ (fun k _=>rfl) ?_
  rintro⟨k,⟨bs,rs⟩,s8⟩ ⟨⟨hk,hl1,hl2,hj⟩,he⟩
  simp only at hk hl1 hl2 hj he
  simp -implicitDefEqProofs only [go_sem,vrb7,dk7,bc7]
  refine⟨fun h=>?_,fun h=>?_⟩
  ·clear hS
   have hn:m.toNat-k=(m.toNat-(k+1))+1:=by omega
   rw[hn]at he
   refine kb7 (by omega) hw (fun sat s9 h9=>?_)
   obtain⟨c9,b9⟩:=vb7 h9 (by decide) hj
   simp -implicitDefEqProofs only [go_sem,bc7]
   refine kb7 (by omega) hw (fun ou s10 h10=>?_)
   obtain⟨c10,b10⟩:=vb7 h10 (by decide) b9
   simp -implicitDefEqProofs only [go_sem,bc7]
   refine kb7 (by omega) hw (fun x s11 h11=>?_)
   obtain⟨c11,b11⟩:=vb7 h11 (by decide) b10
   simp -implicitDefEqProofs only [go_sem,bc7]
   have htk:et7 ws s10=Go.Proofs.YtedahhjopmkbbaaGreat.rep (mr7 ws) x.toNat (([],[]),s11):=by unfold et7;rw[h11]
   clear h11 h
   refine qc7 (ι:=Nat×((List Int×List Int)×Stt)) 2 [2,3,4,5,7,8,13,14,84,85,94] [95] (fun q=>(q.1≤x.toNat∧q.2.1.1.length=q.1∧q.2.1.2.length=q.1∧q.2.2.1≤ws.length)∧et7 ws s10=Go.Proofs.YtedahhjopmkbbaaGreat.rep (mr7 ws) (x.toNat-q.1) q.2) (fun q=>[.c (I6 q.1)]) (fun q=>sec7 (.live false 47 5 (.box [.nils,.nils,.nils,.nils,I6 0])) ws s.length cost (ss,ts) (bs,rs) sat ou q.2) (fun q=>x.toNat-q.1) (by kernel_rfl) ⟨(0,([],[]),s11),⟨⟨Nat.zero_le _,rfl,rfl,b11⟩,htk⟩,rfl,rfl⟩ (fun k _=>rfl) ?_
   rintro⟨j,⟨sl,tl⟩,s12⟩ ⟨⟨hm,hm1,hm2,hmj⟩,hme⟩
   simp only at hm hm1 hm2 hmj hme
   clear htk
   rcases sl with _ | ⟨z,sl⟩ <;> rcases tl with _ | ⟨u,tl⟩
   rotate_left
   ·simp only[List.length_cons,List.length_nil]at hm1 hm2;omega
   ·simp only[List.length_cons,List.length_nil]at hm1 hm2;omega
   rotate_left
   all_goals
    simp -implicitDefEqProofs (maxSteps:=4000000) only [go_sem,sec7,iR,lH,lR,dk7,bc7,List.length_map]
    refine⟨fun hx=>?_,fun hx=>?_⟩
   ·have hxn:x.toNat-j=(x.toNat-(j+1))+1:=by omega
    rw[hxn]at hme
    refine kb7 (by omega) hw (fun y1 t1 g1=>?_)
    obtain⟨d1,e1⟩:=vb7 g1 (by decide) hmj
    simp -implicitDefEqProofs (maxSteps:=4000000) only [go_sem,bc7]
    repeat' with_reducible refine And.intro ?_ ?_
    all_goals try omega
    all_goals
     refine zgb7 (by omega) hw (fun y2 t2 g2=>?_)
     obtain⟨d2,e2⟩:=vb7 g2 (by decide) e1
     simp -implicitDefEqProofs (maxSteps:=4000000) only [go_sem,bc7]
     have hme2:et7 ws s10=Go.Proofs.YtedahhjopmkbbaaGreat.rep (mr7 ws) (x.toNat-(j+1)) ((([]:List Int)++[y1],([]:List Int)++[y2]),t2):=by
      rw[hme]
      show Go.Proofs.YtedahhjopmkbbaaGreat.rep (mr7 ws) _ (mr7 ws _)=_
      unfold mr7
      simp only[g1,g2]
     and_intros
     all_goals try omega
     all_goals
      refine⟨(j+1,((([]:List Int)++[y1],([]:List Int)++[y2]),t2)),[12,14],⟨⟨by omega,by simp at hm1 ⊢; omega,by simp at hm2 ⊢; omega,e2⟩,hme2⟩,⟨rfl,rfl⟩,rfl, ?_,by omega⟩
      simp only[ma7 _ (show 3<9 by decide),ma7 _ (show 4<9 by decide),ma7 _ (show 5<9 by decide),ma7 _ (show 6<9 by decide)]
      rw[ya7 _ 9 _ _ (by decide),za7 _ 9 _ _ (by decide),eeb7 _ 9 _ _ (by decide),ncb7 _ 9 _ _ (by decide)]
      rfl
   ·have h0:x.toNat-j=0:=by omega
    rw[h0]at hme
    have hme0:et7 ws s10=(([],[]),s12):=hme
    clear hme
    rcases bs with _ | ⟨q1,bs⟩ <;> rcases rs with _ | ⟨q2,rs⟩
    rotate_left
    ·simp only[List.length_cons,List.length_nil]at hl1 hl2;omega
    ·simp only[List.length_cons,List.length_nil]at hl1 hl2;omega
    rotate_left
    ·refine kb7 (by omega) hw (fun bk s13 h13=>?_)
     obtain⟨c13,b13⟩:=vb7 h13 (by decide) hmj
     have he2:Go.Proofs.YtedahhjopmkbbaaGreat.rep (rd7 ws) m.toNat (([],[]),s7)=Go.Proofs.YtedahhjopmkbbaaGreat.rep (rd7 ws) (m.toNat-(k+1)) ((([]:List ga7)++[(⟨sat,[]⟩:ga7)],([]:List ka7)++[(⟨ou,[],bk⟩:ka7)]),s13):=by
      rw[he]
      show Go.Proofs.YtedahhjopmkbbaaGreat.rep (rd7 ws) _ (rd7 ws _)=_
      unfold rd7
      simp only[h9,h10,hme0,h13]
     clear he hme0 h9 h10 h13
     simp -implicitDefEqProofs (maxSteps:=4000000) only [go_sem,bc7,xu7,vh7,bkR,riR,List.length_map]
     and_intros
     all_goals try omega
     all_goals first | (refine⟨(k+1,((([]:List ga7)++[(⟨sat,[]⟩:ga7)],([]:List ka7)++[(⟨ou,[],bk⟩:ka7)]),s13)),[12,14],⟨⟨by omega,by simp at hl1 ⊢; omega,by simp at hl2 ⊢; omega,b13⟩,he2⟩,⟨rfl,rfl⟩,rfl, ?_,by omega⟩;simp only[ma7 _ (show 3<5 by decide),ma7 _ (show 4<5 by decide)];rw[ya7 _ 5 _ _ (by decide),za7 _ 5 _ _ (by decide)];rfl) | (refine⟨(k+1,((([]:List ga7)++[(⟨sat,[]⟩:ga7)],([]:List ka7)++[(⟨ou,[],bk⟩:ka7)]),s13)),[13,14],⟨⟨by omega,by simp at hl1 ⊢; omega,by simp at hl2 ⊢; omega,b13⟩,he2⟩,⟨rfl,rfl⟩,rfl, ?_,by omega⟩;simp only[ma7 _ (show 3<5 by decide),ma7 _ (show 4<5 by decide)];rw[ya7 _ 5 _ _ (by decide),za7 _ 5 _ _ (by decide)];rfl)
    ·simp only[List.length_cons]at hl1 hl2
     refine kb7 (by omega) hw (fun bk s13 h13=>?_)
     obtain⟨c13,b13⟩:=vb7 h13 (by decide) hmj
     have he2:Go.Proofs.YtedahhjopmkbbaaGreat.rep (rd7 ws) m.toNat (([],[]),s7)=Go.Proofs.YtedahhjopmkbbaaGreat.rep (rd7 ws) (m.toNat-(k+1)) (((q1::bs)++[(⟨sat,[]⟩:ga7)],(q2::rs)++[(⟨ou,[],bk⟩:ka7)]),s13):=by
      rw[he]
      show Go.Proofs.YtedahhjopmkbbaaGreat.rep (rd7 ws) _ (rd7 ws _)=_
      unfold rd7
      simp only[h9,h10,hme0,h13]
     clear he hme0 h9 h10 h13
     simp -implicitDefEqProofs (maxSteps:=4000000) only [go_sem,bc7,xu7,vh7,bkR,riR,List.length_map]
     and_intros
     all_goals try omega
     all_goals first | (refine⟨(k+1,(((q1::bs)++[(⟨sat,[]⟩:ga7)],(q2::rs)++[(⟨ou,[],bk⟩:ka7)]),s13)),[5,6],⟨⟨by omega,by simp at hl1 ⊢; omega,by simp at hl2 ⊢; omega,b13⟩,he2⟩,⟨rfl,rfl⟩,rfl, ?_,by omega⟩;simp only[ma7 _ (show 3<5 by decide),ma7 _ (show 4<5 by decide)];rw[ya7 _ 5 _ _ (by decide),za7 _ 5 _ _ (by decide)];simp only[List.cons_append,vh7,bkR,riR,List.map_cons,List.map_append,List.map_nil,List.length_cons,List.length_append,List.length_nil];rfl)
   ·have hxn:x.toNat-j=(x.toNat-(j+1))+1:=by omega
    rw[hxn]at hme
    simp only[List.length_cons]at hm1 hm2
    refine kb7 (by omega) hw (fun y1 t1 g1=>?_)
    obtain⟨d1,e1⟩:=vb7 g1 (by decide) hmj
    simp -implicitDefEqProofs (maxSteps:=4000000) only [go_sem,bc7]
    repeat' with_reducible refine And.intro ?_ ?_
    all_goals try omega
    all_goals
     refine zgb7 (by omega) hw (fun y2 t2 g2=>?_)
     obtain⟨d2,e2⟩:=vb7 g2 (by decide) e1
     simp -implicitDefEqProofs (maxSteps:=4000000) only [go_sem,bc7]
     have hme2:et7 ws s10=Go.Proofs.YtedahhjopmkbbaaGreat.rep (mr7 ws) (x.toNat-(j+1)) (((z::sl)++[y1],(u::tl)++[y2]),t2):=by
      rw[hme]
      show Go.Proofs.YtedahhjopmkbbaaGreat.rep (mr7 ws) _ (mr7 ws _)=_
      unfold mr7
      simp only[g1,g2]
     and_intros
     all_goals try omega
     all_goals
      refine⟨(j+1,(((z::sl)++[y1],(u::tl)++[y2]),t2)),[9,10],⟨⟨by omega,by simp at hm1 ⊢; omega,by simp at hm2 ⊢; omega,e2⟩,hme2⟩,⟨rfl,rfl⟩,rfl, ?_,by omega⟩
      simp only[ma7 _ (show 3<9 by decide),ma7 _ (show 4<9 by decide),ma7 _ (show 5<9 by decide),ma7 _ (show 6<9 by decide)]
      rw[ya7 _ 9 _ _ (by decide),za7 _ 9 _ _ (by decide),eeb7 _ 9 _ _ (by decide),ncb7 _ 9 _ _ (by decide)]
      simp only[List.cons_append,List.length_cons,List.length_append,List.length_nil];rfl
   ·have h0:x.toNat-j=0:=by omega
    rw[h0]at hme
    have hme0:et7 ws s10=(((z::sl),(u::tl)),s12):=hme
    clear hme
    rcases bs with _ | ⟨q1,bs⟩ <;> rcases rs with _ | ⟨q2,rs⟩
    rotate_left
    ·simp only[List.length_cons,List.length_nil]at hl1 hl2;omega
    ·simp only[List.length_cons,List.length_nil]at hl1 hl2;omega
    rotate_left
    ·refine kb7 (by omega) hw (fun bk s13 h13=>?_)
     obtain⟨c13,b13⟩:=vb7 h13 (by decide) hmj
     have he2:Go.Proofs.YtedahhjopmkbbaaGreat.rep (rd7 ws) m.toNat (([],[]),s7)=Go.Proofs.YtedahhjopmkbbaaGreat.rep (rd7 ws) (m.toNat-(k+1)) ((([]:List ga7)++[(⟨sat,(z::sl)⟩:ga7)],([]:List ka7)++[(⟨ou,(u::tl),bk⟩:ka7)]),s13):=by
      rw[he]
      show Go.Proofs.YtedahhjopmkbbaaGreat.rep (rd7 ws) _ (rd7 ws _)=_
      unfold rd7
      simp only[h9,h10,hme0,h13]
     clear he hme0 h9 h10 h13
     simp -implicitDefEqProofs (maxSteps:=4000000) only [go_sem,bc7,xu7,vh7,bkR,riR,List.length_map]
     and_intros
     all_goals try omega
     all_goals first | (refine⟨(k+1,((([]:List ga7)++[(⟨sat,(z::sl)⟩:ga7)],([]:List ka7)++[(⟨ou,(u::tl),bk⟩:ka7)]),s13)),[12,14],⟨⟨by omega,by simp at hl1 ⊢; omega,by simp at hl2 ⊢; omega,b13⟩,he2⟩,⟨rfl,rfl⟩,rfl, ?_,by omega⟩;simp only[ma7 _ (show 3<5 by decide),ma7 _ (show 4<5 by decide)];rw[ya7 _ 5 _ _ (by decide),za7 _ 5 _ _ (by decide)];rfl) | (refine⟨(k+1,((([]:List ga7)++[(⟨sat,(z::sl)⟩:ga7)],([]:List ka7)++[(⟨ou,(u::tl),bk⟩:ka7)]),s13)),[13,14],⟨⟨by omega,by simp at hl1 ⊢; omega,by simp at hl2 ⊢; omega,b13⟩,he2⟩,⟨rfl,rfl⟩,rfl, ?_,by omega⟩;simp only[ma7 _ (show 3<5 by decide),ma7 _ (show 4<5 by decide)];rw[ya7 _ 5 _ _ (by decide),za7 _ 5 _ _ (by decide)];rfl)
    ·simp only[List.length_cons]at hl1 hl2
     refine kb7 (by omega) hw (fun bk s13 h13=>?_)
     obtain⟨c13,b13⟩:=vb7 h13 (by decide) hmj
     have he2:Go.Proofs.YtedahhjopmkbbaaGreat.rep (rd7 ws) m.toNat (([],[]),s7)=Go.Proofs.YtedahhjopmkbbaaGreat.rep (rd7 ws) (m.toNat-(k+1)) (((q1::bs)++[(⟨sat,(z::sl)⟩:ga7)],(q2::rs)++[(⟨ou,(u::tl),bk⟩:ka7)]),s13):=by
      rw[he]
      show Go.Proofs.YtedahhjopmkbbaaGreat.rep (rd7 ws) _ (rd7 ws _)=_
      unfold rd7
      simp only[h9,h10,hme0,h13]
     clear he hme0 h9 h10 h13
     simp -implicitDefEqProofs (maxSteps:=4000000) only [go_sem,bc7,xu7,vh7,bkR,riR,List.length_map]
     and_intros
     all_goals try omega
     all_goals first | (refine⟨(k+1,(((q1::bs)++[(⟨sat,(z::sl)⟩:ga7)],(q2::rs)++[(⟨ou,(u::tl),bk⟩:ka7)]),s13)),[5,6],⟨⟨by omega,by simp at hl1 ⊢; omega,by simp at hl2 ⊢; omega,b13⟩,he2⟩,⟨rfl,rfl⟩,rfl, ?_,by omega⟩;simp only[ma7 _ (show 3<5 by decide),ma7 _ (show 4<5 by decide)];rw[ya7 _ 5 _ _ (by decide),za7 _ 5 _ _ (by decide)];simp only[List.cons_append,vh7,bkR,riR,List.map_cons,List.map_append,List.map_nil,List.length_cons,List.length_append,List.length_nil];rfl)
  ·have h0:m.toNat-k=0:=by omega
   rw[h0]at he
   have hB:Go.Proofs.YtedahhjopmkbbaaGreat.rep (rd7 ws) m.toNat (([],[]),s7)=((bs,rs),s8):=he
   rw[hB]at hS
   clear he hB
   refine fnb7 (by omega) (fun _ s14 h14=>?_)
   have b14:=iu7 h14 hj
   simp only at hS
   rw[h14]at hS
   rw[hS]
   clear hS h14
   obtain⟨i,c⟩:=s14
   simp only at b14
   have zero:∀a c:Int,∃r',ksb7 (.tup [.agg [.nils,.nils,.nils,.nils,I6 0],.c (I6 a),.c (I6 c)]) r'∧r' = .tup [.agg (ac7 gg7),.c (I6 a),.c (I6 c)]:=fun a c=>⟨_,⟨_,rfl,⟨_,_,rfl,.inr ⟨_,rfl,⟨_,_,rfl,.inr (.inr ⟨_,_,rfl⟩),_,_,rfl,.inr (.inr ⟨_,_,rfl⟩),_,_,rfl,.inr (.inr ⟨_,_,rfl⟩),_,_,rfl,.inr (.inr ⟨_,_,rfl⟩),_,_,rfl,.inl rfl,rfl⟩⟩,_,_,rfl,.inl rfl,_,_,rfl,.inl rfl,rfl⟩⟩,rfl⟩
   have fin:∀(x:zd7) (a b c d:AV),Eqv a (.sl x.plan.trucks.length 1 (fun i _=>yl7 (cf7 x.plan i)))→Eqv b (.sl x.plan.bikes.length 2 (fun i=>ix2 (I6 (le7 x.plan i).sat) (ld7 (le7 x.plan i).stops)))→Eqv c (.sl x.times.trucks.length 1 (fun i _=>ld7 (im7 x.times i)))→Eqv d (.sl x.times.bikes.length 3 (fun i=>ix3 (I6 (nf7 x.times i).out) (ld7 (nf7 x.times i).starts) (I6 (nf7 x.times i).back))) →
     ∃r',ksb7 (.tup [.agg [a,b,c,d,I6 x.cost],.c (I6 0),.c (I6 0)]) r'∧r' = .tup [.agg (ac7 x),.c (I6 0),.c (I6 0)]:=fun x a b c d q1 q2 q3 q4=>⟨_,⟨_,rfl,⟨_,_,rfl,.inr ⟨_,rfl,⟨_,_,rfl,.inr q1,_,_,rfl,.inr q2,_,_,rfl,.inr q3,_,_,rfl,.inr q4,_,_,rfl,.inl rfl,rfl⟩⟩,_,_,rfl,.inl rfl,_,_,rfl,.inl rfl,rfl⟩⟩,rfl⟩
   by_cases hi:i<ws.length <;> by_cases hc:c=0
   ·subst hc
    rw[show vkb7 ws s.length (⟨⟨ss,bs⟩,⟨ts,rs⟩,cost⟩,i,0)=(gg7,((ws.getD i ([],0)).2:Int),6) by unfold vkb7 hg7;simp[hi]]
    simp -implicitDefEqProofs only [go_sem,bc7]
    repeat' first | intro _ | with_reducible refine And.intro ?_ ?_
    all_goals first | omega | exact zero _ _ | contradiction
   ·rw[show vkb7 ws s.length (⟨⟨ss,bs⟩,⟨ts,rs⟩,cost⟩,i,c)=(gg7,((ws.getD i ([],0)).2:Int),c) by unfold vkb7 hg7;simp[hi,hc]]
    simp -implicitDefEqProofs only [go_sem,bc7]
    repeat' first | intro _ | with_reducible refine And.intro ?_ ?_
    all_goals first | omega | exact zero _ _ | contradiction
   ·subst hc
    rw[show vkb7 ws s.length (⟨⟨ss,bs⟩,⟨ts,rs⟩,cost⟩,i,0)=(⟨⟨ss,bs⟩,⟨ts,rs⟩,cost⟩,0,0) by unfold vkb7 hg7;simp[hi]]
    simp -implicitDefEqProofs only [go_sem,bc7]
    refine⟨fun h=>by omega,fun _=>?_⟩
    refine⟨fun h=>(by first | omega | contradiction), ?_⟩
    rcases ss with _ | ⟨q1,ss⟩ <;> rcases bs with _ | ⟨q2,bs⟩ <;> rcases ts with _ | ⟨q3,ts⟩ <;> rcases rs with _ | ⟨q4,rs⟩
    all_goals
     simp -implicitDefEqProofs only [go_sem,xu7,vh7,trR,tmR,bkR,riR,List.length_map]
     refine fin ⟨⟨_,_⟩,⟨_,_⟩,cost⟩ _ _ _ _ ?_ ?_ ?_ ?_
    all_goals
     first
     | exact .inr ⟨_,_,rfl⟩
     | exact hub7 (q1::ss) _ (fun _ _=>rfl)
     | exact wsb7 (q3::ts) _ (fun _ _=>rfl)
     | exact xec7 (q2::bs) _ (fun _ _=>rfl)
     | exact zdc7 (q4::rs) _ (fun _ _=>rfl)
   ·rw[show vkb7 ws s.length (⟨⟨ss,bs⟩,⟨ts,rs⟩,cost⟩,i,c)=(gg7,(s.length:Int),c) by unfold vkb7 hg7;simp[hi,hc]]
    simp -implicitDefEqProofs only [go_sem,bc7]
    repeat' first | intro _ | with_reducible refine And.intro ?_ ?_
    all_goals first | omega | exact zero _ _ | contradiction
theorem xzb7 {p q:ua7}(hp:jt7 p) (hq:jt7 q):be7 Tryz.prog 32 [.agg (pd7 p),.agg (pd7 q)] (fun r=>r = .c (.bool (decide (p=q)))) :=
 qj7 ⟨_,_,Tryz.func32,by kernel_rfl,rfl⟩ fun rho w vs hcv=>by
  obtain⟨_,_,rfl,⟨cs,rfl,h1⟩,_,_,rfl,⟨ds,rfl,h2⟩,rfl⟩:=hcv
  refine (vcc7 (cpb7 h1 hp) (cpb7 h2 hq)).mono ?_
  rintro e w' ⟨rfl,hb⟩
  exact⟨_,_,rfl,rfl,rfl,hb⟩
theorem edc7 {a:zd7}(ha:jt7 a.plan) (ta:cz7 a.times) (hla:a.times.trucks.length≤1000000000000000∧a.times.bikes.length≤1000000000000000):be7 Tryz.prog 11 [.agg (ac7 a),.agg (ac7 a)] (fun r=>r = .c (.bool true)):=by
 refine vc7 zb7 (by kernel_rfl) (fun _=>([],0,none)) Tryz.func11 rfl (by kernel_rfl) Tryz.ntmps11 (congrArg Array.toList Tryz.results11) (by kernel_rfl) (by simp) ?_
 simp -implicitDefEqProofs only [go_sem,ac7,pd7,mb7]
 refine pb7 (xzb7 ha ha) ⟨trivial,trivial,trivial⟩ rfl (fun r h=>by subst h;rfl) ?_
 rintro r rfl
 rw[decide_eq_true (rfl:a.plan=a.plan)]
 simp -implicitDefEqProofs only [go_sem,eq_self,not_true_eq_false,not_false_eq_true,decide_false,decide_true,Bool.not_false,Bool.not_true,Bool.or_false,Bool.false_or,Bool.true_or,Bool.or_true,Bool.and_true,Bool.true_and,Bool.false_and,Bool.and_false,true_implies]
 refine pb7 (hnc7 ta ta hla) ⟨trivial,trivial,trivial⟩ rfl (fun r h=>by subst h;rfl) ?_
 rintro r rfl
 rw[decide_eq_true (rfl:a.times=a.times)]
 simp -implicitDefEqProofs only [go_sem,eq_self,not_true_eq_false,not_false_eq_true,decide_false,decide_true,Bool.not_false,Bool.not_true,Bool.or_false,Bool.false_or,Bool.true_or,Bool.or_true,Bool.and_true,Bool.true_and,Bool.false_and,Bool.and_false,true_implies]
open Go.RowKit Go.Lib
theorem icb7:wic7 gg7.plan gg7.times gg7.cost:=⟨by decide,by decide,rfl,rfl,fun i hi=>absurd hi (Nat.not_lt_zero _),fun i hi=>absurd hi (Nat.not_lt_zero _),nn0⟩
theorem fcc7 (s:List UInt8):wic7 (fj7 s).1.plan (fj7 s).1.times (fj7 s).1.cost:=by
 unfold fj7
 split
 ·exact icb7
 ·split
  ·exact icb7
  ·unfold bgc7
   split
   ·rename_i x i hx
    split
    ·exact icb7
    ·exact (ibb7 hx).2
   ·exact icb7
theorem quc7 {p:ua7}{t:nb7}{c:Int}(h:wic7 p t c):jt7 p∧cz7 t∧(t.trucks.length≤1000000000000000∧t.bikes.length≤1000000000000000) :=
 ⟨⟨fun l hl=>(h.text.st l hl).2,fun b hb=>(h.text.sb b hb).2⟩,⟨h.text.tt,h.text.tb⟩,by have:=h.et;have:=h.nt;omega,by have:=h.eb;have:=h.nb;omega⟩
theorem urb7 {p:ua7}{t:nb7}{c:Int}(ok:ce7 p t c) (hf:isc7 p):ws7 (cg7 p t c) = .tup [.c (ri7 (ta7 (cg7 p t c))),.c (I6 (-1))]∧1≤(ta7 (cg7 p t c)).length∧keb7 ((ta7 (cg7 p t c)).map (·.1))≤30001:=by
 obtain⟨l,h1,h2,h3⟩:=yfb7 p t c
 obtain⟨h4,h5⟩:=yz7 h1
 have hl:=vob7 ok hf
 rw[← h2]at hl ⊢
 refine⟨if_neg (by omega), ?_, ?_⟩
 ·have e:=congrArg List.length h4
  rw[h3]at e
  rw[List.length_map]at e
  rw[e]
  unfold sab7 vm7
  simp only[List.length_append,List.length_cons,List.length_nil]
  omega
 ·have:=jdb7 (we7 l) ((we7 l).length+1)
  unfold ta7
  omega
theorem jzb7 (ws:List (List UInt8×Nat)) {k:Nat}(h:k<ws.length):keb7 ((ws.take (k+1)).map (·.1))=keb7 ((ws.take k).map (·.1))+((wdN ws k).length+1):=by
 unfold keb7 wdN
 rw[List.take_succ_eq_append_getElem h,List.getD_eq_getElem?_getD,List.getElem?_eq_getElem h,List.map_append,List.map_append,List.sum_append]
 rfl
theorem lxb7 (ws:List (List UInt8×Nat)) (k:Nat):keb7 ((ws.take k).map (·.1))≤keb7 (ws.map (·.1)):=by
 unfold keb7
 rw[show ((ws.map (·.1)).map fun w=>w.length+1).sum=(((ws.take k++ws.drop k).map (·.1)).map fun w=>w.length+1).sum by rw[List.take_append_drop],List.map_append,List.map_append,List.sum_append]
 omega
theorem gnb7:∀ws:List (List UInt8×Nat),ws.length≤keb7 (ws.map (·.1))
 | []=>Nat.le_refl _
 | w::ws=>by
  have:=gnb7 ws
  unfold keb7 at this ⊢
  simp only[List.map_cons,List.sum_cons,List.length_cons]at this ⊢
  omega
theorem xdb7 {s:jb7}{wi:df7}{m:List Int×Int}{which what:Nat}{other:List UInt8}(hs:SmallK s) (hw:vvb7 wi) (hm:lgb7 m.1 m.2) (hwi:which≤65535) :
  be7 Tryz.prog 3 [.agg (fv7 s),.agg (cjb7 wi),.agg (dy7 m),.c (.int .u16 which),.c (.int .u8 what),.c (.str (S other))] (fun r=>r = .c (.bool true)):=by
 have hany:=gnc7 (cost:=77) hs hw hm
 have hfew:=ysb7 hs wi
 have hok:∀t,cz7 t→ce7 (fg7 (yj7 s) wi) t 77:=fun t ht=>vqc7 (smb7 hs) wi hfew ht (by unfold oa7;decide)
 generalize fg7 (yj7 s) wi=p at hany hok hfew
 refine vc7 zb7 (by kernel_rfl) (fun n=>match n with | _=>([],0,none)) Tryz.func3 rfl (by kernel_rfl) Tryz.ntmps3 (congrArg Array.toList Tryz.results3) (by kernel_rfl) (by simp) ?_
 simp -implicitDefEqProofs only [go_sem,fv7,cjb7,dy7]
 refine pb7 crb7 trivial rfl (fun r h=>by subst h;rfl) ?_
 rintro r rfl
 (try simp -implicitDefEqProofs only [go_sem,eq_self,not_true_eq_false,not_false_eq_true,decide_false,decide_true,Bool.not_false,Bool.not_true,Bool.or_false,Bool.false_or,Bool.true_or,Bool.or_true,Bool.and_true,Bool.true_and,Bool.false_and,Bool.and_false,true_implies])
 refine fun ho=>?_
 refine wg7 hany (by simp -implicitDefEqProofs only [go_sem]) rfl rfl ?_
 rintro r ⟨t,ht,rfl⟩
 have hT:=hok t ht
 simp -implicitDefEqProofs only [go_sem,ac7,pd7,mb7]
 refine pb7 (rhc7 (s:=⟨p,t,77⟩) hT) (by simp -implicitDefEqProofs only [go_sem]) rfl (fun r h=>by subst h;rfl) ?_
 rintro r rfl
 (try simp -implicitDefEqProofs only [go_sem,eq_self,not_true_eq_false,not_false_eq_true,decide_false,decide_true,Bool.not_false,Bool.not_true,Bool.or_false,Bool.false_or,Bool.true_or,Bool.or_true,Bool.and_true,Bool.true_and,Bool.false_and,Bool.and_false,true_implies])
 have hfl:=vob7 hT hfew
 refine wg7 (stb7 (cg7 p t 77) (by omega)) (by simp -implicitDefEqProofs only [go_sem]) rfl rfl ?_
 rintro r rfl
 obtain⟨e1,e2,e3⟩:=urb7 hT hfew
 rw[e1]
 clear e1
 generalize ta7 (cg7 p t 77)=ws at *
 simp -implicitDefEqProofs only [go_sem]
 refine⟨by omega,by omega, ?_⟩
 generalize (which:Int).tmod (ws.length:Int)=iv
 clear e2 hs hw hm hany hok hT hfl hwi
 refine qc7 (ι:=Nat×List UInt8) 0 [4,5,12,15,44,45] [46,16] (fun q=>q.1≤ws.length∧(q.2.length:Int)≤2*keb7 ((ws.take q.1).map (·.1))+(if iv<(q.1:Int) then 51 else 0)) (fun q=>[.c (I6 q.1),.c (.str (S q.2))]) (fun _=>_) (fun q=>ws.length-q.1) (by kernel_rfl) ⟨(0,[]),⟨Nat.zero_le _,by simp only[List.length_nil];split <;> omega⟩,rfl,rfl⟩ (fun k _=>rfl) ?_
 rintro⟨k,x⟩ ⟨hk,hx⟩
 simp only at hk hx
 simp -implicitDefEqProofs only [go_sem]
 have hb:=lxb7 ws k
 have hwl:=gnb7 ws
 have hxs:x.toArray.size=x.length:=rfl
 have hos:other.toArray.size=other.length:=rfl
 have h1s:(#[32]:Array UInt8).size=1:=rfl
 have h2s:(#[10]:Array UInt8).size=1:=rfl
 have hx1:(x.length:Int)≤2*keb7 ((ws.take k).map (·.1))+51:=by split at hx <;> omega
 refine⟨fun h=>?_,fun h=>?_⟩
 ·have hs:=jzb7 ws (k:=k) (by omega)
  unfold wdN at hs
  generalize (ws.getD k ([],0)).1=v at *
  have hb2:=lxb7 ws (k+1)
  have hvs:v.toArray.size=v.length:=rfl
  refine⟨⟨by omega,by omega⟩,fun _=>by decide,fun h1 h2=>⟨⟨by omega,by omega⟩,(k+1,x),[],⟨by omega, ?_⟩,⟨rfl,rfl⟩,rfl,rfl,by omega⟩,fun h0=>⟨fun _=>by decide,fun h1 h2=>⟨by omega,by omega,by omega,by omega,⟨by omega,by omega⟩,(k+1,x++(v++[32])++(v++[32])),[],⟨by omega, ?_⟩,⟨rfl,rfl⟩, ?_,rfl,by omega⟩,fun h3=>?_⟩⟩
  ·simp only
   rw[hs]
   split at hx <;> split <;> omega
  ·simp only[List.length_append,List.length_singleton]
   rw[hs]
   split at hx <;> split <;> omega
  ·simp only[← em7]
   rfl
  ·refine⟨fun _=>by decide,fun h1 h2=>⟨by omega,by omega,⟨by omega,by omega⟩,(k+1,x++(other++[10])),[],⟨by omega, ?_⟩,⟨rfl,rfl⟩, ?_,rfl,by omega⟩,fun h4=>⟨by omega,by omega,⟨by omega,by omega⟩,(k+1,x++(v++[32])),[],⟨by omega, ?_⟩,⟨rfl,rfl⟩, ?_,rfl,by omega⟩⟩
   ·simp only[List.length_append,List.length_singleton]
    rw[hs]
    split at hx <;> split <;> omega
   ·simp only[← em7]
    rfl
   ·simp only[List.length_append,List.length_singleton]
    rw[hs]
    split at hx <;> split <;> omega
   ·simp only[← em7]
    rfl
 ·have hxl:x.length≤100000:=by omega
  clear hx hx1 hb hk h e3 hfew hwl
  refine wg7 (hhc7 x (by omega)) (by simp -implicitDefEqProofs only [go_sem]) rfl rfl ?_
  rintro r rfl
  simp -implicitDefEqProofs only [go_sem,ac7,pd7,mb7,xl7]
  refine wg7 (lic7 x (by omega)) (by simp -implicitDefEqProofs only [go_sem]) rfl rfl ?_
  rintro r rfl
  simp -implicitDefEqProofs only [go_sem,ac7,pd7,mb7,xz7,ulb7 (show x.length≤131072 by omega)]
  obtain⟨w1,w2,w3⟩:=quc7 (fcc7 x)
  generalize fj7 x=q at *
  refine pb7 (edc7 w1 w2 w3) ⟨trivial,trivial,trivial⟩ rfl (fun r h=>by subst h;rfl) ?_
  rintro r rfl
  simp -implicitDefEqProofs only [go_sem,eq_self,not_true_eq_false,not_false_eq_true,decide_false,decide_true,Bool.not_false,Bool.not_true,Bool.or_false,Bool.false_or,Bool.true_or,Bool.or_true,Bool.and_true,Bool.true_and,Bool.false_and,Bool.and_false,true_implies]
theorem sheetSpoilt_c {w:World}{F G Z:Nat→Prop}{s:jb7}{wi:df7}{m:List Int×Int}{cs1 cs2 cs3:List Value}{which what:Nat}(b:ByteArray) (h1:bt7.rep w F s cs1) (h2:kjb7.rep w G wi cs2) (h3:thb7.rep w Z m cs3) (hwi:which≤65535) :
  Calls Tryz.prog 3 #[.agg cs1.toArray,.agg cs2.toArray,.agg cs3.toArray,.int .u16 (which:Int),.int .u8 (what:Int),.string b] w fun e w'=>e = .returned (.bool true)∧Below w.heap.size w w' :=
 mnc7 (vs:=[.agg cs1.toArray,.agg cs2.toArray,.agg cs3.toArray,.int .u16 (which:Int),.int .u8 (what:Int),.string b]) (xdb7 (other:=b.data.toList) (oic7 h1) (rqc7 h2) (wgc7 h3) hwi) ⟨_,_,rfl,⟨_,rfl,xhc7 (bt7.old h1)⟩,_,_,rfl,⟨_,rfl,eqc7 (kjb7.old h2)⟩,_,_,rfl,⟨_,rfl,akc7 (thb7.old h3)⟩,_,_,rfl,rfl,_,_,rfl,rfl,_,_,rfl,rfl,rfl⟩
end Go.Proofs.YtedahhjopmkbbaaGreat.Ab
