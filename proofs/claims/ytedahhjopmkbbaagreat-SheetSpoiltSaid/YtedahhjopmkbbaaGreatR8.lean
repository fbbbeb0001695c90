/- Texts of the proof, joined: Read, Parse, StrN, Tells, BldM, SheetM, Awake20r, FewD. -/
import Derived.Shelf.RegionOpenPlain
import Derived.Test.YtedahhjopmkbbaaGreatR7
set_option linter.all false
set_option maxRecDepth 100000
set_option maxHeartbeats 6400000
namespace Go.Proofs.YtedahhjopmkbbaaGreat.Ab
open Go.RowKit
section
variable {P:Program} {ops:Array Oper} {a:Act} {w:World} {o:Oper} {v:Value}
theorem uzb7 {Q:Exit→Act→World→Prop}{l:List Oper}{d:Deferred}(hg:o.guard=none) (hx:(execOp a.eval o).run P w = .ok (.defer d) w) (hn:wpList P ops Q l ({ a with defers:=d::a.defers }.put o.dst undef) w):wpList P ops Q (o::l) a w:=by
 unfold wpList
 rw[if_pos (lq7 hg _)]
 refine .inl ?_
 unfold Oper.wp
 rw[hx]
 exact hn
theorem pib7 [Pan] {ty:Ty}{E:Env}{nt:Nat}{M M0:Mp}{H0:List Root}{w0:World}{σ:AS}{Q:Exit→Act→World→Prop}{l:List Oper}(hT:ud7 P ty) (h:St E nt M σ a w) (h0:Kp M0 H0 w0 M σ.H w) (hd:∀t,o.dst=some t→t<nt) (hP:∀ch w',iw7 E M σ.H w ch w'→Q (.panic ch) a w')
  (hw:ip7 P ty none none ops σ o (GoK E nt M0 H0 w0 (fun a' w'=>wpList P ops Q l a' w'))):wpList P ops Q (o::l) a w :=
 zhc7 hT h hd hw (fun M' σ' a' w' q1 q2 _ q4=>q4 M' a' w' q1 (h0.trans q2)) hP
theorem St.go {E:Env}{nt:Nat}{M M':Mp}{σ:AS}{H':List Root}{w':World}(h:St E nt M σ a w) (hr:Rel E M' H' w') (hk:Kp M σ.H w M' H' w'):St E nt M' ⟨σ.tm,H'⟩ a w' :=
 ⟨hr,fun t ht=>hk.R (h.tms t ht),h.off,h.sz,h.df⟩
end
def esc7 (P:Program) (K:RV→List Root→Prop) (E:Env) (M:Mp) (H:List Root) (w:World) (e:Ending) (w':World):Prop :=
 (∃M' H' r v,e = .returned v∧Rel E M' H' w'∧Kp M H w M' H' w'∧ra7 M' H' w' r v∧(∀g,(none:Pu)=some g→ef7 (g.map M.phi) w w')∧H.length≤H'.length∧K r H')∨∃ch,e = .panicked ch∧iw7 E M H w ch w'
abbrev mhc7:List ResultVar:=[.cell 4 3,.cell 5 52]
theorem mnb7 {K:RV→List Root→Prop}{E:Env}{d:List Deferred}{M M':Mp}{H:List Root}{w w':World}{σ':AS}{tmps:Array Value}{df:List Deferred}(st:St ⟨E.W0,E.rho0,d,E.ex,E.exk⟩ 33 M' σ' ⟨tmps,df⟩ w') (kp:Kp M H w M' σ'.H w') (hlen:H.length≤σ'.H.length) (h:ldc7 ty mhc7 K .ret σ'):Leaves Tryz.prog Tryz.f24 tmps (esc7 Tryz.prog K E M H w) [] .returning w':=by
 obtain⟨v,k1,k2⟩:=ni7 zb7 st (fn:=Tryz.f24) (rs:=mhc7) (congrArg Array.toList Tryz.results24) h.1
 exact⟨v,k2,.inl ⟨M',σ'.H,_,v,rfl,st.rel.env2,kp,k1,fun g e=>(by cases e),hlen,h.2⟩⟩
abbrev vt7 (p q:Value):Deferred:=⟨.fn (.func 55) #[p,q], #[]⟩
abbrev mmc7 (K:RV→List Root→Prop) (A:Root):Pan:=⟨fun r H'=>∃a c B R,r=tv7 a c∧H'=A::B :: .live false 3 1 (.box [I6 0]) :: .live false 52 1 (.box [I6 0])::R∧∀B R,K (.tup [.c (I6 a),.c (I6 c)]) (A::B::R)⟩
section
variable {K:RV→List Root→Prop} {E:Env} {M M':Mp} {H:List Root} {w w':World} {σ':AS} {tmps:Array Value} {df:List Deferred} {p q:Value}
theorem fgc7 (st:St ⟨E.W0,E.rho0,[vt7 p q],E.ex,E.exk⟩ 33 M' σ' ⟨tmps,df⟩ w') (kp:Kp M H w M' σ'.H w') (hlen:H.length≤σ'.H.length) (h:ldc7 ty mhc7 K .ret σ'):Leaves Tryz.prog Tryz.f24 tmps (esc7 Tryz.prog K E M H w) [vt7 p q] .returning w':=by
 refine leaves_cons (f:=55) (args:=#[p,q]) (by simp) (by kernel_rfl) ((yyb7 p q w').mono ?_)
 rintro e u' w'' ⟨⟨vv,rfl⟩,rfl,rfl⟩
 exact mnb7 st kp hlen h
theorem iyb7 {A:Root}{ch:List PanicEntry}{w2:World}(st:St ⟨E.W0,E.rho0,[vt7 p q],E.ex,E.exk⟩ 33 M' σ' ⟨tmps,df⟩ w') (kp:Kp M H w M' σ'.H w') (hlen:H.length≤σ'.H.length) (hp:Con M' σ'.H w' (.ptr 2 1 0 0) p) (hq:Con M' σ'.H w' (.ptr 3 1 0 0) q)
  (l4:lk σ'.tm 4=(true,.c (.ptr 2 1 0 0))) (l5:lk σ'.tm 5=(true,.c (.ptr 3 1 0 0))) (hP : @iw7 (mmc7 K A) ⟨E.W0,E.rho0,[vt7 p q],E.ex,E.exk⟩ M' σ'.H w' ch w2):Leaves Tryz.prog Tryz.f24 tmps (esc7 Tryz.prog K E M H w) [vt7 p q] (.panicking ch) w2:=by
 obtain⟨M2,H2,r,v,rfl,hr,hk,hlen2,hv,a,c,B,R,rfl,rfl,good⟩:=hP
 refine leaves_cons (f:=55) (args:=#[p,q]) (by simp) (by kernel_rfl) ((ypb7 hr (hk _ _ hp) (hk _ _ hq) hv).mono ?_)
 rintro e u' w'' ⟨⟨vv,rfl⟩,rfl,M3,T,r1,r2⟩
 refine mnb7 (st.go r1 (hk.trans r2)) ((kp.trans hk).trans r2) (Nat.le_trans hlen (Nat.le_trans hlen2 (by simp))) ?_
 simp -implicitDefEqProofs only [go_sem,l4,l5]
 exact good _ _
end
abbrev sbc7:Root:=dk7 .nils .nils .nils .nils 0
theorem cqc7 {A:Root}{s:List UInt8}{K:RV→List Root→Prop}(hl:s.length≤1000000000000) (hA:jr7 5 A)
  (h4:131072<s.length→∀R,K (.tup [.c (I6 0),.c (I6 4)]) (A::sbc7::R))
  (h3:¬131072<s.length→iq7 s<s.length→∀R,K (.tup [.c (I6 (iq7 s)),.c (I6 3)]) (A::sbc7::R))
  (hE:¬131072<s.length→¬iq7 s<s.length→∀j c,ci7 (ta7 s) = .error (j,c)→∀B R,K (.tup [.c (I6 (hg7 (ta7 s) s.length j)),.c (I6 c)]) (A::B::R))
  (h6:¬131072<s.length→¬iq7 s<s.length→∀a,ci7 (ta7 s) = .ok a→a.2<(ta7 s).length→∀B R,K (.tup [.c (I6 (hg7 (ta7 s) s.length a.2)),.c (I6 6)]) (A::B::R))
  (hO:¬131072<s.length→¬iq7 s<s.length→∀a,ci7 (ta7 s) = .ok a→¬a.2<(ta7 s).length→∀C D r R,K (.tup [.c (I6 0),.c (I6 0)]) (A::dk7 (gH 5 a.1.plan.trucks) (gH 7 a.1.plan.bikes) (gH 6 a.1.times.trucks) (gH 8 a.1.times.bikes) a.1.cost::C::D::r::trR a.1.plan.trucks::tmR a.1.times.trucks::bkR a.1.plan.bikes::riR a.1.times.bikes::R)) :
  lb7 Tryz.prog none 24 [.c (.str (S s)),.fn 25 [.ptr 1 1 0 0]] [A,sbc7] K:=by
 refine⟨⟨_,_,Tryz.func24,by kernel_rfl,rfl⟩,fun E M w vs hrel hc=>calls_of_wp_defers (R:=esc7 Tryz.prog K E M [A,sbc7] w) Tryz.func24 rfl ?_⟩
 rw[Tryz.ntmps24]
 have st:=St.enter (hrel.env []) rfl hc (n:=33) (by simp)
 refine mo7 zb7 (by kernel_rfl) (fun _=>([],0,none)) (by kernel_rfl) st (Kp.refl _ _ _) ?_
 simp -implicitDefEqProofs only [go_sem]
 clear st
 refine fun M1 a1 w1 st k1=>?_
 by_cases c4:131072<s.length
 ·refine mo7 zb7 (by kernel_rfl) (fun _=>([],0,none)) (by kernel_rfl) st k1 ?_
  simp -implicitDefEqProofs only [go_sem]
  refine pb7 (wkb7 s hl) (by simp -implicitDefEqProofs only [go_sem]) rfl (fun r h=>by subst h;unfold bj7;rw[if_pos c4];rfl) ?_
  rintro r rfl
  rw[show bj7 s = .tup [.c .nils,.c (I6 0),.c (I6 4)] from if_pos c4]
  simp -implicitDefEqProofs only [go_sem]
  clear st k1
  refine fun M1 a1 w1 st k1=>?_
  refine mo7 zb7 (by kernel_rfl) (fun n=>match n with | 3=>([1],0,some (.t [2] (.br 0 0 (.br 4 2 .d .no) .no) [3] [3])) | _=>([],0,none)) (by kernel_rfl) st k1 ?_
  simp -implicitDefEqProofs only [go_sem]
  clear st k1
  refine⟨fun _=>fun M1 a1 w1 st k1=>?_,fun h=>absurd h (by decide)⟩
  have hd:a1.defers=[]:=st.df
  show Leaves _ _ a1.tmps _ a1.defers _ _
  rw[hd]
  refine mnb7 (d:=[]) (df:=a1.defers) st k1 (by simp) ?_
  simp -implicitDefEqProofs only [go_sem]
  exact h4 c4 _
 by_cases c3:iq7 s<s.length
 ·refine mo7 zb7 (by kernel_rfl) (fun _=>([],0,none)) (by kernel_rfl) st k1 ?_
  simp -implicitDefEqProofs only [go_sem]
  refine pb7 (wkb7 s hl) (by simp -implicitDefEqProofs only [go_sem]) rfl (fun r h=>by subst h;unfold bj7;rw[if_neg c4,if_pos c3];rfl) ?_
  rintro r rfl
  rw[show bj7 s = .tup [.c .nils,.c (I6 (iq7 s)),.c (I6 3)] by unfold bj7;rw[if_neg c4,if_pos c3]]
  simp -implicitDefEqProofs only [go_sem]
  clear st k1
  refine fun M1 a1 w1 st k1=>?_
  refine mo7 zb7 (by kernel_rfl) (fun n=>match n with | 3=>([1],0,some (.t [2] (.br 0 0 (.br 4 2 .d .no) .no) [3] [3])) | _=>([],0,none)) (by kernel_rfl) st k1 ?_
  simp -implicitDefEqProofs only [go_sem]
  clear st k1
  refine⟨fun _=>fun M1 a1 w1 st k1=>?_,fun h=>absurd h (by decide)⟩
  have hd:a1.defers=[]:=st.df
  show Leaves _ _ a1.tmps _ a1.defers _ _
  rw[hd]
  refine mnb7 (d:=[]) (df:=a1.defers) st k1 (by simp) ?_
  simp -implicitDefEqProofs only [go_sem]
  exact h3 c4 c3 _
 refine mo7 zb7 (by kernel_rfl) (fun _=>([],0,none)) (by kernel_rfl) st k1 ?_
 simp -implicitDefEqProofs only [go_sem]
 refine wg7 (wkb7 s hl) (by simp -implicitDefEqProofs only [go_sem]) rfl rfl ?_
 rintro r rfl
 rw[show bj7 s = .tup [.c (ri7 (ta7 s)),.c (I6 0),.c (I6 0)] by unfold bj7;rw[if_neg c4,if_neg c3]]
 simp -implicitDefEqProofs only [go_sem]
 clear st k1
 refine fun M1 a1 w1 st k1=>?_
 have hE:=hE c4 c3
 have h6:=h6 c4 c3
 have hO:=hO c4 c3
 clear h4 h3
 have hok:=pgb7 (mtb7 c3)
 have hwn:(ta7 s).length≤1000000:=by omega
 have hw:∀w∈ta7 s,(∀c∈w.1,c.toNat<128):=fun x hx=>(hok.1 x hx).1
 generalize ta7 s=ws at *
 refine mo7 zb7 (by kernel_rfl) (fun n=>match n with | 3=>([1],0,some (.t [2] (.br 0 0 (.br 4 2 .d .no) .no) [3] [3])) | _=>([],0,none)) (by kernel_rfl) st k1 ?_
 simp -implicitDefEqProofs only [go_sem]
 clear st k1
 refine⟨fun h=>absurd trivial h,fun M1 a1 w1 st k1=>?_⟩
 refine wp_seq (wp_region_list ?_)
 refine pib7 zb7 st k1 (by simp) (fun ch w' hp=>(qa7 hp).elim) ?_
 simp -implicitDefEqProofs only [go_sem]
 clear st k1
 refine fun M1 a1 w1 st k1=>?_
 obtain⟨caps,e18,p,_,rfl,hp,q,_,rfl,hq,rfl⟩:=st.rd (x:=.tmp 18) rfl
 refine uzb7 (d:=⟨.fn (.func 55) #[p,q], #[]⟩) rfl ?_ ?_
 ·unfold execOp
  simp only[resolve,e18]
  kernel_rfl
 replace st:St ⟨E.W0,E.rho0,[vt7 p q],E.ex,E.exk⟩ 33 M1 _ { a1 with defers:=vt7 p q::a1.defers } w1:=⟨st.rel.env [vt7 p q],st.tms,st.off,st.sz,congrArg (List.cons _) st.df⟩
 clear e18 hok
 show Code.wp _ _ _ { a1 with defers:=vt7 p q::a1.defers } w1
 refine mo7 zb7 (by kernel_rfl) (fun _=>([],0,none)) (by kernel_rfl) st (Kp.refl _ _ _) ?_
 simp -implicitDefEqProofs only [go_sem]
 clear st
 refine fun M2 a2 w2 st k2=>?_
 refine wp_seq (wp_seq (wp_region_list ?_))
 refine pib7 zb7 st k2 (by simp) (fun ch w' hp=>(qa7 hp).elim) ?_
 simp -implicitDefEqProofs only [go_sem]
 clear st k2
 refine fun M2 a2 w2 st k2=>?_
 obtain⟨caps,e24,x,_,rfl,hx,rfl⟩:=st.rd (x:=.tmp 24) rfl
 refine yk7 (v:=.bool true) rfl ?_ ?_
 ·unfold execOp
  simp only[e24]
  kernel_rfl
 replace st:=st.putV (d:=some 25) (g:=true) (r:=.c (.bool true)) (v:=.bool true) (by simp) (fun _=>rfl) (fun e=>by cases e)
 refine wp_cond_true (st.rd (x:=.tmp 25) rfl) (wp_region_list ?_)
 refine pib7 zb7 st k2 (by simp) (fun ch w' hp=>(qa7 hp).elim) ?_
 simp -implicitDefEqProofs only [go_sem]
 clear st k2 e24 hx
 refine fun M2 a2 w2 st k2=>?_
 refine pib7 zb7 st k2 (by simp) (fun ch w' hp=>(qa7 hp).elim) ?_
 simp -implicitDefEqProofs only [go_sem]
 clear st k2
 refine fun M2 a2 w2 st k2=>?_
 refine @pib7 Tryz.prog _ _ _ _ (mmc7 K A) ty _ 33 M2 M1 _ w1 _ _ _ zb7 st k2 (by simp) (fun ch w' hP=>?_) ?_
 ·have hd:a2.defers=[vt7 p q]:=st.df
  show Leaves _ _ a2.tmps _ a2.defers _ _
  rw[hd]
  exact iyb7 (df:=a2.defers) st (k1.trans k2) (by simp) (k2 _ _ hp) (k2 _ _ hq) rfl rfl hP
 simp -implicitDefEqProofs only [go_sem]
 clear st
 have stay1:∀(t:TypeId) (x:Int) (m:Nat),jr7 m (.live false t 1 (.box [I6 x])):=fun _ _ _ _ _ _=>rfl
 refine @rzb7 (mmc7 K A) A _ _ ws s.length _ hwn hw hA (stay1 _ _ _) (stay1 _ _ _) (fun r a ha=>?_) (fun B j c hx R=>⟨_,_,B,_,rfl,rfl,hE j c hx⟩)
 refine fun M2 a2 w2 st k2=>?_
 simp only[occ7]at st k2
 show Code.wp _ _ _ a2 w2
 refine wp_seq (mo7 zb7 (by kernel_rfl) (fun _=>([],0,none)) (by kernel_rfl) st k2 ?_)
 simp -implicitDefEqProofs only [go_sem]
 refine thc7 ?_
 clear st k2
 refine fun M2 a2 w2 st k2=>?_
 by_cases hm:a.2<ws.length
 ·rw[decide_eq_true hm]at st
  refine wp_cond_true (st.rd (x:=.tmp 30) rfl) (wp_region_list ?_)
  refine pib7 zb7 st k2 (by simp) (fun ch w' hp=>(qa7 hp).elim) ?_
  simp -implicitDefEqProofs only [go_sem]
  clear st k2
  refine fun M2 a2 w2 st k2=>?_
  refine @pib7 Tryz.prog _ _ _ _ (mmc7 K A) ty _ 33 M2 M1 _ w1 _ _ _ zb7 st k2 (by simp) (fun ch w' hP=>?_) ?_
  ·have hd:a2.defers=[vt7 p q]:=st.df
   show Leaves _ _ a2.tmps _ a2.defers _ _
   rw[hd]
   exact iyb7 (df:=a2.defers) st (k1.trans k2) (by simp) (k2 _ _ hp) (k2 _ _ hq) rfl rfl hP
  simp -implicitDefEqProofs only [go_sem]
  refine @kgb7 (mmc7 K A) _ _ _ _ _ ws a.2 s.length 6 _ ⟨_,_,_,_,rfl,rfl,h6 a ha hm⟩
 ·rw[decide_eq_false hm]at st
  refine wp_cond_false (st.rd (x:=.tmp 30) rfl) (wp_skip ?_)
  show Code.wp _ _ _ a2 w2
  refine mo7 zb7 (by kernel_rfl) (fun _=>([],0,none)) (by kernel_rfl) st k2 ?_
  simp -implicitDefEqProofs only [go_sem]
  clear st k2
  refine fun M2 a2 w2 st k2=>?_
  refine wp_ret ?_
  have hd:a2.defers=[vt7 p q]:=st.df
  show Leaves _ _ a2.tmps _ a2.defers _ _
  rw[hd]
  refine fgc7 (df:=a2.defers) st (k1.trans k2) (by simp) ?_
  simp -implicitDefEqProofs only [go_sem]
  exact hO a ha hm _ _ _ _
def fj7 (s:List UInt8):zd7×Int×Int :=
 if 131072<s.length then (gg7,0,4) else if iq7 s<s.length then (gg7,(iq7 s:Int),3) else bgc7 (ta7 s) s.length (ci7 (ta7 s))
def xl7 (s:List UInt8):RV:=.tup [.agg (ac7 (fj7 s).1),.c (I6 (fj7 s).2.1),.c (I6 (fj7 s).2.2)]
theorem qoc7 (l:List ba7):Eqv (stA l) (yl7 l):=by
 cases l with
 | nil=>exact .inr ⟨2,_,rfl⟩
 | cons s l =>
  refine⟨_,rfl,fun i hi j hj=>?_⟩
  have e:((s::l).map fun s=>[I6 s.sat,I6 s.load]).getD i []=[I6 (stN (s::l) i).sat,I6 (stN (s::l) i).load]:=by
   unfold stN
   simp only[List.getD_eq_getElem?_getD,List.getElem?_map,List.getElem?_eq_getElem hi];rfl
  show Eqv (nth (((s::l).map fun s=>[I6 s.sat,I6 s.load]).getD i []) j) _
  rw[e]
  match j,hj with
  | 0,_=>rfl
  | 1,_=>rfl
theorem hub7 (l:List (List ba7)) (f:Nat→Nat→AV) (hf:∀i j,f i j=nth ((l.map fun s=>[stA s]).getD i []) j):Eqv (.sl l.length 1 f) (.sl l.length 1 (fun i _=>yl7 (l.getD i []))):=by
 refine⟨_,rfl,fun i hi j hj=>?_⟩
 have e:(l.map fun s=>[stA s]).getD i []=[stA (l.getD i [])]:=by
  simp only[List.getD_eq_getElem?_getD,List.getElem?_map,List.getElem?_eq_getElem hi];rfl
 rw[hf,e]
 match j,hj with
 | 0,_=>exact qoc7 _
theorem wsb7 (l:List (List Int)) (f:Nat→Nat→AV) (hf:∀i j,f i j=nth ((l.map fun s=>[ay7 s]).getD i []) j):Eqv (.sl l.length 1 f) (.sl l.length 1 (fun i _=>ld7 (l.getD i []))):=by
 refine⟨_,rfl,fun i hi j hj=>?_⟩
 have e:(l.map fun s=>[ay7 s]).getD i []=[ay7 (l.getD i [])]:=by
  simp only[List.getD_eq_getElem?_getD,List.getElem?_map,List.getElem?_eq_getElem hi];rfl
 rw[hf,e]
 match j,hj with
 | 0,_=>exact kx7 _
theorem xec7 (l:List ga7) (f:Nat→Nat→AV) (hf:∀i j,f i j=nth ((l.map fun b=>[I6 b.sat,ay7 b.stops]).getD i []) j):Eqv (.sl l.length 2 f) (.sl l.length 2 (fun i=>ix2 (I6 (l.getD i ⟨0,[]⟩).sat) (ld7 (l.getD i ⟨0,[]⟩).stops))):=by
 refine⟨_,rfl,fun i hi j hj=>?_⟩
 have e:(l.map fun b=>[I6 b.sat,ay7 b.stops]).getD i []=[I6 (l.getD i ⟨0,[]⟩).sat,ay7 (l.getD i ⟨0,[]⟩).stops]:=by
  simp only[List.getD_eq_getElem?_getD,List.getElem?_map,List.getElem?_eq_getElem hi];rfl
 rw[hf,e]
 match j,hj with
 | 0,_=>rfl
 | 1,_=>exact kx7 _
theorem zdc7 (l:List ka7) (f:Nat→Nat→AV) (hf:∀i j,f i j=nth ((l.map fun r=>[I6 r.out,ay7 r.starts,I6 r.back]).getD i []) j):Eqv (.sl l.length 3 f) (.sl l.length 3 (fun i=>ix3 (I6 (l.getD i ⟨0,[],0⟩).out) (ld7 (l.getD i ⟨0,[],0⟩).starts) (I6 (l.getD i ⟨0,[],0⟩).back))):=by
 refine⟨_,rfl,fun i hi j hj=>?_⟩
 have e:(l.map fun r=>[I6 r.out,ay7 r.starts,I6 r.back]).getD i []=[I6 (l.getD i ⟨0,[],0⟩).out,ay7 (l.getD i ⟨0,[],0⟩).starts,I6 (l.getD i ⟨0,[],0⟩).back]:=by
  simp only[List.getD_eq_getElem?_getD,List.getElem?_map,List.getElem?_eq_getElem hi];rfl
 rw[hf,e]
 match j,hj with
 | 0,_=>rfl
 | 1,_=>exact kx7 _
 | 2,_=>rfl
theorem hhc7 (s:List UInt8) (hl:s.length≤1000000000000):be7 Tryz.prog 9 [.c (.str (S s))] (fun r=>r=xl7 s):=by
 refine vc7 zb7 (by kernel_rfl) (fun _=>([],0,none)) Tryz.func9 rfl (by kernel_rfl) Tryz.ntmps9 (congrArg Array.toList Tryz.results9) (by kernel_rfl) (by simp) ?_
 simp -implicitDefEqProofs only [go_sem]
 have zero:∀a c:Int,∃r',ksb7 (.tup [.agg [.nils,.nils,.nils,.nils,I6 0],.c (I6 a),.c (I6 c)]) r'∧r' = .tup [.agg (ac7 gg7),.c (I6 a),.c (I6 c)]:=fun a c=>⟨_,⟨_,rfl,⟨_,_,rfl,.inr ⟨_,rfl,⟨_,_,rfl,.inr (.inr ⟨_,_,rfl⟩),_,_,rfl,.inr (.inr ⟨_,_,rfl⟩),_,_,rfl,.inr (.inr ⟨_,_,rfl⟩),_,_,rfl,.inr (.inr ⟨_,_,rfl⟩),_,_,rfl,.inl rfl,rfl⟩⟩,_,_,rfl,.inl rfl,_,_,rfl,.inl rfl,rfl⟩⟩,rfl⟩
 refine cqc7 hl (fun _ _ _=>rfl) (fun c4 R=>?_) (fun c4 c3 R=>?_) (fun c4 c3 j c hx B R=>?_) (fun c4 c3 a ha hm B R=>?_) (fun c4 c3 a ha hm C D r R=>?_)
 ·have e:xl7 s = .tup [.agg (ac7 gg7),.c (I6 0),.c (I6 4)]:=by unfold xl7 fj7;rw[if_pos c4]
  simp -implicitDefEqProofs only [go_sem,e]
  exact⟨fun _=>zero 0 4,fun h=>absurd h (by decide)⟩
 ·have e:xl7 s = .tup [.agg (ac7 gg7),.c (I6 (iq7 s)),.c (I6 3)]:=by unfold xl7 fj7;rw[if_neg c4,if_pos c3]
  simp -implicitDefEqProofs only [go_sem,e]
  exact⟨fun _=>zero _ _,fun h=>absurd h (by decide)⟩
 ·have e:xl7 s = .tup [.agg (ac7 gg7),.c (I6 (hg7 (ta7 s) s.length j)),.c (I6 c)]:=by unfold xl7 fj7;rw[if_neg c4,if_neg c3,hx];rfl
  have hc:c≠0:=((ql7 (ta7 s)).sim.er () 0 (j,c) (by rw[dab7];exact hx)).2
  simp -implicitDefEqProofs only [go_sem,e]
  exact⟨fun _=>zero _ _,fun h=>absurd h hc⟩
 ·have e:xl7 s = .tup [.agg (ac7 gg7),.c (I6 (hg7 (ta7 s) s.length a.2)),.c (I6 6)]:=by
   unfold xl7 fj7;rw[if_neg c4,if_neg c3,ha,show bgc7 (ta7 s) s.length (.ok a)=(gg7,hg7 (ta7 s) s.length a.2,6) from if_pos hm]
  simp -implicitDefEqProofs only [go_sem,e]
  exact⟨fun _=>zero _ _,fun h=>absurd h (by decide)⟩
 ·have e:xl7 s = .tup [.agg (ac7 a.1),.c (I6 0),.c (I6 0)]:=by
   unfold xl7 fj7;rw[if_neg c4,if_neg c3,ha,show bgc7 (ta7 s) s.length (.ok a)=(a.1,0,0) from if_neg hm]
  obtain⟨⟨⟨tr,bk⟩,⟨tm,ri⟩,cost⟩,j⟩:=a
  simp only at e hm
  rw[e]
  clear e ha hm zero
  have fin:∀(x:zd7) (a b c d:AV),Eqv a (.sl x.plan.trucks.length 1 (fun i _=>yl7 (cf7 x.plan i)))→Eqv b (.sl x.plan.bikes.length 2 (fun i=>ix2 (I6 (le7 x.plan i).sat) (ld7 (le7 x.plan i).stops)))→Eqv c (.sl x.times.trucks.length 1 (fun i _=>ld7 (im7 x.times i)))→Eqv d (.sl x.times.bikes.length 3 (fun i=>ix3 (I6 (nf7 x.times i).out) (ld7 (nf7 x.times i).starts) (I6 (nf7 x.times i).back))) →
    ∃r',ksb7 (.tup [.agg [a,b,c,d,I6 x.cost],.c (I6 0),.c (I6 0)]) r'∧r' = .tup [.agg (ac7 x),.c (I6 0),.c (I6 0)]:=fun x a b c d q1 q2 q3 q4=>⟨_,⟨_,rfl,⟨_,_,rfl,.inr ⟨_,rfl,⟨_,_,rfl,.inr q1,_,_,rfl,.inr q2,_,_,rfl,.inr q3,_,_,rfl,.inr q4,_,_,rfl,.inl rfl,rfl⟩⟩,_,_,rfl,.inl rfl,_,_,rfl,.inl rfl,rfl⟩⟩,rfl⟩
  rcases tr with _ | ⟨t1,tr⟩ <;> rcases bk with _ | ⟨b1,bk⟩ <;> rcases tm with _ | ⟨m1,tm⟩ <;> rcases ri with _ | ⟨r1,ri⟩
  all_goals simp -implicitDefEqProofs only [go_sem,xu7,vh7,trR,tmR,bkR,riR,dk7,List.length_map]
  all_goals
   refine⟨fun h=>absurd trivial h,fin ⟨⟨_,_⟩,⟨_,_⟩,cost⟩ _ _ _ _ ?_ ?_ ?_ ?_⟩
  all_goals
   first
   | exact .inr ⟨_,_,rfl⟩
   | exact hub7 (t1::tr) _ (fun _ _=>rfl)
   | exact wsb7 (m1::tm) _ (fun _ _=>rfl)
   | exact xec7 (b1::bk) _ (fun _ _=>rfl)
   | exact zdc7 (r1::ri) _ (fun _ _=>rfl)
open Go.RowKit Go.Lib
theorem nn7 {α:Type}{l:List α}{k:Nat}(h:l.length≤k) (d:α):l.getD k d=d:=by
 rw[List.getD_eq_getElem?_getD,List.getElem?_eq_none h];rfl
theorem bmb7 {l:List Int}{k:Nat}(hk:k≤1000000):be7 Tryz.prog 17 [.c (ld7 l),.c (I6 k)] (fun r=>r = .c (I6 (l.getD k 0))):=by
 refine vc7 zb7 (by kernel_rfl) (fun _=>([],0,none)) Tryz.func17 rfl (by kernel_rfl) Tryz.ntmps17 (congrArg Array.toList Tryz.results17) (by kernel_rfl) (by simp) ?_
 simp -implicitDefEqProofs only [go_sem]
 refine⟨fun h=>?_,fun h=>?_⟩
 ·exact⟨by omega,by omega⟩
 ·rw[nn7 (by omega)]
theorem qdc7 {l:List Int}{k:Nat}(hk:k≤1000000):be7 Tryz.prog 36 [.c (ld7 l),.c (I6 k)] (fun r=>r = .c (I6 (l.getD k 0))):=by
 refine vc7 zb7 (by kernel_rfl) (fun _=>([],0,none)) Tryz.func36 rfl (by kernel_rfl) Tryz.ntmps36 (congrArg Array.toList Tryz.results36) (by kernel_rfl) (by simp) ?_
 simp -implicitDefEqProofs only [go_sem]
 refine⟨fun h=>?_,fun h=>?_⟩
 ·exact⟨by omega,by omega⟩
 ·rw[nn7 (by omega)]
theorem whc7 {t:nb7}{k:Nat}(hk:k≤1000000):be7 Tryz.prog 37 [.c (.sl t.trucks.length 1 (fun i _=>ld7 (im7 t i))),.c (I6 k)] (fun r=>r = .c (ld7 (im7 t k))):=by
 refine vc7 zb7 (by kernel_rfl) (fun _=>([],0,none)) Tryz.func37 rfl (by kernel_rfl) Tryz.ntmps37 (congrArg Array.toList Tryz.results37) (by kernel_rfl) (by simp) ?_
 simp -implicitDefEqProofs only [go_sem]
 refine⟨fun h=>⟨⟨by omega,by omega⟩,_,⟨_,rfl,.inl rfl⟩,rfl⟩,fun h=>⟨_,⟨_,rfl,.inr ?_⟩,rfl⟩⟩
 have e:im7 t k=[]:=nn7 (by omega) _
 rw[e]
 exact .inr ⟨_,_,rfl⟩
theorem cac7 {t:nb7}{k:Nat}(hk:k≤1000000):be7 Tryz.prog 38 [.c (.sl t.bikes.length 3 (fun i=>ix3 (I6 (nf7 t i).out) (ld7 (nf7 t i).starts) (I6 (nf7 t i).back))),.c (I6 k)] (fun r=>r = .agg [I6 (nf7 t k).out,ld7 (nf7 t k).starts,I6 (nf7 t k).back]):=by
 refine vc7 zb7 (by kernel_rfl) (fun _=>([],0,none)) Tryz.func38 rfl (by kernel_rfl) Tryz.ntmps38 (congrArg Array.toList Tryz.results38) (by kernel_rfl) (by simp) ?_
 simp -implicitDefEqProofs only [go_sem]
 refine⟨fun h=>⟨⟨by omega,by omega⟩,_,⟨_,rfl,_,_,rfl,.inl rfl,_,_,rfl,.inl rfl,_,_,rfl,.inl rfl,rfl⟩,rfl⟩,fun h=>?_⟩
 have e:nf7 t k=⟨0,[],0⟩:=nn7 (by omega) _
 rw[e]
 exact⟨_,⟨_,rfl,_,_,rfl,.inl rfl,_,_,rfl,.inr (.inr ⟨_,_,rfl⟩),_,_,rfl,.inl rfl,rfl⟩,rfl⟩
end Go.Proofs.YtedahhjopmkbbaaGreat.Ab
namespace Go.Proofs.YtedahhjopmkbbaaGreat.Ab
open Go.RowKit Go.Lib
def uqc7:Tr:=.br false 2 (.br false 3 (.br false 4 (.br false 9 (.br false 10 (.d false) .no) .no) (.br false 9 (.br false 4 (.br false 10 (.d false) .no) (.br false 10 (.br false 4 (.d false) .no) .no)) .no)) (.br false 9 (.br false 3 (.br false 4 (.br false 10 (.d false) .no) (.br false 10 (.br false 4 (.d false) .no) .no)) (.br false 10 (.br false 3 (.br false 4 (.d false) .no) .no) .no)) .no)) (.br false 9 (.br false 2 (.br false 3 (.br false 4 (.br false 10 (.d false) .no) (.br false 10 (.br false 4 (.d false) .no) .no)) (.br false 10 (.br false 3 (.br false 4 (.d false) .no) .no) .no)) .no) .no)
def ffc7:Pl:=.s .a (.k [1,3] (.t [0,1,5,6,7,8] uqc7 [11,12] [11,12]) .a)
theorem jf7 {len:Nat}{l:List Int}(h:len=l.length):AV.sl len 1 (fun i j=>(Row.ints .i64 l).get (0+i) j)=ld7 l:=by
 subst h
 simp only[Row.get,Nat.zero_add]
theorem kcc7 (p:ua7) (c:Int):112::108::97::110::32::(itoa c++[10,116,114,117,99,107,115,32]++xf7 [] [(p.trucks.length:Int)])=YtedahhjopmkbbaaGreat.yg7 p c:=by
 simp[YtedahhjopmkbbaaGreat.yg7,xf7,lnS,tf7]
theorem cgc7 (p:ua7) (t:nb7) (c:Int):YtedahhjopmkbbaaGreat.yg7 p c++ze7 p t p.trucks.length++98::105::107::101::115::32::xf7 [] [(p.bikes.length:Int)]=meb7 p t c:=by
 simp[meb7,xf7,lnS,tf7]
def uq7 (s:zd7):List Root:=[.live false 47 5 (.box (ac7 s)),.live false 3 1 (.ints .i64 [(s.plan.trucks.length:Int)])]
def cfc7 (s:zd7) (k j:Nat):List Root:=uq7 s++[.live false 69 1 (.box [yl7 (cf7 s.plan k)]),.live false 3 1 (.ints .i64 (tCells (cf7 s.plan k) (im7 s.times k) j))]
def wgb7 (s:zd7):List Root:=uq7 s++[.live false 3 1 (.ints .i64 [(s.plan.bikes.length:Int)])]
def qfb7 (s:zd7) (k:Nat) (rd:List AV) (j:Nat):List Root:=wgb7 s++[.live false 75 2 (.box [I6 (le7 s.plan k).sat,ld7 (le7 s.plan k).stops]),.live false 63 3 (.box rd),.live false 3 1 (.ints .i64 (kCells (le7 s.plan k) (nf7 s.times k) j))]
theorem rhc7 {s:zd7}(h:ce7 s.plan s.times s.cost):be7 Tryz.prog 7 [.agg (ac7 s)] (fun r=>r = .c (.str (S (cg7 s.plan s.times s.cost)))):=by
 refine iub7 ffc7 zb7 (by kernel_rfl) (fun n=>match n with | 12=>([],2,none) | _=>([],0,none)) Tryz.func7 rfl (by kernel_rfl) Tryz.ntmps7 (congrArg Array.toList Tryz.results7) (by kernel_rfl) (by simp) ?_
 simp -implicitDefEqProofs only [go_sem,ffc7,arb7,csb7,ac7,pd7,mb7]
 have hc:=h.c
 have hnt:oa7 (s.plan.trucks.length:Int):=wn h.nt
 have hcl:=uu7 hc
 have hnn:=h.nt
 have hbb:=h.nb
 have hol:=tm7 hnt []
 simp only[List.length_nil]at hol
 refine muc7 (fun σ'=>σ'=⟨[(1,true,.c (.ptr 0 1 0 0)),(3,true,.c (.str (S (YtedahhjopmkbbaaGreat.yg7 s.plan s.cost))))],uq7 s⟩) ?_ ?_
 ·simp -implicitDefEqProofs only [go_sem,uqc7,qmb7,vrc7,xrc7,msc7,vtc7,qbc7]
  have hl0:∀v∈[(s.plan.trucks.length:Int)],oa7 v:=fun v hv=>by rw[List.mem_singleton.1 hv];exact hnt
  have hw1:∀H,ti7 H []=[]:=fun _=>rfl
  repeat' first
   | (refine pb7 (sdb7 hc) (by simp -implicitDefEqProofs only [go_sem]) rfl (fun r h=>by subst h;rfl) ?_;rintro r rfl;simp -implicitDefEqProofs only [go_sem,em7,qmb7,vrc7,xrc7,msc7,vtc7,qbc7,bec7])
   | (refine pi7 (zr7 (l:=[(s.plan.trucks.length:Int)]) (by simp) hl0) ⟨⟨rfl,rfl⟩,trivial⟩ (by simp only[ti7,qr7,op7,frz,aa7];rw[jf7 (by rfl)]) (fun r h=>by subst h;rfl) ?_;rintro r rfl;simp -implicitDefEqProofs only [go_sem,em7,qmb7,vrc7,xrc7,msc7,vtc7,qbc7,bec7])
   | with_reducible refine And.intro ?_ ?_
   | (simp;omega)
  all_goals exact congrArg (fun l=>(⟨[(1,true,.c (.ptr 0 1 0 0)),(3,true,.c (.str (S l)))],uq7 s⟩:AS)) (kcc7 s.plan s.cost)
 ·rintro σ' rfl
  simp -implicitDefEqProofs only [go_sem,uq7,arb7,ac7,pd7,mb7]
  refine ec7 (ι:=Nat) [1,30,31] [3,32] (fun k=>k≤s.plan.trucks.length) (fun k=>[.c (.str (S (YtedahhjopmkbbaaGreat.yg7 s.plan s.cost++ze7 s.plan s.times k))),.c (I6 k)]) (fun _=>_) (fun k=>s.plan.trucks.length-k) (by kernel_rfl) ⟨0,Nat.zero_le _,by simp[ze7,gets,xm7,lk],rfl⟩ (fun s _=>⟨rfl,rfl,rfl,rfl⟩) ?_
  intro k hk
  simp -implicitDefEqProofs only [go_sem]
  refine⟨fun h1=>?_,fun h1=>?_⟩
  ·have hkl:(cf7 s.plan k).length≤30000:=(h.truck k).1
   refine⟨by omega,fun h2=>⟨by omega, ?_⟩,fun h2=>?_⟩
   all_goals
    refine ec7 (ι:=Nat) [1,3,7,30,31,32,54,55] [6,56] (fun j=>j≤(cf7 s.plan k).length) (fun j=>[.c (.h 3 0 (tCells (cf7 s.plan k) (im7 s.times k) j).length),.c (I6 j)]) (fun j=>cfc7 s k j) (fun j=>(cf7 s.plan k).length-j) (by kernel_rfl) ⟨0,Nat.zero_le _,rfl,rfl⟩ (fun _ _=>⟨rfl,rfl,rfl,rfl⟩) ?_
    intro j hj
    simp -implicitDefEqProofs only [go_sem,cfc7,uq7,ac7,pd7,mb7]
    refine⟨fun h3=>?_,fun h3=>?_⟩
   ·refine⟨by omega,pb7 (bmb7 (by omega)) (by simp -implicitDefEqProofs only [go_sem]) rfl (fun r h=>by subst h;rfl) ?_⟩
    rintro r rfl
    simp -implicitDefEqProofs only [go_sem]
    have hlen:=lc7 (cf7 s.plan k) (im7 s.times k) j
    refine⟨by omega,⟨by omega,by omega⟩,j+1,by omega, ?_, ?_,by omega⟩
    ·rw[lc7,lc7,show 1+3*(j+1)=1+3*j+3 by omega];rfl
    ·rw[ui7];rfl
   ·obtain rfl:j=(cf7 s.plan k).length:=by omega
    have hlen:=lc7 (cf7 s.plan k) (im7 s.times k) (cf7 s.plan k).length
    have hcw:=h.tCells k (cf7 s.plan k).length
    have htr:=h.trucksL k
    have hhd:=h.headL
    have htk:=h.truckL k
    have htk':(xf7 [] (tCells (cf7 s.plan k) (im7 s.times k) (cf7 s.plan k).length)).length≤1980023:=htk
    refine pi7 (zr7 (l:=tCells (cf7 s.plan k) (im7 s.times k) (cf7 s.plan k).length) (by omega) hcw) ⟨⟨Nat.zero_add _,rfl⟩,trivial⟩ (by simp only[ti7,qr7,op7,frz,aa7];rw[jf7 rfl]) (fun r h=>by subst h;rfl) ?_
    rintro r rfl
    simp -implicitDefEqProofs only [go_sem,em7]
    refine⟨by simp only[List.size_toArray,List.length_append];omega,⟨by omega,by omega⟩,k+1,by omega, ?_,by omega⟩
    rw[kh7,List.append_assoc];rfl
   ·have hu:im7 s.times k=[]:=nn7 (by omega) _
    refine⟨by omega,yx7 (bmb7 (l:=[]) (k:=j) (by omega)) (by simp -implicitDefEqProofs only [go_sem]) ⟨_,_,rfl,.inr ⟨_,rfl,.inr (.inr ⟨_,_,rfl⟩)⟩,_,_,rfl,.inl rfl,rfl⟩ (fun r h=>by subst h;rfl) ?_⟩
    rintro r rfl
    simp -implicitDefEqProofs only [go_sem]
    have hlen:=lc7 (cf7 s.plan k) (im7 s.times k) j
    refine⟨by omega,⟨by omega,by omega⟩,j+1,by omega, ?_, ?_,by omega⟩
    ·rw[lc7,lc7,show 1+3*(j+1)=1+3*j+3 by omega];rfl
    ·rw[ui7];unfold tItem;rw[hu];rfl
   ·obtain rfl:j=(cf7 s.plan k).length:=by omega
    have hlen:=lc7 (cf7 s.plan k) (im7 s.times k) (cf7 s.plan k).length
    have hcw:=h.tCells k (cf7 s.plan k).length
    have htr:=h.trucksL k
    have hhd:=h.headL
    have htk:=h.truckL k
    have htk':(xf7 [] (tCells (cf7 s.plan k) (im7 s.times k) (cf7 s.plan k).length)).length≤1980023:=htk
    refine pi7 (zr7 (l:=tCells (cf7 s.plan k) (im7 s.times k) (cf7 s.plan k).length) (by omega) hcw) ⟨⟨Nat.zero_add _,rfl⟩,trivial⟩ (by simp only[ti7,qr7,op7,frz,aa7];rw[jf7 rfl]) (fun r h=>by subst h;rfl) ?_
    rintro r rfl
    simp -implicitDefEqProofs only [go_sem,em7]
    refine⟨by simp only[List.size_toArray,List.length_append];omega,⟨by omega,by omega⟩,k+1,by omega, ?_,by omega⟩
    rw[kh7,List.append_assoc];rfl
  ·obtain rfl:k=s.plan.trucks.length:=by omega
   have htr:=h.trucksL s.plan.trucks.length
   have hhd:=h.headL
   have hml:=h.midL
   have hbn:oa7 (s.plan.bikes.length:Int):=wn h.nb
   have hobl:=tm7 hbn []
   simp only[List.length_nil]at hobl
   refine pi7 (zr7 (l:=[(s.plan.bikes.length:Int)]) (by simp) (fun v hv=>by rw[List.mem_singleton.1 hv];exact hbn)) ⟨⟨rfl,rfl⟩,trivial⟩ (by simp only[ti7,qr7,op7,frz,aa7];rw[jf7 (by rfl)]) (fun r h=>by subst h;rfl) ?_
   rintro r rfl
   simp -implicitDefEqProofs only [go_sem,em7]
   refine⟨by simp;omega,by simp;omega, ?_⟩
   rw[cgc7]
   refine ec7 (ι:=Nat) [1,88,89] [3,90] (fun k=>k≤s.plan.bikes.length) (fun k=>[.c (.str (S (meb7 s.plan s.times s.cost++bh7 s.plan s.times k))),.c (I6 k)]) (fun _=>wgb7 s) (fun k=>s.plan.bikes.length-k) (by kernel_rfl) ⟨0,Nat.zero_le _,by simp[bh7,gets,xm7,lk],rfl⟩ (fun s _=>⟨rfl,rfl,rfl,rfl⟩) ?_
   intro k hk
   simp -implicitDefEqProofs only [go_sem,wgb7,uq7,ac7,pd7,mb7]
   refine⟨fun h1=>?_,fun h1=>?_⟩
   ·have hkl:(le7 s.plan k).stops.length≤30000:=(h.bike k).1
    refine⟨by omega,fun h2=>⟨by omega, ?_⟩,fun h2=>?_⟩
    ·refine ec7 (ι:=Nat) [1,3,12,88,89,90,116,117] [13,118] (fun j=>j≤(le7 s.plan k).stops.length) (fun j=>[.c (.h 5 0 (kCells (le7 s.plan k) (nf7 s.times k) j).length),.c (I6 j)]) (fun j=>qfb7 s k [I6 (nf7 s.times k).out,ld7 (nf7 s.times k).starts,I6 (nf7 s.times k).back] j) (fun j=>(le7 s.plan k).stops.length-j) (by kernel_rfl) ⟨0,Nat.zero_le _,rfl,rfl⟩ (fun _ _=>⟨rfl,rfl,rfl,rfl⟩) ?_
     intro j hj
     have hlen:=fd7 (le7 s.plan k) (nf7 s.times k) j
     simp -implicitDefEqProofs only [go_sem,qfb7,wgb7,uq7,ac7,pd7,mb7]
     refine⟨fun h3=>?_,fun h3=>?_⟩
     ·refine⟨by omega,pb7 (bmb7 (by omega)) (by simp -implicitDefEqProofs only [go_sem]) rfl (fun r h=>by subst h;rfl) ?_⟩
      rintro r rfl
      simp -implicitDefEqProofs only [go_sem]
      refine⟨by omega,⟨by omega,by omega⟩,j+1,by omega, ?_, ?_,by omega⟩
      ·rw[fd7,fd7,show 3+2*(j+1)=3+2*j+2 by omega];rfl
      ·rw[wi7];rfl
     ·obtain rfl:j=(le7 s.plan k).stops.length:=by omega
      have hcw:=h.kCells k (le7 s.plan k).stops.length
      have hrb:=(h.ride k).2.1
      have hbr:=h.bikesL k
      have hbk:=h.bikeL k
      have hbk':(xf7 [] (kCells (le7 s.plan k) (nf7 s.times k) (le7 s.plan k).stops.length++[(nf7 s.times k).back])).length≤1320089:=hbk
      refine⟨by omega,pi7 (zr7 (l:=kCells (le7 s.plan k) (nf7 s.times k) (le7 s.plan k).stops.length++[(nf7 s.times k).back]) (by rw[List.length_append,List.length_singleton];omega) (fun v hv=>(List.mem_append.1 hv).elim (hcw v) (fun e=>by rw[List.mem_singleton.1 e];exact hrb))) ⟨⟨by simp[Row.len],rfl⟩,trivial⟩ (by simp only[ti7,qr7,op7,frz,aa7];rw[jf7 (by simp)]) (fun r h=>by subst h;rfl) ?_⟩
      rintro r rfl
      simp -implicitDefEqProofs only [go_sem,em7]
      refine⟨by simp only[List.size_toArray,List.length_append]at hbk' ⊢; omega,⟨by omega,by omega⟩,k+1,by omega, ?_,by omega⟩
      rw[jj7,List.append_assoc];rfl
    ·have hu:nf7 s.times k=⟨0,[],0⟩:=nn7 (by omega) _
     refine ec7 (ι:=Nat) [1,3,12,88,89,90,116,117] [13,118] (fun j=>j≤(le7 s.plan k).stops.length) (fun j=>[.c (.h 5 0 (kCells (le7 s.plan k) (nf7 s.times k) j).length),.c (I6 j)]) (fun j=>qfb7 s k [.int .i64 0,.nils,.int .i64 0] j) (fun j=>(le7 s.plan k).stops.length-j) (by kernel_rfl) ⟨0,Nat.zero_le _,rfl,(by unfold qfb7 kCells;rw[hu];rfl)⟩ (fun _ _=>⟨rfl,rfl,rfl,rfl⟩) ?_
     intro j hj
     have hlen:=fd7 (le7 s.plan k) (nf7 s.times k) j
     simp -implicitDefEqProofs only [go_sem,qfb7,wgb7,uq7,ac7,pd7,mb7]
     refine⟨fun h3=>?_,fun h3=>?_⟩
     ·refine⟨by omega,yx7 (bmb7 (l:=[]) (k:=j) (by omega)) (by simp -implicitDefEqProofs only [go_sem]) ⟨_,_,rfl,.inr ⟨_,rfl,.inr (.inr ⟨_,_,rfl⟩)⟩,_,_,rfl,.inl rfl,rfl⟩ (fun r h=>by subst h;rfl) ?_⟩
      rintro r rfl
      simp -implicitDefEqProofs only [go_sem]
      refine⟨by omega,⟨by omega,by omega⟩,j+1,by omega, ?_, ?_,by omega⟩
      ·rw[fd7,fd7,show 3+2*(j+1)=3+2*j+2 by omega];rfl
      ·rw[wi7];unfold bItem;rw[hu]
     ·obtain rfl:j=(le7 s.plan k).stops.length:=by omega
      have hcw:=h.kCells k (le7 s.plan k).stops.length
      have hrb:=(h.ride k).2.1
      have hbr:=h.bikesL k
      have hbk:=h.bikeL k
      have hbk':(xf7 [] (kCells (le7 s.plan k) (nf7 s.times k) (le7 s.plan k).stops.length++[(nf7 s.times k).back])).length≤1320089:=hbk
      refine⟨by omega,pi7 (zr7 (l:=kCells (le7 s.plan k) (nf7 s.times k) (le7 s.plan k).stops.length++[(nf7 s.times k).back]) (by rw[List.length_append,List.length_singleton];omega) (fun v hv=>(List.mem_append.1 hv).elim (hcw v) (fun e=>by rw[List.mem_singleton.1 e];exact hrb))) ⟨⟨by simp[Row.len],rfl⟩,trivial⟩ (by simp only[ti7,qr7,op7,frz,aa7];rw[jf7 (by simp)];rw[hu]) (fun r h=>by subst h;rfl) ?_⟩
      rintro r rfl
      simp -implicitDefEqProofs only [go_sem,em7]
      refine⟨by simp only[List.size_toArray,List.length_append]at hbk' ⊢; omega,⟨by omega,by omega⟩,k+1,by omega, ?_,by omega⟩
      rw[jj7,List.append_assoc];rfl
   ·obtain rfl:k=s.plan.bikes.length:=by omega
    have hbr:=h.bikesL s.plan.bikes.length
    exact⟨by simp;omega,by rw[em7];rfl⟩
end Go.Proofs.YtedahhjopmkbbaaGreat.Ab
namespace Go.Proofs.YtedahhjopmkbbaaGreat.Ab
open Go.RowKit Go.Lib
def nq7 (a b:AV):Root:=.live false 106 2 (.box [a,b])
def mp7 (l:List Int):Root:=.live false 5 1 (.ints .u8 l)
theorem jib7 {P:Program}{w w':World}{b o:Nat}{v u:Value}(hc:w.cell? ⟨b,o,none⟩=some u) (hf:w.frozen? ⟨b,o,none⟩=false) (h1:v.oneCell'=true) (h:(storeCells ⟨b,o,none⟩ [v] 0).run P w = .ok () w'):w'=w.setCell ⟨b,o,none⟩ v:=by
 simp[storeCells,Sem.run_bind,Addr.add_lit,Nat.add_zero,run_store P w _ v _ h1,hc,hf,Result.andThen]at h
 exact h.symm
theorem nh7 {E:Env}{M:Mp}{H:List Root}{w:World}(hR:Rel E M H w) {id:Nat}{a b:AV}(h1:aa7 H id=nq7 a b) :
  ∃u v,w.heap[M.phi id]? = some (.cells #[u,v] 106 (0,0))∧M.off id=0∧Con M H w a u∧Con M H w b v:=by
 obtain⟨cur,k1,k2,k3,k4,k5,k6⟩:=hR.row _ _ _ _ _ h1
 obtain⟨k7,k8⟩:=k5 rfl
 obtain⟨u,u1,u2,u3⟩:=k6 0 Nat.one_pos 0 (by decide)
 obtain⟨v,v1,v2,v3⟩:=k6 0 Nat.one_pos 1 (by decide)
 rw[k7]at u1 v1
 refine⟨u,v, ?_,k7,u3,v3⟩
 rw[k1]
 congr 2
 apply Array.ext
 ·rw[k8];rfl
 ·intro i hi hi2
  rw[k8]at hi
  match i,hi with
  | 0,_=>exact (Array.getElem?_eq_some_iff.1 u1).2
  | 1,_=>exact (Array.getElem?_eq_some_iff.1 v1).2
theorem vs7 {E:Env}{M:Mp}{H:List Root}{w:World}(hR:Rel E M H w) {id:Nat}{a b:AV}(h1:aa7 H id=nq7 a b) {p:Value}(hp:Con M H w (.ptr id 1 0 0) p):p = .pointer (some ⟨M.phi id,0,none⟩):=by
 obtain⟨u,v,-,ho,-⟩:=nh7 hR h1
 have:=(hp.2 _ _ _ _ h1).2 rfl
 rw[ho]at this
 simpa using this
theorem sv7:∀{H:List Root}{id:Nat}{x y:Root},id<H.length→da7 (H++[y]) id x=da7 H id x++[y]
 | [],_,_,_,h=>absurd h (Nat.not_lt_zero _)
 | _::_,0,_,_,_=>rfl
 | _::H,id+1,_,_,h=>by simp only[List.cons_append,da7];rw[sv7 (by simpa using h)]
theorem rw7:∀(H:List Root) (id:Nat) (x y:Root),da7 (da7 H id x) id y=da7 H id y
 | [],_,_,_=>rfl
 | _::_,0,_,_=>rfl
 | _::H,id+1,_,_=>by simp only[da7];rw[rw7 H]
theorem dhb7 {ops:Array Oper}{rest:List Oper}{o:Oper}{a:Act}{Q:Exit→Act→World→Prop}(w:World) (hgd:o.guard=none) (s x:Operand) (t tx:TypeId)
  (ho:o.op = .call { callee:=.builtin .append,args:=#[s,x],argTypes:=#[t,tx] }) {v xv v':Value} {w':World} (hs:a.eval s=v) (hx:a.eval x=xv)
  (hr:(Builtin.append_ #[t,tx] o.type #[v,xv]).run Tryz.prog w = .ok v' w') (h:wpList Tryz.prog ops Q rest (a.put o.dst v') w'):wpList Tryz.prog ops Q (o::rest) a w:=by
 refine wpList_plain hgd fun _ hK=>?_
 unfold Oper.wp execOp
 simp only[ho,resolve,invoke,builtin,Sem.run_bind,Sem.run_pure,Result.andThen_ok,List.map_toArray,List.map_cons,List.map_nil,hs,hx,hr]
 exact hK _ _ h
theorem wjb7 {E:Env}{M:Mp}{H:List Root}{w:World}(hR:Rel E M H w) {id:Nat}{a b c:AV}(h1:aa7 H id=nq7 a b) {o:Nat}(ho:o<2) {v:Value}(hv:Con M H w c v) (hn:v.oneCell'=true) :
  Rel E M (da7 H id (.live false 106 2 (.box (pat [a,b] o [c])))) (w.setCell ⟨M.phi id,o,none⟩ v)∧Kp M H w M (da7 H id (.live false 106 2 (.box (pat [a,b] o [c])))) (w.setCell ⟨M.phi id,o,none⟩ v):=by
 obtain⟨x,y,hh,h0,-,-⟩:=nh7 hR h1
 obtain⟨w2,r1,r2,r3,-⟩:=lu7 (P:=Tryz.prog) hR h1 (i:=0) (o:=o) (cs:=[c]) (vs:=[v]) Nat.one_pos (by simp;omega) (by simpa using hn) rfl (fun j u hj=>by
  cases j with
  | zero=>simp at hj;subst hj;exact hv
  | succ j=>simp at hj) trivial
 rw[h0,Nat.zero_mul,Nat.zero_add]at r3
 have hc:∃u,w.cell? ⟨M.phi id,o,none⟩=some u:=by
  match o,ho with
  | 0,_=>exact⟨x,by rw[Lib.cell_of_heap hh];rfl⟩
  | 1,_=>exact⟨y,by rw[Lib.cell_of_heap hh];rfl⟩
 obtain⟨u,hc⟩:=hc
 have:=jib7 hc (Lib.frozen_of_heap hh _) hn r3
 subst this
 exact⟨r1,r2⟩
theorem aac7 {H:List Root}{id buf n:Nat}{l:List Int}{s:ByteArray}{K:RV→List Root→Prop}(h1:aa7 H id=nq7 (.ptr id 1 0 0) (.h buf 0 n)) (h2:aa7 H buf=mp7 l) (hn:n=l.length) (hs:n+s.size≤1099511627776)
  (hK:K (.tup [.c (I6 s.size),.c .junk]) (da7 (da7 H buf (mp7 (l++byI s))) id (nq7 (.ptr id 1 0 0) (.h buf 0 (n+s.size))))):lb7 Tryz.prog none 34 [.c (.ptr id 1 0 0),.c (.str s)] H K:=by
 refine⟨⟨_,_,Tryz.func34,by kernel_rfl,rfl⟩,fun E M w vs hR hv=>?_⟩
 obtain⟨p,_,rfl,hp,sv,_,rfl,hsv,rfl⟩:=hv
 obtain rfl:sv = .string s:=hsv
 obtain rfl:=vs7 hR h1 hp
 obtain⟨x,y,hh,h0,hx,hy⟩:=nh7 hR h1
 obtain rfl:=vs7 hR h1 hx
 have hne:buf≠id:=by rintro rfl;rw[h1]at h2;cases h2
 have hux:Tryz.prog.underlying 9=some .string:=Tryz.underlying9
 obtain⟨hS,hC⟩:=djb7 (P:=Tryz.prog) (M:=M) (H:=H) (w:=w) hux s
 have hlb:(Row.ints .u8 (byI s)).len=s.size:=cl7 s
 have ho:=hy
 obtain⟨M',w',v',r0,r1,r2,r3⟩:∃M' w' v',(Builtin.append_ #[24,9] 24 #[y,.string s]).run Tryz.prog w = .ok v' w'∧Rel E M' (da7 H buf (mp7 (l++byI s))) w'∧Kp M H w M' (da7 H buf (mp7 (l++byI s))) w'∧Con M' (da7 H buf (mp7 (l++byI s))) w' (.h buf 0 (n+s.size)) v':=by
  obtain⟨M',w',v',r0,r1,r2,r3,-⟩:=tw7 zb7 hR 24 9 5 24 (by kernel_rfl) Nat.one_pos (show 1≤128 by decide) hS hC h2 hn hy (by rw[hlb];exact hs) rfl
  rw[hlb]at r3
  exact⟨M',w',v',r0,r1,r2,r3⟩
 have h1':aa7 (da7 H buf (mp7 (l++byI s))) id=nq7 (.ptr id 1 0 0) (.h buf 0 n):=by rw[cc7,if_neg (fun h=>hne h.1.symm)];exact h1
 have hp':=r2 _ _ hp
 have hpe:M'.phi id=M.phi id:=by
  have:=vs7 r1 h1' hp'
  simpa using this.symm
 obtain⟨x',y',hh',h0',-,-⟩:=nh7 r1 h1'
 rw[hpe]at hh'
 obtain⟨s1,s2⟩:=wjb7 r1 h1' (o:=1) (by decide) r3 r3.1.2
 rw[hpe]at s1 s2
 have c0:w.cell? ⟨M.phi id,0,none⟩=some (.pointer (some ⟨M.phi id,0,none⟩)):=by rw[Lib.cell_of_heap hh];rfl
 have c1:w.cell? ⟨M.phi id,1,none⟩=some y:=by rw[Lib.cell_of_heap hh];rfl
 have c2:w'.cell? ⟨M.phi id,1,none⟩=some y':=by rw[Lib.cell_of_heap hh'];rfl
 have f2:w'.frozen? ⟨M.phi id,1,none⟩=false:=Lib.frozen_of_heap hh' _
 obtain⟨cap,cur,ad,rfl,-⟩:=(hy.2 _ _ _ _ h2).2 (by rw[hn];exact Nat.zero_add _)
 obtain⟨cap',cur',ad',rfl,-⟩:=(r3.2 _ _ _ _ (show aa7 (da7 H buf (mp7 (l++byI s))) buf=mp7 (l++byI s) by rw[cc7,if_pos ⟨rfl,yd7 h2⟩])).2 (by show 0+(n+s.size)=(l++byI s).length;rw[List.length_append,cl7,hn];omega)
 have HF:=hid (And.intro s1 (And.intro (Kp.trans r2 s2) hK))
 have HL:H.length≤(da7 (da7 H buf (mp7 (l++byI s))) id (nq7 (.ptr id 1 0 0) (.h buf 0 (n+s.size)))).length:=by rw[ha7,ha7];exact Nat.le_refl _
 have HR0:=hid r0
 clear hK hR hp hx hy hh hux hS hC ho hp' hh' h0 h0' r1 r2 r3 s1 s2 h1 h2 h1' hne hlb hpe hn r0
 go_enter Tryz.func34,Tryz.ntmps34
 go_wp2_with (go_at_call 63;refine (zcc7 _ _ c0).mono ?_)
 rintro e w2 ⟨rfl,rfl⟩
 go_wp2_with (at_builtin;refine dhb7 _ rfl _ _ 24 9 rfl rfl rfl HR0.out ?_)
 refine bodyPost_ret (results_tmp2 rfl _ _ _) rfl ?_
 obtain⟨f1,f3,f4⟩:=HF.out
 exact .inl ⟨M',_,.tup [.c (I6 s.size),.c .junk],_,rfl,f1,f3,⟨[.int .i64 s.size,.nilIface],rfl,_,_,rfl,rfl,_,_,rfl,trivial,rfl⟩,fun g hg=>(by cases hg),HL,f4⟩
theorem uwb7 {H:List Root}{id:Nat}{s:ByteArray}{K:RV→List Root→Prop}(h1:aa7 H id=nq7 .nilp .nils) (hs:0<s.size∧s.size≤1099511627776)
  (hK:K (.tup [.c (I6 s.size),.c .junk]) (da7 H id (nq7 (.ptr id 1 0 0) (.h H.length 0 s.size))++[mp7 (byI s)])):lb7 Tryz.prog none 34 [.c (.ptr id 1 0 0),.c (.str s)] H K:=by
 refine⟨⟨_,_,Tryz.func34,by kernel_rfl,rfl⟩,fun E M w vs hR hv=>?_⟩
 obtain⟨p,_,rfl,hp,sv,_,rfl,hsv,rfl⟩:=hv
 obtain rfl:sv = .string s:=hsv
 obtain rfl:=vs7 hR h1 hp
 obtain⟨x,y,hh,h0,hx,hy⟩:=nh7 hR h1
 obtain rfl:x = .pointer none:=hx
 obtain rfl:y = .slice none 0 0:=hy
 have c0:w.cell? ⟨M.phi id,0,none⟩=some (.pointer none):=by rw[Lib.cell_of_heap hh];rfl
 have f0:w.frozen? ⟨M.phi id,0,none⟩=false:=Lib.frozen_of_heap hh _
 have sh:w.shape? (M.phi id)=some (106,2):=by simp[World.shape?,hh]
 have hlt:=yd7 h1
 obtain⟨s1,s2⟩:=wjb7 hR h1 (o:=0) (by decide) hp rfl
 have h2:aa7 (da7 H id (nq7 (.ptr id 1 0 0) .nils)) id=nq7 (.ptr id 1 0 0) .nils:=by rw[cc7,if_pos ⟨rfl,hlt⟩]
 have s1:Rel E M (da7 H id (nq7 (.ptr id 1 0 0) .nils)) (w.setCell ⟨M.phi id,0,none⟩ (.pointer (some ⟨M.phi id,0,none⟩))):=s1
 have s2:Kp M H w M (da7 H id (nq7 (.ptr id 1 0 0) .nils)) (w.setCell ⟨M.phi id,0,none⟩ (.pointer (some ⟨M.phi id,0,none⟩))):=s2
 obtain⟨w1,hw1⟩:∃w1,w1=w.setCell ⟨M.phi id,0,none⟩ (.pointer (some ⟨M.phi id,0,none⟩)):=⟨_,rfl⟩
 rw[← hw1]at s1 s2
 obtain⟨H1,hH1⟩:∃H1,H1=da7 H id (nq7 (.ptr id 1 0 0) .nils):=⟨_,rfl⟩
 rw[← hH1]at s1 s2 h2
 have hl1:H1.length=H.length:=by rw[hH1,ha7]
 obtain⟨M',w',v',r0,r1,r2,r3⟩:∃M' w' v',(Builtin.append_ #[24,9] 24 #[.slice none 0 0,.string s]).run Tryz.prog w1 = .ok v' w'∧Rel E M' (H1++[mp7 (byI s)]) w'∧Kp M H1 w1 M' (H1++[mp7 (byI s)]) w'∧Con M' (H1++[mp7 (byI s)]) w' (.h H1.length 0 s.size) v' :=
  (fun ⟨M',w',v',r0,r1,r2,r3,_⟩=>⟨M',w',v',r0,r1,r2,r3⟩) (jab7 zb7 s1 24 9 5 24 (by kernel_rfl) (by kernel_rfl) ⟨by kernel_rfl,by kernel_rfl,by kernel_rfl⟩ hs)
 have h2':aa7 (H1++[mp7 (byI s)]) id=nq7 (.ptr id 1 0 0) .nils:=by rw[dg7,if_neg (by omega)];exact h2
 have hp1:=s2 _ _ hp
 have hp':=r2 _ _ hp1
 have hpe:M'.phi id=M.phi id:=by
  have:=vs7 r1 h2' hp'
  simpa using this.symm
 obtain⟨x1,y1,hh1,-,-,hy1⟩:=nh7 s1 h2
 obtain rfl:y1 = .slice none 0 0:=hy1
 obtain⟨x',y',hh',h0',-,-⟩:=nh7 r1 h2'
 rw[hpe]at hh'
 obtain⟨t1,t2⟩:=wjb7 r1 h2' (o:=1) (by decide) r3 r3.1.2
 rw[hpe]at t1 t2
 have c1:w1.cell? ⟨M.phi id,1,none⟩=some (.slice none 0 0):=by rw[Lib.cell_of_heap hh1];rfl
 have c2:w'.cell? ⟨M.phi id,1,none⟩=some y':=by rw[Lib.cell_of_heap hh'];rfl
 have f2:w'.frozen? ⟨M.phi id,1,none⟩=false:=Lib.frozen_of_heap hh' _
 obtain⟨cap',cur',ad',rfl,-⟩:=(r3.2 _ _ _ _ (show aa7 (H1++[mp7 (byI s)]) H1.length=mp7 (byI s) by rw[dg7,if_pos rfl])).2 (by show 0+s.size=(byI s).length;rw[cl7,Nat.zero_add])
 have hset:da7 (H1++[mp7 (byI s)]) id (.live false 106 2 (.box (pat [.ptr id 1 0 0,.nils] 1 [.h H1.length 0 s.size])))=da7 H id (nq7 (.ptr id 1 0 0) (.h H.length 0 s.size))++[mp7 (byI s)]:=by
  rw[sv7 (by omega),hH1,rw7,ha7];rfl
 rw[hset]at t1 t2
 have HF:=hid (And.intro t1 (And.intro (Kp.trans s2 (Kp.trans r2 t2)) hK))
 have HL:H.length≤(da7 H id (nq7 (.ptr id 1 0 0) (.h H.length 0 s.size))++[mp7 (byI s)]).length:=by rw[List.length_append,ha7];omega
 have HR0:=hid r0
 have HW1:=hid hw1
 clear hK hR hp hh h0 h0' r1 r2 r3 s1 s2 t1 t2 h1 h2 h2' hpe r0 hset hH1 hl1 hh' hh1 hp1 hp' hlt hw1
 go_enter Tryz.func34,Tryz.ntmps34
 go_wp2_with (go_at_call 63;refine (izb7 _ _ c0 sh f0).mono ?_)
 rintro e w2 ⟨rfl,hw2⟩
 rw[← HW1.out]at hw2
 subst hw2
 go_wp2_with (at_builtin;refine dhb7 _ rfl _ _ 24 9 rfl rfl rfl HR0.out ?_)
 refine bodyPost_ret (results_tmp2 rfl _ _ _) rfl ?_
 obtain⟨f1,f3,f4⟩:=HF.out
 exact .inl ⟨M',_,.tup [.c (I6 s.size),.c .junk],_,rfl,f1,f3,⟨[.int .i64 s.size,.nilIface],rfl,_,_,rfl,rfl,_,_,rfl,trivial,rfl⟩,fun g hg=>(by cases hg),HL,f4⟩
theorem ngc7 {E:Env}{M:Mp}{H:List Root}{w w':World}(h:Rel E M H w) {id:Nat}{t:TypeId}{sz:Nat}{r:Row}(hr:aa7 H id = .live false t sz r) (hg:w.grownBy w' (some (M.phi id))):Rel E M (da7 H id .dead) w'∧Kp M H w M (da7 H id .dead) w':=by
 have hid:=yd7 hr
 have hrho:∀b,M.rho b→w'.heap[b]? = w.heap[b]? := fun b hb=>hg.block b (h.rlt b hb) fun e=>h.thaw _ _ _ _ hr (by cases e;exact hb)
 have htau:∀b q,M.tau b=some q→w'.heap[b]? = w.heap[b]? := fun b q hq=>hg.block b (h.tau.lt hq) fun e=>by cases e;exact h.tau.row _ _ _ _ _ _ _ hq hr rfl
 have hoth:∀{j:Nat} {fz:Bool} {t2:TypeId} {s2:Nat} {r2:Row},aa7 (da7 H id .dead) j = .live fz t2 s2 r2→aa7 H j = .live fz t2 s2 r2∧j≠id:=fun {j fz t2 s2 r2} hj=>by
  rw[cc7]at hj
  by_cases e:j=id
  ·rw[if_pos ⟨e,hid⟩]at hj;cases hj
  ·rw[if_neg (fun h=>e h.1)]at hj;exact⟨hj,e⟩
 have hblk:∀{j:Nat} {fz:Bool} {t2:TypeId} {s2:Nat} {r2:Row},aa7 H j = .live fz t2 s2 r2→j≠id→w'.heap[M.phi j]? = w.heap[M.phi j]? := fun {j fz t2 s2 r2} hj hne=>hg.block _ (h.lt hj) fun e=>by
  have e:=Option.some.inj e
  cases fz with
  | false=>exact hne (h.inj _ _ _ _ _ _ _ _ hj hr e)
  | true =>
   have:=h.froz _ _ _ _ hj
   rw[e]at this
   exact h.thaw _ _ _ _ hr this
 have hk:Kp M H w M (da7 H id .dead) w':=by
  intro a v c
  cases a with
  | ptr id2 n i o=>exact⟨⟨by rw[ha7];exact c.1.1,c.1.2⟩,fun fz t2 s2 r2 hj=>c.2 _ _ _ _ (hoth hj).1⟩
  | h id2 st len =>
   refine⟨⟨by rw[ha7];exact c.1.1,c.1.2⟩,fun fz t2 s2 r2 hj=>?_⟩
   obtain⟨hj,hne⟩:=hoth hj
   obtain⟨c1,c2⟩:=c.2 _ _ _ _ hj
   refine⟨c1,fun hn=>?_⟩
   obtain⟨cap,cur,ad,k1,k2,k3,k4,k5⟩:=c2 hn
   exact⟨cap,cur,ad,k1,k2,k3,by rw[hblk hj hne];exact k4,k5⟩
  | ws=>exact WSl.keep (nl7.of rfl htau) c
  | wu=>obtain⟨n,hb',c⟩:=c;exact⟨n,hb',WSl.keep (nl7.of rfl htau) c⟩
  | wp=>exact WPt.keep (nl7.of rfl htau) c
  | junk=>trivial
  | _=>exact ad7.keep hrho (fun _ h=>h) c
 have hW:E.W0.heap.size≤w.heap.size:=h.bel.size
 refine⟨⟨⟨hg.os.trans h.bel.os,hg.tape.trans h.bel.tape,hg.output.trans h.bel.output,Nat.le_trans h.bel.size hg.size,fun k hk hx=>by
   rw[hg.block k (by omega) (fun e=>by cases e;exact (h.low _ _ _ _ _ hr).elim (fun h1=>by omega) hx)]
   exact h.bel.block k hk hx⟩,fun j fz t2 s2 r2 hj=>h.low _ _ _ _ _ (hoth hj).1,fun j fz t2 s2 r2 hj=>?_,fun j t2 s2 r2 hj=>h.froz _ _ _ _ (hoth hj).1,fun j t2 s2 r2 hj=>h.thaw _ _ _ _ (hoth hj).1,
  fun i j t1 s1 r1 t2 s2 r2 hi hj he=>h.inj _ _ _ _ _ _ _ _ (hoth hi).1 (hoth hj).1 he,fun b hb=>Nat.lt_of_lt_of_le (h.rlt b hb) hg.size,h.src, ?_⟩,hk⟩
 ·obtain⟨hj,hne⟩:=hoth hj
  exact (h.row _ _ _ _ _ hj).keep hk hrho (fun _ h=>h) (hblk hj hne)
 ·exact h.tau.keep rfl htau (fun b q hq=>(h.tau.new b q hq).2) fun b q j fz t2 s2 r2 hq hj=>h.tau.row _ _ _ _ _ _ _ hq (hoth hj).1
theorem hgb7 {w:World}{p:Addr}(n:Nat):w.grownBy (w.drew.freeze p n) (some p.block):=by
 unfold World.freeze
 split
 ·exact⟨rfl,rfl,rfl,Nat.le_refl _,fun _ _ _=>rfl⟩
 ·exact⟨rfl,rfl,rfl,by simp,fun k _ hk=>by
   simp only[Array.getElem?_modify]
   rw[if_neg (fun e=>hk (by rw[e]))]
   rfl⟩
theorem vic7 {P:Program}{e:TypeId}(hc:P.cellsOf e=1) (count o n:Nat) (hn:o+n≤count):liesAt P P.depth e count o e n=true:=by
 have hd:P.depth=(2*(P.types.size+Made.depth)+1)+1:=rfl
 rw[hd]
 simp only[liesAt,Bool.or_eq_true]
 left
 rw[hd]
 simp[rowAt,hc,hn,sameLayout]
 exact .inl (Nat.mod_one o)
theorem bmc7 {w:World}{g o cells:Nat}{l:List UInt8}(hsh:w.shape? g=some (5,cells)) (h0:l≠[]) (hn:o+l.length≤cells) (h63:l.length≤1099511627776) (hcell:∀j x,l[j]? = some x→w.cell? ((⟨g,o,none⟩:Addr).add j)=some (.int .u8 x.toNat)) :
  (Builtin.unsafeString_ #[154,3] 9 #[.pointer (some ⟨g,o,none⟩),.int .i64 l.length]).run Tryz.prog w = .ok (.string (S l)) (w.freeze ⟨g,o,none⟩ l.length):=by
 have hl:l.length≠0:=by simpa using h0
 have hc:(Tryz.prog).cellsOf 5=1:=by kernel_rfl
 have hlb:=Lib.run_loadBytes (P:=Tryz.prog) w l ⟨g,o,none⟩ .empty hcell
 have hlies:=vic7 (P:=Tryz.prog) hc (cells / (Tryz.prog).cellsOf 5) o l.length (by rw[hc,Nat.div_one];exact hn)
 have h63':¬(9223372036854775807:Int)<(l.length:Int):=by omega
 have hdef:Builtin.unsafeString_ #[154,3] 9 #[.pointer (some ⟨g,o,none⟩),.int .i64 l.length] =
   (do
    let n ← asInt (.int .i64 l.length)
    if n < 0 then runtimePanic (.error "unsafe.String: len out of range")
    if n > IntKind.i64.max then unsupported (.unsafePointer "String: a length above the largest int")
    if n=0 then pure (.string .empty)
    else if ← variablesAt ⟨g,o,none⟩ (← elemOf 154) n.toNat then do
     let s ← loadBytes ⟨g,o,none⟩ .empty n.toNat
     freeze ⟨g,o,none⟩ n.toNat
     pure (.string s)
    else unsupported (.unsafePointer "String: not so many bytes at ptr")) := rfl
 rw[hdef]
 have hmax:IntKind.i64.max=9223372036854775807:=rfl
 have hneg:¬(l.length:Int)<0:=by omega
 simp[asInt,asIntOf,hmax,h63',hneg,hl,variablesAt,hsh,elemOf,run_underlying Tryz.underlying154,hlies,hlb]
theorem mbc7 (L:List UInt8):byI (S L)=L.map fun b=>(b.toNat:Int):=rfl
theorem evc7 {H:List Root}{id buf n:Nat}{L:List UInt8}{K:RV→List Root→Prop}(h1:aa7 H id=nq7 (.ptr id 1 0 0) (.h buf 0 n)) (h2:aa7 H buf=mp7 (byI (S L))) (hn:n=L.length) (h0:L≠[]) (hs:L.length≤1099511627776)
  (hK:K (.c (.str (S L))) (da7 H buf .dead)):lb7 Tryz.prog none 39 [.c (.ptr id 1 0 0)] H K:=by
 refine⟨⟨_,_,Tryz.func39,by kernel_rfl,rfl⟩,fun E M w vs hR hv=>?_⟩
 obtain⟨p,_,rfl,hp,rfl⟩:=hv
 obtain rfl:=vs7 hR h1 hp
 obtain⟨x,y,hh,ho,hx,hy⟩:=nh7 hR h1
 subst hn
 have hbl:(byI (S L)).length=L.length:=cl7 _
 obtain⟨cap,cur,ad,rfl,k1,k2,k3,k4,k5⟩:=(hy.2 _ _ _ _ h2).2 (by show 0+L.length=(byI (S L)).length;rw[hbl,Nat.zero_add])
 have hL:0<L.length:=List.length_pos_iff.2 h0
 have hk5:=k5 (by omega)
 rw[Nat.zero_mul,Nat.add_zero]at hk5
 subst hk5
 obtain⟨cur2,m1,m2,m3,m4,m5,m6⟩:=hR.row _ _ _ _ _ h2
 rw[k3]at m1
 cases m1
 have hcell:∀j x,L[j]? = some x→w.drew.cell? ((⟨M.phi buf,M.off buf,none⟩:Addr).add j)=some (.int .u8 x.toNat):=fun j x hj=>by
  obtain⟨hjl,rfl⟩:=List.getElem?_eq_some_iff.1 hj
  obtain⟨v,v1,v2,v3⟩:=m6 j (by show j<(byI (S L)).length;rw[hbl];exact hjl) 0 Nat.one_pos
  have v4:v = .int .u8 ((byI (S L)).getD j 0):=v3
  rw[mbc7,List.getD_eq_getElem?_getD,List.getElem?_map,hj]at v4
  rw[Addr.add_lit,Lib.cell_of_heap (w:=w.drew) k3]
  rw[Nat.mul_one,Nat.add_zero]at v1
  rw[v1,v4];rfl
 have hsh:w.drew.shape? (M.phi buf)=some (5,cur.size):=by
  have hg':w.drew.heap[M.phi buf]? = some (.cells cur 5 (0,0)):=k3
  simp[World.shape?,hg']
 have hUS:=bmc7 (w:=w.drew) (g:=M.phi buf) (o:=M.off buf) (l:=L) hsh h0 (by have:M.off buf+(0+cap)*1=cur.size:=k4;omega) hs hcell
 have hSD:(Builtin.unsafeSliceData_ #[24] 154 #[.slice (some ⟨M.phi buf,M.off buf,none⟩) L.length cap]).run Tryz.prog w.drew = .ok (.pointer (some ⟨M.phi buf,M.off buf,none⟩)) w.drew:=Lib.run_unsafeSliceData_row _ _ _ _ _ _ (by omega)
 have c1:w.drew.cell? ⟨M.phi id,1,none⟩=some (.slice (some ⟨M.phi buf,M.off buf,none⟩) L.length cap):=by
  rw[Lib.cell_of_heap (w:=w.drew) hh];rfl
 obtain⟨s1,s2⟩:=ngc7 (w':=w.drew.freeze ⟨M.phi buf,M.off buf,none⟩ L.length) hR h2 (hgb7 (w:=w) (p:=⟨M.phi buf,M.off buf,none⟩) L.length)
 have HF:=hid (And.intro s1 (And.intro s2 hK))
 have HL:H.length≤(da7 H buf .dead).length:=by rw[ha7];exact Nat.le_refl _
 clear hK hR hp hx hy hh ho hbl k1 k2 k3 k4 k5 m2 m3 m4 m5 m6 hcell hsh s1 s2 h1 h2
 have mixed:(Tryz.prog).follows .mixedOrders=true:=by kernel_rfl
 go_enter Tryz.func39,Tryz.ntmps39
 go_wp2
 go_region_o
 all_goals (go_wp2;go_ret;obtain⟨f1,f3,f4⟩:=HF.out;exact .inl ⟨M,_,.c (.str (S L)),_,rfl,f1,f3,rfl,fun g hg=>(by cases hg),HL,f4⟩)
end Go.Proofs.YtedahhjopmkbbaaGreat.Ab
namespace Go.Proofs.YtedahhjopmkbbaaGreat.Ab
open Go.RowKit Go.Lib
theorem ric7 (a b:List UInt8):byI (S a)++byI (S b)=byI (S (a++b)):=by rw[mbc7,mbc7,mbc7,List.map_append]
def sib7 (s:zd7) (l:List UInt8):List Root :=
 [.live false 47 5 (.box (ac7 s)),nq7 (.ptr 1 1 0 0) (.h 3 0 l.length),.live false 2 1 (.ints .i64 [s.cost]),mp7 (byI (S l)),.live false 2 1 (.ints .i64 [(s.plan.trucks.length:Int)])]
def rec7 (s:zd7) (l:List UInt8) (k j:Nat):List Root:=sib7 s l++[.live false 69 1 (.box [yl7 (cf7 s.plan k)]),.live false 2 1 (.ints .i64 (tCells (cf7 s.plan k) (im7 s.times k) j))]
def zac7 (s:zd7) (l:List UInt8):List Root:=sib7 s l++[.live false 2 1 (.ints .i64 [(s.plan.bikes.length:Int)])]
def ndc7 (s:zd7) (l:List UInt8) (k j:Nat):List Root:=zac7 s l++[.live false 75 2 (.box [I6 (le7 s.plan k).sat,ld7 (le7 s.plan k).stops]),.live false 63 3 (.box [I6 (nf7 s.times k).out,ld7 (nf7 s.times k).starts,I6 (nf7 s.times k).back]),.live false 2 1 (.ints .i64 (kCells (le7 s.plan k) (nf7 s.times k) j))]
theorem py7 {H:List Root}{id buf n:Nat}{l m:List UInt8}{K:RV→List Root→Prop}(h1:aa7 H id=nq7 (.ptr id 1 0 0) (.h buf 0 n)) (h2:aa7 H buf=mp7 (byI (S l))) (hn:n=l.length) (hs:n+m.length≤1099511627776)
  (hK:K (.tup [.c (I6 m.length),.c .junk]) (da7 (da7 H buf (mp7 (byI (S (l++m))))) id (nq7 (.ptr id 1 0 0) (.h buf 0 (l++m).length)))):lb7 Tryz.prog none 34 [.c (.ptr id 1 0 0),.c (.str (S m))] H K:=by
 refine aac7 h1 h2 (by rw[hn];exact (cl7 (S l)).symm) hs ?_
 rw[ric7]
 rw[List.length_append,← hn]at hK
 exact hK
theorem kjc7 {s:zd7}(h:ce7 s.plan s.times s.cost):be7 Tryz.prog 13 [.agg (ac7 s)] (fun r=>r = .c (.str (S (cg7 s.plan s.times s.cost)))):=by
 refine vc7 zb7 (by kernel_rfl) (fun n=>match n with | 11=>([0,1,2,3,4,5,6,7,8,10,9,11,12,13,14],2,none) | _=>([],0,none)) Tryz.func13 rfl (by kernel_rfl) Tryz.ntmps13 (congrArg Array.toList Tryz.results13) (by kernel_rfl) (by simp) ?_
 have hc:=h.c
 have hnt:oa7 (s.plan.trucks.length:Int):=wn h.nt
 have hnb:oa7 (s.plan.bikes.length:Int):=wn h.nb
 have hnn:=h.nt
 have hbb:=h.nb
 have hhd:=h.headL
 have hml:=h.midL
 have l1:=ggb7 [112,108,97,110] [s.cost]
 have l2:=tm7 hc [112,108,97,110]
 have l3:=tm7 hnt [116,114,117,99,107,115]
 simp only[List.length_cons,List.length_nil]at l2 l3
 simp -implicitDefEqProofs only [go_sem,ac7,pd7,mb7]
 refine pi7 (bbb7 (nm:=[112,108,97,110]) (l:=[s.cost]) (by simp) (by simp) (fun v hv=>by rw[List.mem_singleton.1 hv];exact hc)) ⟨rfl,⟨rfl,rfl⟩,trivial⟩ (by simp only[ti7,qr7,op7,frz,aa7];rw[jf7 (by rfl)]) (fun r h=>by subst h;rfl) ?_
 rintro r rfl
 refine uwb7 rfl ⟨l1,by rw[sxb7];omega⟩ ?_
 simp -implicitDefEqProofs only [go_sem,nq7,mp7,sxb7]
 refine pi7 (bbb7 (nm:=[116,114,117,99,107,115]) (l:=[(s.plan.trucks.length:Int)]) (by simp) (by simp) (fun v hv=>by rw[List.mem_singleton.1 hv];exact hnt)) ⟨rfl,⟨rfl,rfl⟩,trivial⟩ (by simp only[ti7,qr7,op7,frz,aa7];rw[jf7 (by rfl)]) (fun r h=>by subst h;rfl) ?_
 rintro r rfl
 refine py7 rfl rfl rfl (by omega) ?_
 simp -implicitDefEqProofs only [go_sem,nq7,mp7]
 refine ec7 (ι:=Nat) [1,3,29,30] [31] (fun k=>k≤s.plan.trucks.length) (fun k=>[.c (I6 k)]) (fun k=>sib7 s (YtedahhjopmkbbaaGreat.yg7 s.plan s.cost++ze7 s.plan s.times k)) (fun k=>s.plan.trucks.length-k) (by kernel_rfl) ⟨0,Nat.zero_le _,rfl,(by rw[show ze7 s.plan s.times 0=[] from rfl,List.append_nil];rfl)⟩ (fun _ _=>⟨rfl,rfl,rfl,rfl⟩) ?_
 intro k hk
 have htr:=h.trucksL k
 have htk:=h.truckL k
 have htk':(xf7 [] (tCells (cf7 s.plan k) (im7 s.times k) (cf7 s.plan k).length)).length≤1980023:=htk
 have hnx:YtedahhjopmkbbaaGreat.yg7 s.plan s.cost++ze7 s.plan s.times (k+1)=(YtedahhjopmkbbaaGreat.yg7 s.plan s.cost++ze7 s.plan s.times k)++xf7 [] (tCells (cf7 s.plan k) (im7 s.times k) (cf7 s.plan k).length):=by rw[kh7,← List.append_assoc];rfl
 have hle:k=s.plan.trucks.length→YtedahhjopmkbbaaGreat.yg7 s.plan s.cost++ze7 s.plan s.times k++xf7 [98,105,107,101,115] [(s.plan.bikes.length:Int)]=meb7 s.plan s.times s.cost:=fun e=>by subst e;rfl
 have hal:(YtedahhjopmkbbaaGreat.yg7 s.plan s.cost++ze7 s.plan s.times k).length≤198002300056:=by rw[List.length_append];omega
 generalize YtedahhjopmkbbaaGreat.yg7 s.plan s.cost++ze7 s.plan s.times k=acc at hnx hle hal
 simp -implicitDefEqProofs only [go_sem,sib7,nq7,mp7,ac7,pd7,mb7]
 refine⟨fun h1=>?_,fun h1=>?_⟩
 ·have hkl:(cf7 s.plan k).length≤30000:=(h.truck k).1
  refine⟨by omega, ?_⟩
  refine ec7 (ι:=Nat) [1,3,4,29,30,31,41,42] [6,43] (fun j=>j≤(cf7 s.plan k).length) (fun j=>[.c (.h 6 0 (tCells (cf7 s.plan k) (im7 s.times k) j).length),.c (I6 j)]) (fun j=>rec7 s acc k j) (fun j=>(cf7 s.plan k).length-j) (by kernel_rfl) ⟨0,Nat.zero_le _,rfl,rfl⟩ (fun _ _=>⟨rfl,rfl,rfl,rfl⟩) ?_
  intro j hj
  have hlen:=lc7 (cf7 s.plan k) (im7 s.times k) j
  simp -implicitDefEqProofs only [go_sem,rec7,sib7,nq7,mp7,ac7,pd7,mb7]
  refine⟨fun h3=>?_,fun h3=>?_⟩
  ·refine⟨by omega,wg7 (whc7 (t:=s.times) (k:=k) (by omega)) (by simp -implicitDefEqProofs only [go_sem]) rfl rfl ?_⟩
   rintro r rfl
   try simp -implicitDefEqProofs only [go_sem]
   refine pb7 (qdc7 (by omega)) (by simp -implicitDefEqProofs only [go_sem]) rfl (fun r h=>by subst h;rfl) ?_
   rintro r rfl
   simp -implicitDefEqProofs only [go_sem]
   refine⟨by omega,⟨by omega,by omega⟩,j+1,by omega, ?_, ?_,by omega⟩
   ·rw[lc7,lc7,show 1+3*(j+1)=1+3*j+3 by omega];rfl
   ·rw[ui7];rfl
  ·obtain rfl:j=(cf7 s.plan k).length:=by omega
   have hcw:=h.tCells k (cf7 s.plan k).length
   refine pi7 (bbb7 (nm:=[]) (l:=tCells (cf7 s.plan k) (im7 s.times k) (cf7 s.plan k).length) (by simp) (by omega) hcw) ⟨rfl,⟨Nat.zero_add _,rfl⟩,trivial⟩ (by simp only[ti7,qr7,op7,frz,aa7];rw[jf7 rfl]) (fun r h=>by subst h;rfl) ?_
   rintro r rfl
   refine py7 rfl rfl rfl (by omega) ?_
   refine⟨⟨by omega,by omega⟩,k+1,by omega,rfl, ?_,by omega⟩
   rw[hnx];rfl
 ·obtain rfl:k=s.plan.trucks.length:=by omega
  have hle:=hle rfl
  clear hk htr htk htk' hnx h1
  refine pi7 (bbb7 (nm:=[98,105,107,101,115]) (l:=[(s.plan.bikes.length:Int)]) (by simp) (by simp) (fun v hv=>by rw[List.mem_singleton.1 hv];exact hnb)) ⟨rfl,⟨rfl,rfl⟩,trivial⟩ (by simp only[ti7,qr7,op7,frz,aa7];rw[jf7 (by rfl)]) (fun r h=>by subst h;rfl) ?_
  rintro r rfl
  have hle2:=congrArg List.length hle
  rw[List.length_append]at hle2
  refine py7 rfl rfl rfl (by omega) ?_
  rw[hle]
  simp -implicitDefEqProofs only [go_sem,nq7,mp7]
  refine ec7 (ι:=Nat) [1,3,76,77] [78] (fun k=>k≤s.plan.bikes.length) (fun k=>[.c (I6 k)]) (fun k=>zac7 s (meb7 s.plan s.times s.cost++bh7 s.plan s.times k)) (fun k=>s.plan.bikes.length-k) (by kernel_rfl) ⟨0,Nat.zero_le _,rfl,(by rw[show bh7 s.plan s.times 0=[] from rfl,List.append_nil];rfl)⟩ (fun _ _=>⟨rfl,rfl,rfl,rfl⟩) ?_
  intro k hk
  have hbr:=h.bikesL k
  have hbk:=h.bikeL k
  have hbk':(xf7 [] (kCells (le7 s.plan k) (nf7 s.times k) (le7 s.plan k).stops.length++[(nf7 s.times k).back])).length≤1320089:=hbk
  have hnx:meb7 s.plan s.times s.cost++bh7 s.plan s.times (k+1)=(meb7 s.plan s.times s.cost++bh7 s.plan s.times k)++xf7 [] (kCells (le7 s.plan k) (nf7 s.times k) (le7 s.plan k).stops.length++[(nf7 s.times k).back]):=by rw[jj7,← List.append_assoc];rfl
  have hen:k=s.plan.bikes.length→meb7 s.plan s.times s.cost++bh7 s.plan s.times k++[101,110,100,10]=cg7 s.plan s.times s.cost:=fun e=>by subst e;rfl
  have hal2:(meb7 s.plan s.times s.cost++bh7 s.plan s.times k).length≤400002300056:=by rw[List.length_append];omega
  have hpos:0<(meb7 s.plan s.times s.cost++bh7 s.plan s.times k).length:=by
   rw[List.length_append,meb7,List.length_append,List.length_append]
   have:=ggb7 [98,105,107,101,115] [(s.plan.bikes.length:Int)]
   omega
  generalize meb7 s.plan s.times s.cost++bh7 s.plan s.times k=ac2 at hnx hen hal2 hpos
  simp -implicitDefEqProofs only [go_sem,zac7,sib7,nq7,mp7,ac7,pd7,mb7]
  refine⟨fun h1=>?_,fun h1=>?_⟩
  ·have hkl:(le7 s.plan k).stops.length≤30000:=(h.bike k).1
   refine⟨by omega,wg7 (cac7 (t:=s.times) (k:=k) (by omega)) (by simp -implicitDefEqProofs only [go_sem]) rfl rfl ?_⟩
   rintro r rfl
   simp -implicitDefEqProofs only [go_sem]
   refine ec7 (ι:=Nat) [1,3,11,76,77,78,97,98] [12,99] (fun j=>j≤(le7 s.plan k).stops.length) (fun j=>[.c (.h 8 0 (kCells (le7 s.plan k) (nf7 s.times k) j).length),.c (I6 j)]) (fun j=>ndc7 s ac2 k j) (fun j=>(le7 s.plan k).stops.length-j) (by kernel_rfl) ⟨0,Nat.zero_le _,rfl,rfl⟩ (fun _ _=>⟨rfl,rfl,rfl,rfl⟩) ?_
   intro j hj
   have hlen:=fd7 (le7 s.plan k) (nf7 s.times k) j
   simp -implicitDefEqProofs only [go_sem,ndc7,zac7,sib7,nq7,mp7,ac7,pd7,mb7]
   refine⟨fun h3=>?_,fun h3=>?_⟩
   ·refine⟨by omega,pb7 (qdc7 (by omega)) (by simp -implicitDefEqProofs only [go_sem]) rfl (fun r h=>by subst h;rfl) ?_⟩
    rintro r rfl
    simp -implicitDefEqProofs only [go_sem]
    refine⟨by omega,⟨by omega,by omega⟩,j+1,by omega, ?_, ?_,by omega⟩
    ·rw[fd7,fd7,show 3+2*(j+1)=3+2*j+2 by omega];rfl
    ·rw[wi7];rfl
   ·obtain rfl:j=(le7 s.plan k).stops.length:=by omega
    have hcw:=h.kCells k (le7 s.plan k).stops.length
    have hrb:=(h.ride k).2.1
    refine⟨by omega,pi7 (bbb7 (nm:=[]) (l:=kCells (le7 s.plan k) (nf7 s.times k) (le7 s.plan k).stops.length++[(nf7 s.times k).back]) (by simp) (by rw[List.length_append,List.length_singleton];omega) (fun v hv=>(List.mem_append.1 hv).elim (hcw v) (fun e=>by rw[List.mem_singleton.1 e];exact hrb))) ⟨rfl,⟨by simp[Row.len],rfl⟩,trivial⟩ (by simp only[ti7,qr7,op7,frz,aa7];rw[jf7 (by simp)]) (fun r h=>by subst h;rfl) ?_⟩
    rintro r rfl
    refine py7 rfl rfl rfl (by omega) ?_
    refine⟨⟨by omega,by omega⟩,k+1,by omega,rfl, ?_,by omega⟩
    rw[hnx];rfl
  ·obtain rfl:k=s.plan.bikes.length:=by omega
   have hen:=hen rfl
   refine yx7 (bbb7 (nm:=[101,110,100]) (l:=[]) (by simp) (by simp) (fun v hv=>by cases hv)) (by simp -implicitDefEqProofs only [go_sem]) ⟨_,_,rfl,.inl rfl,_,_,rfl,.inr ⟨_,rfl,.inr (.inr ⟨_,_,rfl⟩)⟩,rfl⟩ (fun r h=>by subst h;rfl) ?_
   rintro r rfl
   refine py7 rfl rfl rfl (by simp[xf7,lnS];omega) ?_
   simp -implicitDefEqProofs only [go_sem,nq7,mp7]
   refine evc7 (L:=ac2++xf7 [101,110,100] []) rfl rfl rfl (fun e=>by have:=congrArg List.length e;rw[List.length_append,List.length_nil]at this;omega) (by simp[xf7,lnS];omega) ?_
   simp -implicitDefEqProofs only [go_sem]
   rw[← hen];rfl
end Go.Proofs.YtedahhjopmkbbaaGreat.Ab
namespace Go.Proofs.YtedahhjopmkbbaaGreat
open Go.RowKit Go.Lib
theorem pfc7:cg7 ⟨[[⟨0,5⟩]],[]⟩ ⟨[[4]],[]⟩ 0=[112,108,97,110,32,48,10,116,114,117,99,107,115,32,49,10,49,32,48,32,53,32,52,10,98,105,107,101,115,32,48,10,101,110,100,10]:=by
 have d0:itoa 0=[48]:=by unfold itoa decDigits;rfl
 have d1:itoa 1=[49]:=by unfold itoa decDigits;rfl
 have d4:itoa 4=[52]:=by unfold itoa decDigits;rfl
 have d5:itoa 5=[53]:=by unfold itoa decDigits;rfl
 simp[cg7,meb7,YtedahhjopmkbbaaGreat.yg7,ze7,bh7,ey7,xf7,lnS,tf7,tCells,tItem,ph7,d0,d1,d4,d5]
theorem ztc7:ce7 ⟨[[⟨0,5⟩]],[]⟩ ⟨[[4]],[]⟩ 0 where
 nt:=by decide
 nb:=by decide
 st:=by unfold oa7;decide
 sb:=fun b hb=>by cases hb
 tt:=by unfold oa7;decide
 tb:=fun b hb=>by cases hb
 c:=by unfold oa7;decide
namespace Ab
theorem crb7:be7 Tryz.prog 5 [] (fun r=>r = .c (.bool true)):=by
 refine vc7 zb7 (by kernel_rfl) (fun _=>([],0,none)) Tryz.func5 rfl (by kernel_rfl) Tryz.ntmps5 (congrArg Array.toList Tryz.results5) (by kernel_rfl) (by simp) ?_
 simp -implicitDefEqProofs only [go_sem]
 refine yx7 (kjc7 (s:=⟨⟨[[⟨0,5⟩]],[]⟩,⟨[[4]],[]⟩,0⟩) ztc7) (by simp -implicitDefEqProofs only [go_sem]) ?_ (fun r h=>by subst h;rfl) ?_
 ·refine⟨_,_,rfl,.inr ⟨_,rfl,⟨_,_,rfl,.inr ?_,_,_,rfl,.inr (.inr ⟨_,_,rfl⟩),_,_,rfl,.inr ?_,_,_,rfl,.inr (.inr ⟨_,_,rfl⟩),_,_,rfl,.inl rfl,rfl⟩⟩,rfl⟩
  ·exact hub7 [[⟨0,5⟩]] _ (fun i _=>by rw[Nat.zero_add];rfl)
  ·exact wsb7 [[4]] _ (fun i _=>by rw[Nat.zero_add];rfl)
 rintro r rfl
 rw[pfc7]
 simp -implicitDefEqProofs only [go_sem]
 generalize hb:eqS _ _=b
 obtain rfl:b=true:=hb ▸ decide_eq_true rfl
 clear hb
 simp -implicitDefEqProofs only [go_sem,eq_self,not_true_eq_false,not_false_eq_true,decide_false,decide_true,Bool.not_false,Bool.not_true,Bool.or_false,Bool.false_or,Bool.true_or,Bool.or_true,Bool.and_true,Bool.true_and,Bool.false_and,Bool.and_false,true_implies]
 refine pb7 pqb7 (by simp -implicitDefEqProofs only [go_sem]) rfl (fun r h=>by subst h;rfl) ?_
 rintro r rfl
 simp -implicitDefEqProofs only [go_sem,eq_self,not_true_eq_false,not_false_eq_true,decide_false,decide_true,Bool.not_false,Bool.not_true,Bool.or_false,Bool.false_or,Bool.true_or,Bool.or_true,Bool.and_true,Bool.true_and,Bool.false_and,Bool.and_false,true_implies]
end Ab
end Go.Proofs.YtedahhjopmkbbaaGreat
namespace Go.Proofs.YtedahhjopmkbbaaGreat.Ab
open Go.RowKit Go.Lib
theorem ycc7 {x:jb7}(h:nm7 x):∀c∈dd7 x,0≤c.load∧c.load≤13:=by
 intro s hs
 unfold dd7 at hs
 split at hs
 ·simp at hs;subst hs;simp
 ·unfold tb7 at hs
  obtain⟨t,ht,rfl⟩:=List.mem_map.1 hs
  have:=h.custs t (List.mem_of_mem_take (List.mem_of_mem_take ht))
  unfold wf8 at this
  unfold hz7 xab7
  simp only[]
  split <;> omega
theorem bbc7 {x:ca7}(h:∀c∈x.custs,0≤c.load∧c.load≤13) (c:Nat):(fc7 x c).load≤13:=by
 unfold fc7
 rw[Int.toNat_natCast,List.getD_eq_getElem?_getD]
 by_cases hc:c<x.custs.length
 ·rw[List.getElem?_eq_getElem hc];exact (h _ (List.getElem_mem hc)).2
 ·rw[List.getElem?_eq_none (by omega)];simp
theorem kqc7 {x:ca7}(h:∀c∈x.custs,0≤c.load∧c.load≤13) (w:df7) (os:List Nat):∀k s,(ff7 x w os k).1.getD s 0≤13*(k:Int)
 | 0,s=>by
  show (List.replicate _ (0:Int)).getD s 0≤_
  rw[List.getD_eq_getElem?_getD,List.getElem?_replicate]
  split <;> simp
 | k+1,s=>by
  have ih:=kqc7 h w os k
  have hl:=bbc7 h (os.getD k 0)
  show (wd7 x w (os.getD k 0) (ff7 x w os k).1).getD s 0≤_
  unfold wd7
  generalize (ff7 x w os k).1=lo at *
  rw[List.getD_eq_getElem?_getD,List.getElem?_set]
  have h1:=ih s
  have h2:=ih (sh7 x w (os.getD k 0))
  rw[List.getD_eq_getElem?_getD]at h1
  push_cast
  split
  ·split
   ·simp only[Option.getD_some];omega
   ·simp only[Option.getD_none];omega
  ·omega
theorem zlb7 {x:ca7}{w:df7}{lo:List Int}{B:Nat}(hl:∀s,lo.getD s 0≤(B:Int)):∀s,((dUp x w lo s).1.map List.length).sum≤B*s
 | 0=>by simp[dUp]
 | s+1=>by
  have ih:=zlb7 (x:=x) (w:=w) hl s
  have h:=qdb7 x.tmany x.troom (bsb7 w s) s (lo.getD s 0).toNat (lo.getD s 0) (dUp x w lo s)
  have:=hl s
  show ((bx7 x.tmany x.troom (bsb7 w s) s (lo.getD s 0).toNat (lo.getD s 0) (dUp x w lo s)).1.map List.length).sum≤_
  rw[Nat.mul_add,Nat.mul_one]
  omega
theorem zjb7 {out:List (List ba7)}(s:ba7) {m:Nat}(h:out.length≤m+1) (hs:(out.map List.length).sum=m∨m≤(out.map List.length).sum):(cb7 out s).length≤((cb7 out s).map List.length).sum:=by
 by_cases h0:0<out.length
 ·obtain⟨l,a,rfl⟩:=yo7 h0
  rw[pj7]
  simp only[List.map_append,List.sum_append,List.map_cons,List.map_nil,List.sum_cons,List.sum_nil,List.length_append,List.length_singleton]at h hs ⊢
  omega
 ·obtain rfl:=List.eq_nil_of_length_eq_zero (by omega:out.length=0)
  simp[cb7]
theorem gpb7 (many room:Int) (q:Bool) (s:Nat):∀(f:Nat) (n:Int) (st:List (List ba7)×Int),st.1.length≤(st.1.map List.length).sum→(bx7 many room q s f n st).1.length≤((bx7 many room q s f n st).1.map List.length).sum
 | 0,_,st,h=>h
 | f+1,n,st,h=>by
  unfold bx7
  split
  ·exact h
  ·refine gpb7 many room q s f _ _ ?_
   have hr:=ofb7 many room q st
   refine zjb7 (m:=(st.1.map List.length).sum) _ ?_ (.inl hr)
   unfold readyQ
   split
   ·simp;omega
   ·show st.1.length≤_;omega
theorem jtb7 (x:ca7) (w:df7) (lo:List Int):∀s,(dUp x w lo s).1.length≤((dUp x w lo s).1.map List.length).sum
 | 0=>by simp[dUp]
 | s+1=>gpb7 _ _ _ _ _ _ _ (jtb7 x w lo s)
structure isc7 (p:ua7):Prop where
 t:p.trucks.length≤234
 ts:rac7 p.trucks≤234
 b:p.bikes.length≤6
 bs:∀b∈p.bikes,b.stops.length≤6
theorem ysb7 {s:jb7}(h:SmallK s) (w:df7):isc7 (fg7 (yj7 s) w):=by
 have hy:=smb7 h
 have hf:∀c∈(yj7 s).custs,0≤c.load∧c.load≤13:=ycc7 h.wf
 generalize yj7 s=x at *
 have hol:(jd7 x w).length=x.custs.length:=fh7 _ _
 have hnc:=hy.nc
 have hns:=hy.ns
 have hk:=fk7 (x:=x) w (os:=jd7 x w) (fun c hc=>by have:=hf c hc;omega) (by omega) (nk7 _ _) (jd7 x w).length (Nat.le_refl _)
 have hlv:∀s,(ib7 x w).1.getD s 0≤((78:Nat):Int):=fun s=>by
  have:=kqc7 hf w (jd7 x w) (jd7 x w).length s
  show (ff7 x w (jd7 x w) (jd7 x w).length).1.getD s 0≤_
  rw[hol]at this ⊢
  omega
 have hd:=zlb7 (x:=x) (w:=w) hlv (ib7 x w).1.length
 have hll:(ib7 x w).1.length≤3:=by unfold ib7;rw[hk.loL];omega
 have hl:=jtb7 x w (ib7 x w).1 (ib7 x w).1.length
 have h3:78*(ib7 x w).1.length≤78*3:=Nat.mul_le_mul_left _ hll
 refine⟨?_, ?_, ?_,fun b hb=>?_⟩
 ·show (dUp x w (ib7 x w).1 (ib7 x w).1.length).1.length≤_;omega
 ·show ((dUp x w (ib7 x w).1 (ib7 x w).1.length).1.map List.length).sum≤_;omega
 ·have:=hk.bsL
  show (ff7 x w (jd7 x w) (jd7 x w).length).2.length≤_
  omega
 ·have:=(hk.bsB b hb).2.1
  omega
theorem bnb7:∀{l:List (List ba7)}{t:List ba7},t∈l→t.length≤rac7 l
 | b::l,t,h=>by
  have e:rac7 (b::l)=b.length+rac7 l:=by simp[rac7]
  rw[e]
  rcases List.mem_cons.1 h with rfl | h
  ·omega
  ·have:=bnb7 h;omega
theorem vqc7 {y:ca7}(h:YOk y) (wi:df7) (hf:isc7 (fg7 y wi)) {t:nb7}(ht:cz7 t) {cost:Int}(hc:oa7 cost):ce7 (fg7 y wi) t cost:=by
 have hp:=(bu7 h wi).wf
 exact⟨by have:=hf.t;omega,by have:=hf.b;omega,fun l hl=>⟨by have:=bnb7 hl;have:=hf.ts;omega,hp.trucks l hl⟩,fun b hb=>⟨by have:=hf.bs b hb;omega,(hp.bikes b hb).1,(hp.bikes b hb).2⟩,ht.trucks,fun r hr=>ht.bikes r hr,hc⟩
section
variable {p:ua7} {t:nb7} {c:Int} (h:ce7 p t c)
include h
theorem hwb7 (i:Nat):(ey7 p t i).length≤23+66*(ph7 p i).length:=by
 have h1:=zm7 (nm:=[]) (h.tCells i (ph7 p i).length)
 rw[lc7]at h1
 unfold ey7
 simp only[List.length_nil]at h1
 omega
theorem fz7:∀k,k≤p.trucks.length→(ze7 p t k).length≤23*k+66*rac7 (p.trucks.take k)
 | 0,_=>Nat.zero_le _
 | k+1,hk=>by
  have h1:=fz7 k (by omega)
  have h2:=hwb7 h k
  have e:rac7 (p.trucks.take (k+1))=rac7 (p.trucks.take k)+(ph7 p k).length:=by
   unfold rac7 ph7
   rw[List.take_succ_eq_append_getElem (by omega),List.map_append,List.sum_append,List.getD_eq_getElem?_getD,List.getElem?_eq_getElem (by omega)]
   simp
  rw[kh7,List.length_append,e]
  omega
theorem whb7 (hb:∀b∈p.bikes,b.stops.length≤6):∀k,(bh7 p t k).length≤353*k
 | 0=>Nat.zero_le _
 | k+1=>by
  have h1:=whb7 hb k
  have h2:(yqb7 p t k).length≤353:=by
   have h1:=zm7 (nm:=[]) (l:=kCells (bn7 p k) (do7 t k) (bn7 p k).stops.length++[(do7 t k).back]) fun n hn=>by
    rcases List.mem_append.1 hn with hn | hn
    ·exact h.kCells k _ n hn
    ·rw[List.mem_singleton.1 hn];exact (h.ride k).2.1
   rw[List.length_append,fd7,List.length_singleton]at h1
   have h6:(bn7 p k).stops.length≤6:=ih7 (P:=fun b:ga7=>b.stops.length≤6) hb (by simp) k
   unfold yqb7
   simp only[List.length_nil]at h1
   omega
  rw[jj7,List.length_append]
  omega
theorem vob7 (hf:isc7 p):(cg7 p t c).length≤30000:=by
 have h1:=h.headL
 have h2:=fz7 h p.trucks.length (Nat.le_refl _)
 rw[List.take_length]at h2
 have h3:=tm7 (wn h.nb) [98,105,107,101,115]
 have h4:=whb7 h hf.bs p.bikes.length
 have h5:=hf.t
 have h6:=hf.ts
 have h7:=hf.b
 unfold cg7 meb7
 simp only[List.length_append,List.length_cons,List.length_nil]at h3 ⊢
 omega
end
end Go.Proofs.YtedahhjopmkbbaaGreat.Ab
