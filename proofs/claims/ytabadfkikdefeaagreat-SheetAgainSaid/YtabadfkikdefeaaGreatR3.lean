/- Texts of the proof, joined: AX, EncA, Enc, AdA, Ad, AtP, StrM, StrN, Up, Tells, BldM, SheetM, Pc0, Pc1, RowL. -/
import Derived.Shelf.RegionOpenPlain
import Derived.Test.YtabadfkikdefeaaGreatQ5
import Derived.Test.YtabadfkikdefeaaGreatP9
set_option linter.all false
set_option maxRecDepth 100000
set_option maxHeartbeats 6400000
namespace Go.Proofs.YtabadfkikdefeaaGreat.Ab
open Go.RowKit
def dep:Nat→CK→Bool
 | _,.i _=>true
 | 0,.s .. => false
 | d+1,.s _ ck _=>ck.all (dep d)
def Rd:Nat→CK→AV→Prop
 | _,.i k,x=>∃n,x = .int k n∧inK k n
 | 0,.s ..,_=>False
 | d+1,.s _ ck b,x=>∃n f,x = .sl n ck.length f∧n≤b∧∀i,i<n→∀(j:Nat) (q:CK),ck[j]? = some q→Rd d q (f i j)
def okW (d:Nat):List AV→Bool
 | []=>true
 | .ws _ ck _::l=>ck.all (dep d)&&okW d l
 | .int .. :: l=>okW d l
 | .bool _::l=>okW d l
 | .nils::l=>okW d l
 | _=>false
section
variable {P:Program} {ty:Ty} {E:Env} {M:Mp} {H:List Root} {w:World} {rho:Nat→Prop} {E0:Nat}
end
abbrev I6 (n:Int):AV:=.int .i64 n
def ix2 (a b:AV):Nat→AV
 | 0=>a
 | _=>b
def ix3 (a b c:AV):Nat→AV
 | 0=>a
 | 1=>b
 | _=>c
def ix4 (a b c d:AV):Nat→AV
 | 0=>a
 | 1=>b
 | 2=>c
 | _=>d
abbrev kf7 (l:List Int):AV:=.sl l.length 1 (fun i _=>I6 (l.getD i 0))
def jcb7 (p:ab7) (i:Nat):List ea7:=p.trucks.getD i []
def cy7 (p:ab7) (i:Nat):ga7:=p.bikes.getD i ⟨0,[]⟩
def stN (l:List ea7) (i:Nat):ea7:=l.getD i ⟨0,0⟩
abbrev vm7 (l:List ea7):AV:=.sl l.length 2 (fun i=>ix2 (I6 (stN l i).sat) (I6 (stN l i).load))
def eo7 (p:ab7):List AV:=[.sl p.trucks.length 1 (fun i _=>vm7 (jcb7 p i)),.sl p.bikes.length 2 (fun i=>ix2 (I6 (cy7 p i).sat) (kf7 (cy7 p i).stops))]
def kab7 (t:qb7) (i:Nat):List Int:=t.trucks.getD i []
def jl7 (t:qb7) (i:Nat):qa7:=t.bikes.getD i ⟨0,[],0⟩
def ri7 (t:qb7):List AV:=[.sl t.trucks.length 1 (fun i _=>kf7 (kab7 t i)),.sl t.bikes.length 3 (fun i=>ix3 (I6 (jl7 t i).out) (kf7 (jl7 t i).starts) (I6 (jl7 t i).back))]
theorem xlc7 (p:Prop) [Decidable p]:(decide p=true)=p:=by simp
theorem gkc7 (p:Prop) [Decidable p]:(decide p=false)=¬p:=by simp
theorem dmc7 {b:ByteArray}{p:RV→Prop}:(∃r,ivb7 (.c (.str b)) r∧p r)=p (.c (.str b)):=propext ⟨fun ⟨_,⟨_,e,e2⟩,h⟩=>by subst e;rcases e2 with e2 | e2 <;> (subst e2;exact h),fun h=>⟨_,⟨_,rfl,.inl rfl⟩,h⟩⟩
attribute [go_sem ↓ low] xoc7
attribute [go_sem ↓] pmc7 apc7 pic7 blc7 zfc7 qmc7 bhc7 zac7 eic7 hlc7 fpc7 pnc7 qnc7 noc7 knc7 uoc7 poc7 epc7 wnc7 toc7 ooc7 foc7 xkc7 ufc7 ioc7
attribute [go_sem] rmc7 bmc7 wlc7 ijc7 onc7 moc7 loc7 ehc7 cbb7 ikc7 qlc7 hkc7 bkc7 mjc7 doc7 voc7 aoc7 inc7 boc7 soc7 hnc7 eoc7 coc7 hoc7 roc7 cpc7 zoc7 enc7 pjc7 appW zW ckE qhc7 pbc7 ebc7 scc7 mcc7 zhc7 nec7 wac7 yec7 kjc7 rcc7 bgc7 jhc7 List.drop_nil Option.toList_none Option.toList_some mmc7 hic7 gpc7 olc7 qjb7 Option.map_some Option.map_none List.drop_zero List.drop_succ_cons zmc7 renG yhb7 tib7 rt7 ecc7 ohc7 bcc7 cyb7 hjc7 pkb7 ifc7 xnc7 fhc7 jdc7 ahc7 mfc7 acc7 pcc7 uac7 yjc7 omc7 kmc7 amc7 dkc7 zlc7 rnb7 ybc7 qvb7 pos okI List.cons_append List.replicate_succ List.replicate_zero lpK ymc7 Int.toNat_zero xlc7 gkc7 Bool.and_eq_true Bool.not_eq_true' and_imp setT fxT gets zo7 yz7 khc7 snb7 igb7 AV.scp List.take_succ_cons List.take_zero List.take_nil jkc7 dgc7 bjc7 jic7 ggc7 nkc7 sdc7 kdc7 ylc7 tfc7 oic7 xjc7 snc7 znc7 strOf AV.strOf gfc7 whc7 cmc7 unc7 rlc7 nnc7 gnc7 nlc7 lkc7 ekc7 tlc7 wkc7 zkc7 vnc7 rnc7 okc7 skc7 xfc7 rhc7 jfc7 tjc7 true_or or_true false_or or_false gmc7 hmc7 joc7 tkc7 t_n t_e t_r b_n b_e b_r c_t r_r r_n isV guardOf wab7 pgs rgs rds opV zgc7 AS.rd lk lac7 smc7 ulc7 dlc7 akc7 pc7 bv7 mec7 vld at2 hcb7 da7 tab Row.get Row.len Row.isBox Row.one fnc7 mib7 nth fx7 yac7 jvb7 ib7 fgc7 unV pgb7 mmV ig7 shb7 cec7 fec7 jab7 kub7 Row.put pat trb7 ja7 rjc7 chunk takeN hmb7 rep lr7 mx7 cr7 xwb7 zOk zeros xxb7 rh7 Row.app Row.drop ih7 gmb7 zs7 frz frzH Root.mark fy7 yfc7 one elc7 xhc7 dmc7 okT okR kvb7 ljc7 yhc7 su7 dn7 ygb7 cvb7 qfc7 cbc7 opD bfc7 ix2 ix3 ix4 Int.toNat_natCast tyM fmc7 njL AV.nj kN inK flc7 fkc7 if_true if_false true_and and_true forall_const implies_true false_implies imp_self List.length_cons List.length_nil List.map_cons List.map_nil List.nil_append List.cons_append Bool.false_eq_true Bool.true_and ne_eq not_false_eq_true decide_true decide_false Decidable.not_not Nat.add_zero Nat.zero_add Nat.zero_mul
attribute [go_sem_proc ↓] reduceIte
attribute [go_sem_proc] reduceCtorEq Nat.reduceAdd Nat.reduceLT Nat.reduceEqDiff Nat.reduceMul Nat.reduceLeDiff Nat.reduceSub
def ilc7 (x:ba7) (i:Nat):uob7:=x.sats.getD i ⟨0,0⟩
def dhc7 (x:ba7) (i:Nat):ar7:=x.custs.getD i ⟨0,0,0,0⟩
abbrev ckc7 (x:ba7):AV:=.sl x.sats.length 2 (fun i=>ix2 (I6 (ilc7 x i).room) (I6 (ilc7 x i).hold))
abbrev oec7 (x:ba7):AV:=.sl x.custs.length 4 (fun i=>ix4 (I6 (dhc7 x i).load) (I6 (dhc7 x i).opn) (I6 (dhc7 x i).cls) (I6 (dhc7 x i).stay))
abbrev umc7 (n:Nat) (f:Nat→Nat→Int):AV:=.sl n 1 (fun i _=>.sl n 1 (fun j _=>I6 (f i j)))
def jmc7 (x:ba7) (i j:Nat):Int:=(x.cost.getD i []).getD j 0
def mub7 (x:ba7) (i j:Nat):Int:=(x.time.getD i []).getD j 0
theorem vbc7 (x:ba7) (a b:Int):mub7 x a.toNat b.toNat=cb7 x a b:=rfl
theorem mwb7 (x:ba7) (a:Int):mub7 x a.toNat 0=cb7 x a 0:=rfl
theorem hxb7 (x:ba7) (b:Int):mub7 x 0 b.toNat=cb7 x 0 b:=rfl
theorem pvb7 (x:ba7):mub7 x 0 0=cb7 x 0 0:=rfl
def imc7 (x:ba7):List AV:=[I6 x.fin,I6 x.tmany,I6 x.troom,I6 x.bmany,I6 x.broom,ckc7 x,oec7 x,umc7 (nodes x) (jmc7 x),umc7 (nodes x) (mub7 x)]
theorem tpb7 (x:ba7) (a:Int):(ilc7 x a.toNat).hold=qf7 x a:=rfl
theorem zvb7 (x:ba7) (a:Int):dhc7 x a.toNat=vd7 x a:=rfl
attribute [go_sem] vbc7 mwb7 hxb7 pvb7 tpb7 zvb7
def Fwd {α:Type} (S:Shape α) (e:α→Nat→AV):Prop:=∀{w:World} {F:Nat→Prop} {x:α} {cs:List Value},S.rep w F x cs→∀j,j<S.sz→∃u,cs[j]? = some u∧mf7 F w (e x j) u
def Bwd {α:Type} (S:Shape α) (e:α→Nat→AV) (ok:α→Prop):Prop:=∀{w:World} {F:Nat→Prop} {x:α} {cs:List Value},cs.length=S.sz→(∀j,j<S.sz→∃u,cs[j]? = some u∧mf7 F w (e x j) u)→ok x→S.rep w F x cs
theorem en7 {α:Type}{l:List α}{i:Nat}(h:i<l.length) (z:α):l.getD i z=l[i]:=by
 rw[List.getD_eq_getElem?_getD,List.getElem?_eq_getElem h];rfl
section
variable {α:Type} {S:Shape α} {h0:0<S.sz} {e:α→Nat→AV} {ok:α→Prop} {w:World} {F:Nat→Prop}
theorem fs (z:α) (hS:Fwd S e) {l:List α}{v:Value}(h:(ia7 S h0).rep w F l [v]):mf7 F w (.sl l.length S.sz (fun i=>e (l.getD i z))) v:=by
 obtain⟨a,b,off,c,e1,h1,h2,h3,h4⟩:=h
 cases e1
 refine⟨a,b,off,c,rfl,h1,h2,h3,fun i hi j hj=>?_⟩
 obtain⟨es,k1,k2⟩:=h4 i hi
 obtain⟨u,k3,k4⟩:=hS k1 j hj
 show ∃u,_=some u∧mf7 F w (e (l.getD i z) j) u
 rw[en7 hi]
 exact⟨u,by rw[k2 j hj,k3],k4⟩
theorem deb7:∀(n:Nat) {p:Nat→Value→Prop},(∀j,j<n→∃u,p j u)→∃es:List Value,es.length=n∧∀j u,es[j]? = some u→p j u
 | 0,_,_=>⟨[],rfl,fun _ _ h=>by simp at h⟩
 | n+1,p,h=>by
  obtain⟨u,hu⟩:=h 0 (Nat.succ_pos _)
  obtain⟨es,h1,h2⟩:=deb7 n (p:=fun j=>p (j+1)) (fun j hj=>h (j+1) (by omega))
  refine⟨u::es,by simp[h1],fun j v hj=>?_⟩
  cases j with
  | zero=>simp at hj;subst hj;exact hu
  | succ j=>exact h2 j v (by simpa using hj)
theorem bs (z:α) (hS:Bwd S e ok) {l:List α}{v:Value}(h:mf7 F w (.sl l.length S.sz (fun i=>e (l.getD i z))) v) (ho:∀x∈l,ok x):(ia7 S h0).rep w F l [v]:=by
 obtain⟨a,b,off,c,rfl,h1,h2,h3,h4⟩:=h
 refine⟨a,b,off,c,rfl,h1,h2,h3,fun i hi=>?_⟩
 obtain⟨es,k1,k2⟩:=deb7 S.sz (h4 i hi)
 have k3:∀j,j<S.sz→w.cell? ⟨b,off+i*S.sz+j,none⟩=es[j]? ∧ ∃u,es[j]? = some u∧mf7 F w (e l[i] j) u:=fun j hj=>by
  have hg:es[j]? = some es[j]:=List.getElem?_eq_getElem (by omega)
  obtain⟨k4,k5⟩:=k2 j _ hg
  have k5:mf7 F w (e (l.getD i z) j) es[j]:=k5
  rw[en7 hi]at k5
  exact⟨by rw[k4,hg],_,hg,k5⟩
 exact⟨es,hS k1 (fun j hj=>(k3 j hj).2) (ho _ (List.getElem_mem hi)),fun j hj=>(k3 j hj).1⟩
theorem bzb7 (z:α) (hS:Fwd S e):Fwd (ia7 S h0) (fun l _=>.sl l.length S.sz (fun i=>e (l.getD i z))):=by
 intro w F x cs h j hj
 have hl:=(ia7 S h0).len h
 match cs,hl with
 | [v],_ =>
  have hj:j<1:=hj
  obtain rfl:j=0:=by omega
  exact⟨v,rfl,fs z hS h⟩
theorem kgc7 (z:α) (hS:Bwd S e ok):Bwd (ia7 S h0) (fun l _=>.sl l.length S.sz (fun i=>e (l.getD i z))) (fun l=>∀x∈l,ok x):=by
 intro w F x cs hl h ho
 match cs,hl with
 | [v],_ =>
  obtain⟨u,h1,h2⟩:=h 0 Nat.one_pos
  cases h1
  exact bs z hS h2 ho
end
theorem jac7:Fwd hf7 (fun x _=>I6 x):=by
 rintro w F x cs ⟨rfl,-⟩ j hj
 have hj:j<1:=hj
 obtain rfl:j=0:=by omega
 exact⟨_,rfl,rfl⟩
theorem gwb7:Bwd hf7 (fun x _=>I6 x) za7:=by
 intro w F x cs hl h ho
 obtain⟨u,h1,h2⟩:=h 0 Nat.one_pos
 match cs,hl with
 | [v],_=>cases h1;exact⟨by rw[show u = .int .i64 x from h2],ho⟩
theorem hgc7:Fwd oe7 (fun x=>ix2 (I6 x.sat) (I6 x.load)):=by
 rintro w F x cs ⟨rfl,-⟩ j hj
 have hj:j<2:=hj
 match j,hj with
 | 0,_=>exact⟨_,rfl,rfl⟩
 | 1,_=>exact⟨_,rfl,rfl⟩
theorem sgc7:Fwd cq7 (fun x=>ix2 (I6 x.sat) (kf7 x.stops)):=by
 rintro w F x cs ⟨v,rfl,-,h⟩ j hj
 have hj:j<2:=hj
 match j,hj with
 | 0,_=>exact⟨_,rfl,rfl⟩
 | 1,_=>exact⟨_,rfl,fs 0 jac7 h⟩
theorem vgc7:Fwd iy7 (fun x=>ix3 (I6 x.out) (kf7 x.starts) (I6 x.back)):=by
 rintro w F x cs ⟨v,rfl,-,-,h⟩ j hj
 have hj:j<3:=hj
 match j,hj with
 | 0,_=>exact⟨_,rfl,rfl⟩
 | 1,_=>exact⟨_,rfl,fs 0 jac7 h⟩
 | 2,_=>exact⟨_,rfl,rfl⟩
theorem jgc7 {a b:AV}{w:World}{F:Nat→Prop}{cs:List Value}(hl:cs.length=2) (h:∀j,j<2→∃u,cs[j]? = some u∧mf7 F w (ix2 a b j) u):∃u v,cs=[u,v]∧mf7 F w a u∧mf7 F w b v:=by
 match cs,hl with
 | [u,v],_ =>
  obtain⟨u',h1,h2⟩:=h 0 (by decide)
  obtain⟨v',h3,h4⟩:=h 1 (by decide)
  cases h1;cases h3
  exact⟨_,_,rfl,h2,h4⟩
def vtb7 (x:ea7):Prop:=za7 x.sat∧za7 x.load
def yyb7 (x:ga7):Prop:=za7 x.sat∧∀c∈x.stops,za7 c
def qzb7 (x:qa7):Prop:=za7 x.out∧za7 x.back∧∀c∈x.starts,za7 c
theorem aic7:Bwd oe7 (fun x=>ix2 (I6 x.sat) (I6 x.load)) vtb7:=by
 intro w F x cs hl h ho
 obtain⟨u,v,rfl,h1,h2⟩:=jgc7 hl h
 exact⟨by rw[show u = .int .i64 x.sat from h1,show v = .int .i64 x.load from h2],ho⟩
theorem uic7:Bwd cq7 (fun x=>ix2 (I6 x.sat) (kf7 x.stops)) yyb7:=by
 intro w F x cs hl h ho
 obtain⟨u,v,rfl,h1,h2⟩:=jgc7 hl h
 exact⟨v,by rw[show u = .int .i64 x.sat from h1],ho.1,bs 0 gwb7 h2 ho.2⟩
section
variable {w:World} {F:Nat→Prop}
theorem hbc7:Fwd (ia7 oe7) (fun l _=>vm7 l):=bzb7 (e:=fun x=>ix2 (I6 x.sat) (I6 x.load)) (⟨0,0⟩:ea7) hgc7
theorem wcc7:Bwd (ia7 oe7) (fun l _=>vm7 l) (fun l=>∀s∈l,vtb7 s):=kgc7 (e:=fun x=>ix2 (I6 x.sat) (I6 x.load)) (⟨0,0⟩:ea7) aic7
theorem thc7:Fwd (ia7 hf7) (fun l _=>kf7 l):=bzb7 (e:=fun x _=>I6 x) (0:Int) jac7
structure cfb7 (p:ab7):Prop where
 trucks:∀t∈p.trucks,∀s∈t,vtb7 s
 bikes:∀b∈p.bikes,yyb7 b
theorem fjc7 {p:ab7}{cs:List Value}(h:wd7.rep w F p cs):dg7 F w (eo7 p) cs:=by
 obtain⟨t,b,rfl,h1,h2⟩:=h
 have k1:=fs (e:=fun l _=>vm7 l) [] hbc7 h1
 have k2:=fs (e:=fun x=>ix2 (I6 x.sat) (kf7 x.stops)) (⟨0,[]⟩:ga7) sgc7 h2
 exact⟨_,_,rfl,k1,_,_,rfl,k2,rfl⟩
theorem gzb7 {p:ab7}{cs:List Value}(h:dg7 F w (eo7 p) cs) (ok:cfb7 p):wd7.rep w F p cs:=by
 obtain⟨t,_,rfl,h1,b,_,rfl,h2,rfl⟩:=h
 exact⟨t,b,rfl,bs (e:=fun l _=>vm7 l) [] wcc7 h1 ok.trucks,bs (e:=fun (x:ga7)=>ix2 (I6 x.sat) (kf7 x.stops)) (⟨0,[]⟩:ga7) uic7 h2 ok.bikes⟩
structure lmb7 (t:qb7):Prop where
 trucks:∀l∈t.trucks,∀v∈l,za7 v
 bikes:∀r∈t.bikes,qzb7 r
theorem xcc7 {t:qb7}{cs:List Value}(h:ng7.rep w F t cs):dg7 F w (ri7 t) cs:=by
 obtain⟨a,b,rfl,h1,h2⟩:=h
 have k1:=fs (e:=fun l _=>kf7 l) [] thc7 h1
 have k2:=fs (e:=fun x=>ix3 (I6 x.out) (kf7 x.starts) (I6 x.back)) (⟨0,[],0⟩:qa7) vgc7 h2
 exact⟨_,_,rfl,k1,_,_,rfl,k2,rfl⟩
end
def kd7 (s:ld7):List AV:=eo7 s.plan++(ri7 s.times++[I6 s.cost])
theorem sheet_f {w:World}{F:Nat→Prop}{s:ld7}{cs:List Value}(h:an7.rep w F s cs):dg7 F w (kd7 s) cs:=by
 obtain⟨a,b,c,d,rfl,-,h1,h2⟩:=h
 obtain⟨_,_,e1,k1,_,_,e2,k2,-⟩:=fjc7 h1
 obtain⟨_,_,e3,k3,_,_,e4,k4,-⟩:=xcc7 h2
 cases e1;cases e2;cases e3;cases e4
 exact⟨_,_,rfl,k1,_,_,rfl,k2,_,_,rfl,k3,_,_,rfl,k4,_,_,rfl,rfl,rfl⟩
section
variable {f:FuncId}
theorem bq7 {P:Program}{args:List RV}{post:RV→Prop}(hE:Enters P f) (h:∀(rho:Nat→Prop) (w:World) (vs:List Value),Con0RL rho w args vs →
  Calls P f vs.toArray w fun e w'=>∃r v,e = .returned v∧post r∧gi7 (fun b=>w.heap.size≤b∧b<w'.heap.size) w' r v∧Below w.heap.size w w'):PCall P f args post :=
 ⟨hE,fun rho w vs _ _ hc=>(h rho w vs hc).mono fun e w' ⟨r,v,h1,h2,h3,h4⟩=>⟨r,v,_,h1,h2,h3,fun b hb=>.inr hb,h4⟩⟩
end
theorem xm7 [Pan] {P:Program}{pu:Pu}{f:FuncId}{H:List Root}{args args':List RV}{post:RV→Prop}{K:RV→List Root→Prop}(hp:PCall P f args' post) (ho:kvb7 H args) (he:su7 H args=args') (hH:dn7 H args=H) (hK:∀r,post r→K r H):ne7 P pu f args H K :=
 jbc7 hp ho (by rw[he];exact ns7 _) (by rw[hH];exact hK)
end Go.Proofs.YtabadfkikdefeaaGreat.Ab


namespace Go.Proofs.YtabadfkikdefeaaGreat.Ab
open Go.RowKit Go.Lib
theorem ldc7 {d:Int}(h0:0≤d) (h1:d<10):(ByteArray.mk #[48,49,50,51,52,53,54,55,56,57]).extract d.toNat (d+1).toNat=S [UInt8.ofNat (48+d.toNat)]:=by
 obtain⟨k,rfl⟩:∃k:Nat,d=k:=⟨d.toNat,by omega⟩
 have hk:k<10:=by omega
 have h:∀k:Fin 10,(ByteArray.mk #[48,49,50,51,52,53,54,55,56,57]).extract k.val (k.val+1)=S [UInt8.ofNat (48+k.val)]:=by decide +kernel
 have:=h ⟨k,hk⟩
 simpa[show ((k:Int)+1).toNat=k+1 by omega]using this
theorem hcc7 {n:Int}(hn:za7 n):PCall Tryz.prog 58 [.c (I6 n)] (fun r=>r = .c (.str (S (itoa n)))):=by
 unfold za7 at hn
 refine he7 vc7 (by kernel_rfl) (fun _=>([],0,none)) Tryz.func58 rfl (by kernel_rfl) Tryz.ntmps58 (congrArg Array.toList Tryz.results58) (by kernel_rfl) (by simp) ?_
 simp -implicitDefEqProofs only [go_sem]
 refine wg7 (ι:=List UInt8×Int) [0] [3,4] (fun s=>decDigits n.natAbs=decDigits s.2.natAbs++s.1∧s.2.natAbs≤n.natAbs∧s.1.length≤30∧(n<0→s.2≤0)∧(0≤n→0≤s.2)) (fun s=>[.c (.str (S s.1)),.c (I6 s.2)]) (fun _=>_) (fun s=>s.2.natAbs) (by kernel_rfl) ⟨([],n),⟨by simp,by simp,by simp,fun h=>Int.le_of_lt h,fun h=>h⟩,rfl,rfl⟩ (fun s _=>⟨rfl,rfl,rfl,rfl⟩) ?_
 rintro⟨ds,k⟩ ⟨hd,hk,hl,hs1,hs2⟩
 simp only at hd hk hl hs1 hs2
 have hq1:(k.tmod 10).natAbs=k.natAbs % 10:=by rw[Int.natAbs_tmod];rfl
 have hq2:(k.tdiv 10).natAbs=k.natAbs / 10:=by rw[Int.natAbs_tdiv];rfl
 have hq3:k≤0→k.tdiv 10≤0:=fun h=>by
  have:=Int.tdiv_nonneg (a:=-k) (b:=10) (by omega) (by decide)
  rw[Int.neg_tdiv]at this;omega
 have hq4:0≤k→0≤k.tdiv 10:=fun h=>Int.tdiv_nonneg h (by decide)
 have hdl:(decDigits n.natAbs).length≤20:=by rw[decDigits_length];exact nDigits_le20 _ (by omega)
 have hdk:=nw7 k.natAbs
 have hlen:=congrArg List.length hd
 rw[List.length_append]at hlen
 have hsm:k.natAbs<10→decDigits n.natAbs=UInt8.ofNat (48+k.natAbs % 10)::ds:=fun h=>by rw[hd,ek7 h];rfl
 have hbg:¬k.natAbs<10→decDigits n.natAbs=decDigits (k.natAbs / 10)++(UInt8.ofNat (48+k.natAbs % 10)::ds):=fun h=>by rw[hd,tx7 h,List.append_assoc];rfl
 have hit:itoa n=if n<0 then 45::decDigits n.natAbs else decDigits n.natAbs:=by
  unfold itoa
  split
  ·rfl
  ·rw[show n.toNat=n.natAbs by omega]
 have key:∀d:Int,0≤d→d.natAbs=k.natAbs % 10→(ByteArray.mk #[48,49,50,51,52,53,54,55,56,57]).extract d.toNat (d+1).toNat=S [UInt8.ofNat (48+k.natAbs % 10)]:=fun d h0 h1=>by
  rw[ldc7 h0 (by omega),show d.toNat=k.natAbs % 10 by omega]
 generalize hb:UInt8.ofNat (48+k.natAbs % 10)=b at hsm hbg key
 simp -implicitDefEqProofs only [go_sem]
 generalize k.tmod 10=r at hq1
 generalize k.tdiv 10=q at hq2 hq3 hq4
 refine⟨by decide,fun h=>?_,fun h=>?_⟩
 ·rw[key (-r) (by omega) (by omega),pwb7,show (S [b]).size=1 from rfl]
  refine⟨⟨by omega,by omega⟩,⟨by omega,by omega⟩,⟨by omega,by omega,by simp;omega⟩,by simp;omega,⟨by decide,by omega,by omega⟩,fun h2=>⟨fun h3=>⟨by simp;omega, ?_⟩,fun h3=>?_⟩,fun h2=>⟨⟨by decide,by omega,by omega⟩,(b::ds,q),⟨?_,by simp only;omega,by simp;omega,fun h=>hq3 (hs1 h),fun h=>hq4 (hs2 h)⟩,rfl,by simp only;omega⟩⟩
  ·rw[hit,if_pos h3,hsm (by omega)]
   simp[pwb7]
  ·rw[hit,if_neg h3,hsm (by omega)];rfl
  ·simp only;rw[hq2];exact hbg (by omega)
 ·rw[key r (by omega) (by omega),pwb7,show (S [b]).size=1 from rfl]
  refine⟨⟨by omega,by omega⟩,⟨by omega,by omega,by simp;omega⟩,by simp;omega,⟨by decide,by omega,by omega⟩,fun h2=>⟨fun h3=>⟨by simp;omega, ?_⟩,fun h3=>?_⟩,fun h2=>⟨⟨by decide,by omega,by omega⟩,(b::ds,q),⟨?_,by simp only;omega,by simp;omega,fun h=>hq3 (hs1 h),fun h=>hq4 (hs2 h)⟩,rfl,by simp only;omega⟩⟩
  ·rw[hit,if_pos h3,hsm (by omega)]
   simp[pwb7]
  ·rw[hit,if_neg h3,hsm (by omega)];rfl
  ·simp only;rw[hq2];exact hbg (by omega)
theorem yy7 {nm:List UInt8}{l:List Int}(hn:nm.length≤1000) (hl:l.length≤100000) (hw:∀n∈l,za7 n):PCall Tryz.prog 53 [.c (.str (S nm)),.c (kf7 l)] (fun r=>r = .c (.str (S (wi7 nm l)))) :=
 bq7 ⟨_,_,Tryz.func53,by kernel_rfl,rfl⟩ fun rho w vs hc=>by
  obtain⟨_,_,rfl,rfl,v,_,rfl,h1,rfl⟩:=hc
  refine (lfc7 (bs 0 gwb7 h1 hw) hn hl).mono ?_
  rintro e w' ⟨rfl,hb⟩
  exact⟨_,_,rfl,rfl,rfl,hb⟩
end Go.Proofs.YtabadfkikdefeaaGreat.Ab
namespace Go.Proofs.YtabadfkikdefeaaGreat.Ab
open Go.RowKit Go.Lib
theorem abb7 {α:Type}{l:List α}{k:Nat}(h:l.length≤k) (d:α):l.getD k d=d:=by
 rw[List.getD_eq_getElem?_getD,List.getElem?_eq_none h];rfl
theorem xyb7 {l:List Int}{k:Nat}(hk:k≤1000000):PCall Tryz.prog 54 [.c (kf7 l),.c (I6 k)] (fun r=>r = .c (I6 (l.getD k 0))):=by
 refine he7 vc7 (by kernel_rfl) (fun _=>([],0,none)) Tryz.func54 rfl (by kernel_rfl) Tryz.ntmps54 (congrArg Array.toList Tryz.results54) (by kernel_rfl) (by simp) ?_
 simp -implicitDefEqProofs only [go_sem]
 refine⟨fun h=>?_,fun h=>?_⟩
 ·exact⟨by omega,by omega⟩
 ·rw[abb7 (by omega)]
theorem bec7 {t:qb7}{k:Nat}(hk:k≤1000000):PCall Tryz.prog 55 [.c (.sl t.trucks.length 1 (fun i _=>kf7 (kab7 t i))),.c (I6 k)] (fun r=>r = .c (kf7 (kab7 t k))):=by
 refine he7 vc7 (by kernel_rfl) (fun _=>([],0,none)) Tryz.func55 rfl (by kernel_rfl) Tryz.ntmps55 (congrArg Array.toList Tryz.results55) (by kernel_rfl) (by simp) ?_
 simp -implicitDefEqProofs only [go_sem]
 refine⟨fun h=>⟨⟨by omega,by omega⟩,_,⟨_,rfl,.inl rfl⟩,rfl⟩,fun h=>⟨_,⟨_,rfl,.inr ?_⟩,rfl⟩⟩
 have e:kab7 t k=[]:=abb7 (by omega) _
 rw[e]
 exact .inr ⟨_,_,rfl⟩
theorem nxb7 {t:qb7}{k:Nat}(hk:k≤1000000):PCall Tryz.prog 56 [.c (.sl t.bikes.length 3 (fun i=>ix3 (I6 (jl7 t i).out) (kf7 (jl7 t i).starts) (I6 (jl7 t i).back))),.c (I6 k)] (fun r=>r = .agg [I6 (jl7 t k).out,kf7 (jl7 t k).starts,I6 (jl7 t k).back]):=by
 refine he7 vc7 (by kernel_rfl) (fun _=>([],0,none)) Tryz.func56 rfl (by kernel_rfl) Tryz.ntmps56 (congrArg Array.toList Tryz.results56) (by kernel_rfl) (by simp) ?_
 simp -implicitDefEqProofs only [go_sem]
 refine⟨fun h=>⟨⟨by omega,by omega⟩,_,⟨_,rfl,_,_,rfl,.inl rfl,_,_,rfl,.inl rfl,_,_,rfl,.inl rfl,rfl⟩,rfl⟩,fun h=>?_⟩
 have e:jl7 t k=⟨0,[],0⟩:=abb7 (by omega) _
 rw[e]
 exact⟨_,⟨_,rfl,_,_,rfl,.inl rfl,_,_,rfl,.inr (.inr ⟨_,_,rfl⟩),_,_,rfl,.inl rfl,rfl⟩,rfl⟩
end Go.Proofs.YtabadfkikdefeaaGreat.Ab
namespace Go.Proofs.YtabadfkikdefeaaGreat.Ab
open Go.RowKit
def upK:CK→CK
 | .i k=>.i k
 | .s t ck b=>.s t (upKs ck) (b+1)
where upKs:List CK→List CK
 | []=>[]
 | q::l=>upK q::upKs l
def upA:AV→AV
 | .ws t ck n=>.ws t (upK.upKs ck) n
 | .wu t ck b=>.wu t (upK.upKs ck) b
 | .wp t ck o=>.wp t (upK.upKs ck) o
 | x=>x
def upL:List AV→List AV
 | []=>[]
 | x::l=>upA x::upL l
mutual
def upR:RV→RV
 | .c a=>.c (upA a)
 | .agg l=>.agg (upL l)
 | .fn f l=>.fn f (upL l)
 | .tup l=>.tup (ykc7 l)
 | .ifc t x=>.ifc t (upR x)
def ykc7:List RV→List RV
 | []=>[]
 | x::l=>upR x::ykc7 l
end
def upW:Row→Row
 | .box l=>.box (upL l)
 | .own l=>.own (l.map upL)
 | r=>r
def rgc7:Root→Root
 | .live fz t sz r=>.live fz t sz (upW r)
 | .dead=>.dead
def upH:List Root→List Root
 | []=>[]
 | r::l=>rgc7 r::upH l
def upT:Tm→Tm
 | []=>[]
 | (k,g,v)::l=>(k,g,upR v)::upT l
def upM (M:Mp):Mp:=⟨M.phi,M.off,M.rho,fun b=>(M.tau b).map fun q=>(q.1,upK.upKs q.2)⟩
section
variable {P:Program} {E:Env} {nt:Nat} {M:Mp} {H:List Root} {σ:AS} {a:Act} {w:World}
theorem ul7:∀l:List CK,(upK.upKs l).length=l.length
 | []=>rfl
 | _::l=>by simp[upK.upKs,ul7 l]
theorem npb7:∀(l:List CK) (j:Nat) (q:CK),(upK.upKs l)[j]? = some q→∃q0,l[j]? = some q0∧q=upK q0
 | [],j,q,h=>by simp[upK.upKs]at h
 | x::l,0,q,h=>⟨x,rfl,by simpa[upK.upKs]using h.symm⟩
 | x::l,j+1,q,h=>by simpa using npb7 l j q (by simpa[upK.upKs]using h)
theorem qpb7 {b:Nat}{t:TypeId}{ck:List CK}(h:M.tau b=some (t,ck)):(upM M).tau b=some (t,upK.upKs ck):=by
 show (M.tau b).map _=_
 rw[h];rfl
theorem zgb7 {b:Nat}{q:TypeId×List CK}(h:(upM M).tau b=some q):∃q0,M.tau b=some q0∧q=(q0.1,upK.upKs q0.2):=by
 have h:(M.tau b).map _=some q:=h
 cases hq:M.tau b with
 | none=>rw[hq]at h;cases h
 | some q0=>rw[hq]at h;exact⟨q0,rfl,(Option.some.inj h).symm⟩
theorem WSl.up {t:TypeId}{ck:List CK}{n:Nat}{v:Value}(h:WSl M w t ck n v):WSl (upM M) w t (upK.upKs ck) n v:=by
 obtain⟨x,c,rfl,h1,h2,h3,h4⟩:=h
 refine⟨x,c,rfl,h1,h2,h3,fun ad e=>?_⟩
 obtain⟨b,cur,e,g1,g2,g3⟩:=h4 ad e
 exact⟨b,cur,e,qpb7 g1,g2,by rw[ul7];exact g3⟩
theorem kcb7.up {q:CK}{v:Value}(h:kcb7 M w q v):kcb7 (upM M) w (upK q) v:=by
 cases q with
 | i k=>exact h
 | s t ck b=>obtain⟨n,h1,h2⟩:=h;exact⟨n,by omega,h2.up⟩
theorem ol7 {id:Nat}{fz:Bool}{t:TypeId}{sz:Nat}{r:Row}:∀{H:List Root},da7 (upH H) id = .live fz t sz r→∃r0,da7 H id = .live fz t sz r0∧r=upW r0:=by
 intro H
 induction H generalizing id with
 | nil=>intro h;cases h
 | cons x l ih =>
  cases id with
  | zero =>
   intro h
   cases x with
   | dead=>cases h
   | live fz' t' sz' r'=>cases h;exact⟨r',rfl,rfl⟩
  | succ id=>exact fun h=>ih h
theorem sgb7:∀H:List Root,(upH H).length=H.length
 | []=>rfl
 | _::l=>by simp[upH,sgb7 l]
theorem rab7 (r:Row):(upW r).len=r.len:=by
 cases r with
 | own l=>simp[upW,Row.len]
 | _=>rfl
theorem xbc7 (r:Row):(upW r).one=r.one:=by cases r <;> rfl
theorem kfc7 (l:List (List AV)) (i:Nat):(l.map upL).getD i []=upL (l.getD i []):=by
 simp only[List.getD_eq_getElem?_getD,List.getElem?_map]
 cases l[i]? <;> rfl
theorem xdc7 (r:Row):(upW r).isBox=r.isBox:=by cases r <;> rfl
theorem tqb7:∀(l:List AV) (o:Nat),nth (upL l) o=upA (nth l o)
 | [],_=>rfl
 | _::_,0=>rfl
 | _::l,o+1=>by simp only[upL,nth];exact tqb7 l o
theorem Con.up {x:AV}{v:Value}(h:Con M H w x v):Con (upM M) (upH H) w (upA x) v:=by
 cases x with
 | ptr id n i o =>
  refine⟨⟨by rw[sgb7];exact h.1.1,h.1.2⟩,fun fz t sz r hr=>?_⟩
  obtain⟨r0,k1,rfl⟩:=ol7 hr
  rw[rab7]
  exact h.2 _ _ _ _ k1
 | h id st len =>
  refine⟨⟨by rw[sgb7];exact h.1.1,h.1.2⟩,fun fz t sz r hr=>?_⟩
  obtain⟨r0,k1,rfl⟩:=ol7 hr
  rw[rab7]
  exact h.2 _ _ _ _ k1
 | ws t ck n=>exact WSl.up h
 | wu t ck b=>obtain⟨n,hb,h⟩:=h;exact⟨n,hb,WSl.up h⟩
 | wp t ck o =>
  obtain⟨b,cur,i,rfl,h1,h2,h3⟩:=h
  exact⟨b,cur,i,by rw[ul7],qpb7 h1,h2,by rw[ul7];exact h3⟩
 | junk=>trivial
 | _=>exact h
theorem of7.up:∀{l:List AV}{vs:List Value},of7 M H w l vs→of7 (upM M) (upH H) w (upL l) vs
 | [],_,h=>h
 | _::_,_,⟨v,r,e,h1,h2⟩=>⟨v,r,e,h1.up,of7.up h2⟩
mutual
theorem ic7.up:∀{x:RV}{v:Value},ic7 M H w x v→ic7 (upM M) (upH H) w (upR x) v
 | .c _,_,h=>Con.up h
 | .agg _,_,⟨vs,e,h⟩=>⟨vs,e,of7.up h⟩
 | .fn _ _,_,⟨vs,e,h⟩=>⟨vs,e,of7.up h⟩
 | .tup _,_,⟨vs,e,h⟩=>⟨vs,e,ud7.up h⟩
 | .ifc _ _,_,⟨u,e,h⟩=>⟨u,e,ic7.up h⟩
theorem ud7.up:∀{x:List RV}{vs:List Value},ud7 M H w x vs→ud7 (upM M) (upH H) w (ykc7 x) vs
 | [],_,h=>h
 | _::_,_,⟨v,r,e,h1,h2⟩=>⟨v,r,e,ic7.up h1,ud7.up h2⟩
end
theorem Rel.up (h:Rel E M H w):Rel E (upM M) (upH H) w:=by
 refine⟨h.bel,fun id fz t sz r hr=>?_,fun id fz t sz r hr=>?_,fun id t sz r hr=>?_,fun id t sz r hr=>?_,fun i j t s r t' s' r' hi hj he=>?_,h.rlt,h.src,⟨fun b q hq=>?_,fun b q id fz t sz r hq hr=>?_,fun b t ck hq=>?_⟩⟩
 ·obtain⟨r0,k1,rfl⟩:=ol7 hr;exact h.low _ _ _ _ _ k1
 ·obtain⟨r0,k1,rfl⟩:=ol7 hr
  obtain⟨cur,c1,c2,c3,c4,c5,c6⟩:=h.row _ _ _ _ _ k1
  refine⟨cur,c1,c2,by rw[rab7];exact c3,c4,by rw[xbc7];exact c5,fun i hi o ho2=>?_⟩
  rw[rab7]at hi
  obtain⟨v,q1,q2,q3⟩:=c6 i hi o ho2
  refine⟨v,q1,q2, ?_⟩
  unfold zk7 at q3 ⊢
  rw[xdc7]
  cases r0 with
  | box l =>
   simp only[Row.isBox,if_true]at q3 ⊢
   show Con _ _ w (nth (upL l) o) v
   rw[tqb7]
   exact q3.up
  | own l =>
   simp only[Row.isBox,if_true]at q3 ⊢
   show Con _ _ w (nth ((l.map upL).getD i []) o) v
   rw[kfc7,tqb7]
   exact q3.up
  | _=>exact q3
 ·obtain⟨r0,k1,rfl⟩:=ol7 hr;exact h.froz _ _ _ _ k1
 ·obtain⟨r0,k1,rfl⟩:=ol7 hr;exact h.thaw _ _ _ _ k1
 ·obtain⟨r0,k1,rfl⟩:=ol7 hi
  obtain⟨r1,k2,rfl⟩:=ol7 hj
  exact h.inj _ _ _ _ _ _ _ _ k1 k2 he
 ·obtain⟨q0,k1,rfl⟩:=zgb7 hq;exact h.tau.new b q0 k1
 ·obtain⟨q0,k1,rfl⟩:=zgb7 hq
  obtain⟨r0,k2,rfl⟩:=ol7 hr
  exact h.tau.row _ _ _ _ _ _ _ k1 k2
 ·obtain⟨q0,k1,e⟩:=zgb7 hq
  cases e
  obtain⟨cur,c1,c2,c3,c4⟩:=h.tau.cells b q0.1 q0.2 k1
  refine⟨cur,c1,by rw[ul7];exact c2,by rw[ul7];exact c3,fun k hk=>?_⟩
  obtain⟨v,v1,v2⟩:=c4 k hk
  refine⟨v,v1,fun q hq2=>?_⟩
  rw[ul7]at hq2
  obtain⟨q1,k3,rfl⟩:=npb7 _ _ _ hq2
  exact (v2 _ k3).up
theorem yub7:∀(tm:Tm) (t:Nat),lk (upT tm) t=((lk tm t).1,upR (lk tm t).2)
 | [],_=>rfl
 | (k,g,v)::l,t=>by
  simp only[upT,lk]
  split
  ·rfl
  ·exact yub7 l t
def upS (σ:AS):AS:=⟨upT σ.tm,upH σ.H⟩
theorem St.up (h:St E nt M σ a w):St E nt (upM M) (upS σ) a w:=by
 refine⟨h.rel.up,fun t ht=>?_,fun t ht=>?_,h.sz,h.df⟩
 ·have ht:(lk (upT σ.tm) t).1=true:=ht
  show ic7 _ _ w (lk (upT σ.tm) t).2 _
  rw[yub7]at ht ⊢
  exact (h.tms t ht).up
 ·have ht:(lk (upT σ.tm) t).1=false:=ht
  rw[yub7]at ht
  exact h.off t ht
end
inductive Tr where
 | d (u:Bool)
 | no
 | br (w:Bool) (i:Nat) (t r:Tr)
inductive Pl where
 | a
 | s (p q:Pl)
 | c (p q:Pl)
 | b (p:Pl)
 | k (ks:List Nat) (p q:Pl)
 | t (lq:List Nat) (T:Tr) (r fins:List Nat)
section
variable (P:Program) (ty:Ty)
end
def koc7:Tr→Bool
 | .d _=>false
 | _=>true
def lmc7 (ops:Array Oper) (fins r:List Nat):Tr→Nat→Bool→List Nat→Array Bool→Bool
 | .d _,n,_,_,l=>decide (r.length=n)&&wzb7 ops fins r l
 | .no,n,_,al,l=>decide (0<n)&&decide (Region.ready .any ops l≠[])&&(Region.ready .any ops l).all (al.contains ·)
 | .br w i t q,n,dy,al,l=>decide (i<ops.size)&&(!w || dy || fins.contains i)&&koc7 q&&lmc7 ops fins r t (n-1) (dy || w) [] (l.setIfInBounds i true)&&lmc7 ops fins r q n dy (i::al) l
def bpc7 (nt:Nat) (ops:Array Oper) (lq:List Nat) (T:Tr) (r:List Nat) (fins:List Nat):Bool :=
 pbb7 nt ops&&Region.noSelect ops&&decide (lq.length≤ops.size)&&lq.all (fun i=>decide (i<ops.size)&&isV (ops.getD i default).op)&&match eq7 .any ops fins lq (Array.replicate ops.size false) with
  | some listed=>lmc7 ops fins r T (ops.size-lq.length) false [] listed
  | none=>false
def okD (nt:Nat) (ord:Nat→List Nat×Nat×Option DD):Pl→Code→Bool
 | .a,c=>okC nt ord c
 | .s p q,.seq x y=>okD nt ord p x&&okD nt ord q y
 | .c p q,.cond _ x y=>okD nt ord p x&&okD nt ord q y
 | .b p,.block _ x=>okD nt ord p x
 | .k _ p q,.seq x y=>okD nt ord p x&&okD nt ord q y
 | .t lq T r fins,.region _ ops true=>bpc7 nt ops lq T r fins
 | _,_=>false
section
variable {P:Program} {ty:Ty} {E:Env} {nt:Nat} {M:Mp} {σ:AS} {a:Act} {w w0:World} {ops:Array Oper} {K:AS→Prop} {Q:Exit→Act→World→Prop} {fins r:List Nat}
section
variable {ord:Nat→List Nat×Nat×Option DD} {Q:Exit→AS→Prop} {p q:Pl}
end
end
open Go.RowKit Go.Lib
theorem cn7 {len:Nat}{l:List Int}(h:len=l.length):AV.sl len 1 (fun i j=>(Row.ints .i64 l).get (0+i) j)=kf7 l:=by
 subst h
 simp only[Row.get,Nat.zero_add]
end Go.Proofs.YtabadfkikdefeaaGreat.Ab
namespace Go.Proofs.YtabadfkikdefeaaGreat.Ab
open Go.RowKit Go.Lib
def yq7 (a b:AV):Root:=.live false 127 2 (.box [a,b])
def wo7 (l:List Int):Root:=.live false 5 1 (.ints .u8 l)
theorem jjb7 {P:Program}{w w':World}{b o:Nat}{v u:Value}(hc:w.cell? ⟨b,o,none⟩=some u) (hf:w.frozen? ⟨b,o,none⟩=false) (h1:v.oneCell'=true) (h:(storeCells ⟨b,o,none⟩ [v] 0).run P w = .ok () w'):w'=w.setCell ⟨b,o,none⟩ v:=by
 simp[storeCells,Sem.run_bind,Addr.add_lit,Nat.add_zero,run_store P w _ v _ h1,hc,hf,Result.andThen]at h
 exact h.symm
theorem qh7 {E:Env}{M:Mp}{H:List Root}{w:World}(hR:Rel E M H w) {id:Nat}{a b:AV}(h1:da7 H id=yq7 a b) :
  ∃u v,w.heap[M.phi id]? = some (.cells #[u,v] 127 (0,0))∧M.off id=0∧Con M H w a u∧Con M H w b v:=by
 obtain⟨cur,k1,k2,k3,k4,k5,k6⟩:=hR.row _ _ _ _ _ h1
 obtain⟨k7,k8⟩:=k5 rfl
 obtain⟨u,u1,u2,u3⟩:=k6 0 Nat.one_pos 0 (by decide)
 obtain⟨v,v1,v2,v3⟩:=k6 0 Nat.one_pos 1 (by decide)
 rw[k7]at u1 v1
 refine⟨u,v, ?_,k7,u3,v3⟩
 rw[k1]
 congr 2
 apply Array.ext
 ·rw[k8];rfl
 ·intro i hi hi2
  rw[k8]at hi
  match i,hi with
  | 0,_=>exact (Array.getElem?_eq_some_iff.1 u1).2
  | 1,_=>exact (Array.getElem?_eq_some_iff.1 v1).2
theorem gs7 {E:Env}{M:Mp}{H:List Root}{w:World}(hR:Rel E M H w) {id:Nat}{a b:AV}(h1:da7 H id=yq7 a b) {p:Value}(hp:Con M H w (.ptr id 1 0 0) p):p = .pointer (some ⟨M.phi id,0,none⟩):=by
 obtain⟨u,v,-,ho,-⟩:=qh7 hR h1
 have:=(hp.2 _ _ _ _ h1).2 rfl
 rw[ho]at this
 simpa using this
theorem bw7:∀{H:List Root}{id:Nat}{x y:Root},id<H.length→ja7 (H++[y]) id x=ja7 H id x++[y]
 | [],_,_,_,h=>absurd h (Nat.not_lt_zero _)
 | _::_,0,_,_,_=>rfl
 | _::H,id+1,_,_,h=>by simp only[List.cons_append,ja7];rw[bw7 (by simpa using h)]
theorem tw7:∀(H:List Root) (id:Nat) (x y:Root),ja7 (ja7 H id x) id y=ja7 H id y
 | [],_,_,_=>rfl
 | _::_,0,_,_=>rfl
 | _::H,id+1,_,_=>by simp only[ja7];rw[tw7 H]
theorem vfb7 {ops:Array Oper}{rest:List Oper}{o:Oper}{a:Act}{Q:Exit→Act→World→Prop}(w:World) (hgd:o.guard=none) (s x:Operand) (t tx:TypeId)
  (ho:o.op = .call { callee:=.builtin .append,args:=#[s,x],argTypes:=#[t,tx] }) {v xv v':Value} {w':World} (hs:a.eval s=v) (hx:a.eval x=xv)
  (hr:(Builtin.append_ #[t,tx] o.type #[v,xv]).run Tryz.prog w = .ok v' w') (h:wpList Tryz.prog ops Q rest (a.put o.dst v') w'):wpList Tryz.prog ops Q (o::rest) a w:=by
 refine wpList_plain hgd fun _ hK=>?_
 unfold Oper.wp execOp
 simp only[ho,resolve,invoke,builtin,Sem.run_bind,Sem.run_pure,Result.andThen_ok,List.map_toArray,List.map_cons,List.map_nil,hs,hx,hr]
 exact hK _ _ h
theorem fhb7 {E:Env}{M:Mp}{H:List Root}{w:World}(hR:Rel E M H w) {id:Nat}{a b c:AV}(h1:da7 H id=yq7 a b) {o:Nat}(ho:o<2) {v:Value}(hv:Con M H w c v) (hn:v.oneCell'=true) :
  Rel E M (ja7 H id (.live false 127 2 (.box (pat [a,b] o [c])))) (w.setCell ⟨M.phi id,o,none⟩ v)∧Kp M H w M (ja7 H id (.live false 127 2 (.box (pat [a,b] o [c])))) (w.setCell ⟨M.phi id,o,none⟩ v):=by
 obtain⟨x,y,hh,h0,-,-⟩:=qh7 hR h1
 obtain⟨w2,r1,r2,r3,-⟩:=zab7 (P:=Tryz.prog) hR h1 (i:=0) (o:=o) (cs:=[c]) (vs:=[v]) Nat.one_pos (by simp;omega) (by simpa using hn) rfl (fun j u hj=>by
  cases j with
  | zero=>simp at hj;subst hj;exact hv
  | succ j=>simp at hj) trivial
 rw[h0,Nat.zero_mul,Nat.zero_add]at r3
 have hc:∃u,w.cell? ⟨M.phi id,o,none⟩=some u:=by
  match o,ho with
  | 0,_=>exact⟨x,by rw[Lib.cell_of_heap hh];rfl⟩
  | 1,_=>exact⟨y,by rw[Lib.cell_of_heap hh];rfl⟩
 obtain⟨u,hc⟩:=hc
 have:=jjb7 hc (Lib.frozen_of_heap hh _) hn r3
 subst this
 exact⟨r1,r2⟩
theorem myb7 {H:List Root}{id buf n:Nat}{l:List Int}{s:ByteArray}{K:RV→List Root→Prop}(h1:da7 H id=yq7 (.ptr id 1 0 0) (.h buf 0 n)) (h2:da7 H buf=wo7 l) (hn:n=l.length) (hs:n+s.size≤1099511627776)
  (hK:K (.tup [.c (I6 s.size),.c .junk]) (ja7 (ja7 H buf (wo7 (l++byI s))) id (yq7 (.ptr id 1 0 0) (.h buf 0 (n+s.size))))):ne7 Tryz.prog none 52 [.c (.ptr id 1 0 0),.c (.str s)] H K:=by
 refine⟨⟨_,_,Tryz.func52,by kernel_rfl,rfl⟩,fun E M w vs hR hv=>?_⟩
 obtain⟨p,_,rfl,hp,sv,_,rfl,hsv,rfl⟩:=hv
 obtain rfl:sv = .string s:=hsv
 obtain rfl:=gs7 hR h1 hp
 obtain⟨x,y,hh,h0,hx,hy⟩:=qh7 hR h1
 obtain rfl:=gs7 hR h1 hx
 have hne:buf≠id:=by rintro rfl;rw[h1]at h2;cases h2
 have hux:Tryz.prog.underlying 9=some .string:=Tryz.underlying9
 obtain⟨hS,hC⟩:=zhb7 (P:=Tryz.prog) (M:=M) (H:=H) (w:=w) hux s
 have hlb:(Row.ints .u8 (byI s)).len=s.size:=pl7 s
 have ho:=hy
 obtain⟨M',w',v',r0,r1,r2,r3⟩:∃M' w' v',(Builtin.append_ #[24,9] 24 #[y,.string s]).run Tryz.prog w = .ok v' w'∧Rel E M' (ja7 H buf (wo7 (l++byI s))) w'∧Kp M H w M' (ja7 H buf (wo7 (l++byI s))) w'∧Con M' (ja7 H buf (wo7 (l++byI s))) w' (.h buf 0 (n+s.size)) v':=by
  obtain⟨M',w',v',r0,r1,r2,r3,-⟩:=vx7 vc7 hR 24 9 5 24 (by kernel_rfl) Nat.one_pos (show 1≤128 by decide) hS hC h2 hn hy (by rw[hlb];exact hs) rfl
  rw[hlb]at r3
  exact⟨M',w',v',r0,r1,r2,r3⟩
 have h1':da7 (ja7 H buf (wo7 (l++byI s))) id=yq7 (.ptr id 1 0 0) (.h buf 0 n):=by rw[rc7,if_neg (fun h=>hne h.1.symm)];exact h1
 have hp':=r2 _ _ hp
 have hpe:M'.phi id=M.phi id:=by
  have:=gs7 r1 h1' hp'
  simpa using this.symm
 obtain⟨x',y',hh',h0',-,-⟩:=qh7 r1 h1'
 rw[hpe]at hh'
 obtain⟨s1,s2⟩:=fhb7 r1 h1' (o:=1) (by decide) r3 r3.1.2
 rw[hpe]at s1 s2
 have c0:w.cell? ⟨M.phi id,0,none⟩=some (.pointer (some ⟨M.phi id,0,none⟩)):=by rw[Lib.cell_of_heap hh];rfl
 have c1:w.cell? ⟨M.phi id,1,none⟩=some y:=by rw[Lib.cell_of_heap hh];rfl
 have c2:w'.cell? ⟨M.phi id,1,none⟩=some y':=by rw[Lib.cell_of_heap hh'];rfl
 have f2:w'.frozen? ⟨M.phi id,1,none⟩=false:=Lib.frozen_of_heap hh' _
 obtain⟨cap,cur,ad,rfl,-⟩:=(hy.2 _ _ _ _ h2).2 (by rw[hn];exact Nat.zero_add _)
 obtain⟨cap',cur',ad',rfl,-⟩:=(r3.2 _ _ _ _ (show da7 (ja7 H buf (wo7 (l++byI s))) buf=wo7 (l++byI s) by rw[rc7,if_pos ⟨rfl,sf7 h2⟩])).2 (by show 0+(n+s.size)=(l++byI s).length;rw[List.length_append,pl7,hn];omega)
 have HF:=hid (And.intro s1 (And.intro (Kp.trans r2 s2) hK))
 have HL:H.length≤(ja7 (ja7 H buf (wo7 (l++byI s))) id (yq7 (.ptr id 1 0 0) (.h buf 0 (n+s.size)))).length:=by rw[va7,va7];exact Nat.le_refl _
 have HR0:=hid r0
 clear hK hR hp hx hy hh hux hS hC ho hp' hh' h0 h0' r1 r2 r3 s1 s2 h1 h2 h1' hne hlb hpe hn r0
 go_enter Tryz.func52,Tryz.ntmps52
 go_wp2_with (go_at_call 125;refine (vvb7 _ _ c0).mono ?_)
 rintro e w2 ⟨rfl,rfl⟩
 go_wp2_with (at_builtin;refine vfb7 _ rfl _ _ 24 9 rfl rfl rfl HR0.out ?_)
 refine bodyPost_ret (results_tmp2 rfl _ _ _) rfl ?_
 obtain⟨f1,f3,f4⟩:=HF.out
 exact .inl ⟨M',_,.tup [.c (I6 s.size),.c .junk],_,rfl,f1,f3,⟨[.int .i64 s.size,.nilIface],rfl,_,_,rfl,rfl,_,_,rfl,trivial,rfl⟩,fun g hg=>(by cases hg),HL,f4⟩
theorem ztb7 {H:List Root}{id:Nat}{s:ByteArray}{K:RV→List Root→Prop}(h1:da7 H id=yq7 .nilp .nils) (hs:0<s.size∧s.size≤1099511627776)
  (hK:K (.tup [.c (I6 s.size),.c .junk]) (ja7 H id (yq7 (.ptr id 1 0 0) (.h H.length 0 s.size))++[wo7 (byI s)])):ne7 Tryz.prog none 52 [.c (.ptr id 1 0 0),.c (.str s)] H K:=by
 refine⟨⟨_,_,Tryz.func52,by kernel_rfl,rfl⟩,fun E M w vs hR hv=>?_⟩
 obtain⟨p,_,rfl,hp,sv,_,rfl,hsv,rfl⟩:=hv
 obtain rfl:sv = .string s:=hsv
 obtain rfl:=gs7 hR h1 hp
 obtain⟨x,y,hh,h0,hx,hy⟩:=qh7 hR h1
 obtain rfl:x = .pointer none:=hx
 obtain rfl:y = .slice none 0 0:=hy
 have c0:w.cell? ⟨M.phi id,0,none⟩=some (.pointer none):=by rw[Lib.cell_of_heap hh];rfl
 have f0:w.frozen? ⟨M.phi id,0,none⟩=false:=Lib.frozen_of_heap hh _
 have sh:w.shape? (M.phi id)=some (127,2):=by simp[World.shape?,hh]
 have hlt:=sf7 h1
 obtain⟨s1,s2⟩:=fhb7 hR h1 (o:=0) (by decide) hp rfl
 have h2:da7 (ja7 H id (yq7 (.ptr id 1 0 0) .nils)) id=yq7 (.ptr id 1 0 0) .nils:=by rw[rc7,if_pos ⟨rfl,hlt⟩]
 have s1:Rel E M (ja7 H id (yq7 (.ptr id 1 0 0) .nils)) (w.setCell ⟨M.phi id,0,none⟩ (.pointer (some ⟨M.phi id,0,none⟩))):=s1
 have s2:Kp M H w M (ja7 H id (yq7 (.ptr id 1 0 0) .nils)) (w.setCell ⟨M.phi id,0,none⟩ (.pointer (some ⟨M.phi id,0,none⟩))):=s2
 obtain⟨w1,hw1⟩:∃w1,w1=w.setCell ⟨M.phi id,0,none⟩ (.pointer (some ⟨M.phi id,0,none⟩)):=⟨_,rfl⟩
 rw[← hw1]at s1 s2
 obtain⟨H1,hH1⟩:∃H1,H1=ja7 H id (yq7 (.ptr id 1 0 0) .nils):=⟨_,rfl⟩
 rw[← hH1]at s1 s2 h2
 have hl1:H1.length=H.length:=by rw[hH1,va7]
 obtain⟨M',w',v',r0,r1,r2,r3⟩:∃M' w' v',(Builtin.append_ #[24,9] 24 #[.slice none 0 0,.string s]).run Tryz.prog w1 = .ok v' w'∧Rel E M' (H1++[wo7 (byI s)]) w'∧Kp M H1 w1 M' (H1++[wo7 (byI s)]) w'∧Con M' (H1++[wo7 (byI s)]) w' (.h H1.length 0 s.size) v' :=
  (fun ⟨M',w',v',r0,r1,r2,r3,_⟩=>⟨M',w',v',r0,r1,r2,r3⟩) (ny7 vc7 s1 24 9 5 24 (by kernel_rfl) (by kernel_rfl) ⟨by kernel_rfl,by kernel_rfl,by kernel_rfl⟩ hs)
 have h2':da7 (H1++[wo7 (byI s)]) id=yq7 (.ptr id 1 0 0) .nils:=by rw[ki7,if_neg (by omega)];exact h2
 have hp1:=s2 _ _ hp
 have hp':=r2 _ _ hp1
 have hpe:M'.phi id=M.phi id:=by
  have:=gs7 r1 h2' hp'
  simpa using this.symm
 obtain⟨x1,y1,hh1,-,-,hy1⟩:=qh7 s1 h2
 obtain rfl:y1 = .slice none 0 0:=hy1
 obtain⟨x',y',hh',h0',-,-⟩:=qh7 r1 h2'
 rw[hpe]at hh'
 obtain⟨t1,t2⟩:=fhb7 r1 h2' (o:=1) (by decide) r3 r3.1.2
 rw[hpe]at t1 t2
 have c1:w1.cell? ⟨M.phi id,1,none⟩=some (.slice none 0 0):=by rw[Lib.cell_of_heap hh1];rfl
 have c2:w'.cell? ⟨M.phi id,1,none⟩=some y':=by rw[Lib.cell_of_heap hh'];rfl
 have f2:w'.frozen? ⟨M.phi id,1,none⟩=false:=Lib.frozen_of_heap hh' _
 obtain⟨cap',cur',ad',rfl,-⟩:=(r3.2 _ _ _ _ (show da7 (H1++[wo7 (byI s)]) H1.length=wo7 (byI s) by rw[ki7,if_pos rfl])).2 (by show 0+s.size=(byI s).length;rw[pl7,Nat.zero_add])
 have hset:ja7 (H1++[wo7 (byI s)]) id (.live false 127 2 (.box (pat [.ptr id 1 0 0,.nils] 1 [.h H1.length 0 s.size])))=ja7 H id (yq7 (.ptr id 1 0 0) (.h H.length 0 s.size))++[wo7 (byI s)]:=by
  rw[bw7 (by omega),hH1,tw7,va7];rfl
 rw[hset]at t1 t2
 have HF:=hid (And.intro t1 (And.intro (Kp.trans s2 (Kp.trans r2 t2)) hK))
 have HL:H.length≤(ja7 H id (yq7 (.ptr id 1 0 0) (.h H.length 0 s.size))++[wo7 (byI s)]).length:=by rw[List.length_append,va7];omega
 have HR0:=hid r0
 have HW1:=hid hw1
 clear hK hR hp hh h0 h0' r1 r2 r3 s1 s2 t1 t2 h1 h2 h2' hpe r0 hset hH1 hl1 hh' hh1 hp1 hp' hlt hw1
 go_enter Tryz.func52,Tryz.ntmps52
 go_wp2_with (go_at_call 125;refine (zub7 _ _ c0 sh f0).mono ?_)
 rintro e w2 ⟨rfl,hw2⟩
 rw[← HW1.out]at hw2
 subst hw2
 go_wp2_with (at_builtin;refine vfb7 _ rfl _ _ 24 9 rfl rfl rfl HR0.out ?_)
 refine bodyPost_ret (results_tmp2 rfl _ _ _) rfl ?_
 obtain⟨f1,f3,f4⟩:=HF.out
 exact .inl ⟨M',_,.tup [.c (I6 s.size),.c .junk],_,rfl,f1,f3,⟨[.int .i64 s.size,.nilIface],rfl,_,_,rfl,rfl,_,_,rfl,trivial,rfl⟩,fun g hg=>(by cases hg),HL,f4⟩
theorem tdc7 {E:Env}{M:Mp}{H:List Root}{w w':World}(h:Rel E M H w) {id:Nat}{t:TypeId}{sz:Nat}{r:Row}(hr:da7 H id = .live false t sz r) (hg:w.grownBy w' (some (M.phi id))):Rel E M (ja7 H id .dead) w'∧Kp M H w M (ja7 H id .dead) w':=by
 have hid:=sf7 hr
 have hrho:∀b,M.rho b→w'.heap[b]? = w.heap[b]? := fun b hb=>hg.block b (h.rlt b hb) fun e=>h.thaw _ _ _ _ hr (by cases e;exact hb)
 have htau:∀b q,M.tau b=some q→w'.heap[b]? = w.heap[b]? := fun b q hq=>hg.block b (h.tau.lt hq) fun e=>by cases e;exact h.tau.row _ _ _ _ _ _ _ hq hr rfl
 have hoth:∀{j:Nat} {fz:Bool} {t2:TypeId} {s2:Nat} {r2:Row},da7 (ja7 H id .dead) j = .live fz t2 s2 r2→da7 H j = .live fz t2 s2 r2∧j≠id:=fun {j fz t2 s2 r2} hj=>by
  rw[rc7]at hj
  by_cases e:j=id
  ·rw[if_pos ⟨e,hid⟩]at hj;cases hj
  ·rw[if_neg (fun h=>e h.1)]at hj;exact⟨hj,e⟩
 have hblk:∀{j:Nat} {fz:Bool} {t2:TypeId} {s2:Nat} {r2:Row},da7 H j = .live fz t2 s2 r2→j≠id→w'.heap[M.phi j]? = w.heap[M.phi j]? := fun {j fz t2 s2 r2} hj hne=>hg.block _ (h.lt hj) fun e=>by
  have e:=Option.some.inj e
  cases fz with
  | false=>exact hne (h.inj _ _ _ _ _ _ _ _ hj hr e)
  | true =>
   have:=h.froz _ _ _ _ hj
   rw[e]at this
   exact h.thaw _ _ _ _ hr this
 have hk:Kp M H w M (ja7 H id .dead) w':=by
  intro a v c
  cases a with
  | ptr id2 n i o=>exact⟨⟨by rw[va7];exact c.1.1,c.1.2⟩,fun fz t2 s2 r2 hj=>c.2 _ _ _ _ (hoth hj).1⟩
  | h id2 st len =>
   refine⟨⟨by rw[va7];exact c.1.1,c.1.2⟩,fun fz t2 s2 r2 hj=>?_⟩
   obtain⟨hj,hne⟩:=hoth hj
   obtain⟨c1,c2⟩:=c.2 _ _ _ _ hj
   refine⟨c1,fun hn=>?_⟩
   obtain⟨cap,cur,ad,k1,k2,k3,k4,k5⟩:=c2 hn
   exact⟨cap,cur,ad,k1,k2,k3,by rw[hblk hj hne];exact k4,k5⟩
  | ws=>exact WSl.keep (gl7.of rfl htau) c
  | wu=>obtain⟨n,hb',c⟩:=c;exact⟨n,hb',WSl.keep (gl7.of rfl htau) c⟩
  | wp=>exact WPt.keep (gl7.of rfl htau) c
  | junk=>trivial
  | _=>exact mf7.keep hrho (fun _ h=>h) c
 have hW:E.W0.heap.size≤w.heap.size:=h.bel.size
 refine⟨⟨⟨hg.os.trans h.bel.os,hg.tape.trans h.bel.tape,hg.output.trans h.bel.output,Nat.le_trans h.bel.size hg.size,fun k hk hx=>by
   rw[hg.block k (by omega) (fun e=>by cases e;exact (h.low _ _ _ _ _ hr).elim (fun h1=>by omega) hx)]
   exact h.bel.block k hk hx⟩,fun j fz t2 s2 r2 hj=>h.low _ _ _ _ _ (hoth hj).1,fun j fz t2 s2 r2 hj=>?_,fun j t2 s2 r2 hj=>h.froz _ _ _ _ (hoth hj).1,fun j t2 s2 r2 hj=>h.thaw _ _ _ _ (hoth hj).1,
  fun i j t1 s1 r1 t2 s2 r2 hi hj he=>h.inj _ _ _ _ _ _ _ _ (hoth hi).1 (hoth hj).1 he,fun b hb=>Nat.lt_of_lt_of_le (h.rlt b hb) hg.size,h.src, ?_⟩,hk⟩
 ·obtain⟨hj,hne⟩:=hoth hj
  exact (h.row _ _ _ _ _ hj).keep hk hrho (fun _ h=>h) (hblk hj hne)
 ·exact h.tau.keep rfl htau (fun b q hq=>(h.tau.new b q hq).2) fun b q j fz t2 s2 r2 hq hj=>h.tau.row _ _ _ _ _ _ _ hq (hoth hj).1
theorem ydb7 {w:World}{p:Addr}(n:Nat):w.grownBy (w.drew.freeze p n) (some p.block):=by
 unfold World.freeze
 split
 ·exact⟨rfl,rfl,rfl,Nat.le_refl _,fun _ _ _=>rfl⟩
 ·exact⟨rfl,rfl,rfl,by simp,fun k _ hk=>by
   simp only[Array.getElem?_modify]
   rw[if_neg (fun e=>hk (by rw[e]))]
   rfl⟩
theorem fac7 {P:Program}{e:TypeId}(hc:P.cellsOf e=1) (count o n:Nat) (hn:o+n≤count):liesAt P P.depth e count o e n=true:=by
 have hd:P.depth=(2*(P.types.size+Made.depth)+1)+1:=rfl
 rw[hd]
 simp only[liesAt,Bool.or_eq_true]
 left
 rw[hd]
 simp[rowAt,hc,hn,sameLayout]
 exact .inl (Nat.mod_one o)
theorem hfc7 {w:World}{g o cells:Nat}{l:List UInt8}(hsh:w.shape? g=some (5,cells)) (h0:l≠[]) (hn:o+l.length≤cells) (h63:l.length≤1099511627776) (hcell:∀j x,l[j]? = some x→w.cell? ((⟨g,o,none⟩:Addr).add j)=some (.int .u8 x.toNat)) :
  (Builtin.unsafeString_ #[218,3] 9 #[.pointer (some ⟨g,o,none⟩),.int .i64 l.length]).run Tryz.prog w = .ok (.string (S l)) (w.freeze ⟨g,o,none⟩ l.length):=by
 have hl:l.length≠0:=by simpa using h0
 have hc:(Tryz.prog).cellsOf 5=1:=by kernel_rfl
 have hlb:=Lib.run_loadBytes (P:=Tryz.prog) w l ⟨g,o,none⟩ .empty hcell
 have hlies:=fac7 (P:=Tryz.prog) hc (cells / (Tryz.prog).cellsOf 5) o l.length (by rw[hc,Nat.div_one];exact hn)
 have h63':¬(9223372036854775807:Int)<(l.length:Int):=by omega
 have hdef:Builtin.unsafeString_ #[218,3] 9 #[.pointer (some ⟨g,o,none⟩),.int .i64 l.length] =
   (do
    let n ← asInt (.int .i64 l.length)
    if n < 0 then runtimePanic (.error "unsafe.String: len out of range")
    if n > IntKind.i64.max then unsupported (.unsafePointer "String: a length above the largest int")
    if n=0 then pure (.string .empty)
    else if ← variablesAt ⟨g,o,none⟩ (← elemOf 218) n.toNat then do
     let s ← loadBytes ⟨g,o,none⟩ .empty n.toNat
     freeze ⟨g,o,none⟩ n.toNat
     pure (.string s)
    else unsupported (.unsafePointer "String: not so many bytes at ptr")) := rfl
 rw[hdef]
 have hmax:IntKind.i64.max=9223372036854775807:=rfl
 have hneg:¬(l.length:Int)<0:=by omega
 simp[asInt,asIntOf,hmax,h63',hneg,hl,variablesAt,hsh,elemOf,run_underlying Tryz.underlying218,hlies,hlb]
theorem wxb7 (L:List UInt8):byI (S L)=L.map fun b=>(b.toNat:Int):=rfl
theorem mlc7 {H:List Root}{id buf n:Nat}{L:List UInt8}{K:RV→List Root→Prop}(h1:da7 H id=yq7 (.ptr id 1 0 0) (.h buf 0 n)) (h2:da7 H buf=wo7 (byI (S L))) (hn:n=L.length) (h0:L≠[]) (hs:L.length≤1099511627776)
  (hK:K (.c (.str (S L))) (ja7 H buf .dead)):ne7 Tryz.prog none 57 [.c (.ptr id 1 0 0)] H K:=by
 refine⟨⟨_,_,Tryz.func57,by kernel_rfl,rfl⟩,fun E M w vs hR hv=>?_⟩
 obtain⟨p,_,rfl,hp,rfl⟩:=hv
 obtain rfl:=gs7 hR h1 hp
 obtain⟨x,y,hh,ho,hx,hy⟩:=qh7 hR h1
 subst hn
 have hbl:(byI (S L)).length=L.length:=pl7 _
 obtain⟨cap,cur,ad,rfl,k1,k2,k3,k4,k5⟩:=(hy.2 _ _ _ _ h2).2 (by show 0+L.length=(byI (S L)).length;rw[hbl,Nat.zero_add])
 have hL:0<L.length:=List.length_pos_iff.2 h0
 have hk5:=k5 (by omega)
 rw[Nat.zero_mul,Nat.add_zero]at hk5
 subst hk5
 obtain⟨cur2,m1,m2,m3,m4,m5,m6⟩:=hR.row _ _ _ _ _ h2
 rw[k3]at m1
 cases m1
 have hcell:∀j x,L[j]? = some x→w.drew.cell? ((⟨M.phi buf,M.off buf,none⟩:Addr).add j)=some (.int .u8 x.toNat):=fun j x hj=>by
  obtain⟨hjl,rfl⟩:=List.getElem?_eq_some_iff.1 hj
  obtain⟨v,v1,v2,v3⟩:=m6 j (by show j<(byI (S L)).length;rw[hbl];exact hjl) 0 Nat.one_pos
  have v4:v = .int .u8 ((byI (S L)).getD j 0):=v3
  rw[wxb7,List.getD_eq_getElem?_getD,List.getElem?_map,hj]at v4
  rw[Addr.add_lit,Lib.cell_of_heap (w:=w.drew) k3]
  rw[Nat.mul_one,Nat.add_zero]at v1
  rw[v1,v4];rfl
 have hsh:w.drew.shape? (M.phi buf)=some (5,cur.size):=by
  have hg':w.drew.heap[M.phi buf]? = some (.cells cur 5 (0,0)):=k3
  simp[World.shape?,hg']
 have hUS:=hfc7 (w:=w.drew) (g:=M.phi buf) (o:=M.off buf) (l:=L) hsh h0 (by have:M.off buf+(0+cap)*1=cur.size:=k4;omega) hs hcell
 have hSD:(Builtin.unsafeSliceData_ #[24] 218 #[.slice (some ⟨M.phi buf,M.off buf,none⟩) L.length cap]).run Tryz.prog w.drew = .ok (.pointer (some ⟨M.phi buf,M.off buf,none⟩)) w.drew:=Lib.run_unsafeSliceData_row _ _ _ _ _ _ (by omega)
 have c1:w.drew.cell? ⟨M.phi id,1,none⟩=some (.slice (some ⟨M.phi buf,M.off buf,none⟩) L.length cap):=by
  rw[Lib.cell_of_heap (w:=w.drew) hh];rfl
 obtain⟨s1,s2⟩:=tdc7 (w':=w.drew.freeze ⟨M.phi buf,M.off buf,none⟩ L.length) hR h2 (ydb7 (w:=w) (p:=⟨M.phi buf,M.off buf,none⟩) L.length)
 have HF:=hid (And.intro s1 (And.intro s2 hK))
 have HL:H.length≤(ja7 H buf .dead).length:=by rw[va7];exact Nat.le_refl _
 clear hK hR hp hx hy hh ho hbl k1 k2 k3 k4 k5 m2 m3 m4 m5 m6 hcell hsh s1 s2 h1 h2
 have mixed:(Tryz.prog).follows .mixedOrders=true:=by kernel_rfl
 go_enter Tryz.func57,Tryz.ntmps57
 go_wp2
 go_region_o
 all_goals (go_wp2;go_ret;obtain⟨f1,f3,f4⟩:=HF.out;exact .inl ⟨M,_,.c (.str (S L)),_,rfl,f1,f3,rfl,fun g hg=>(by cases hg),HL,f4⟩)
end Go.Proofs.YtabadfkikdefeaaGreat.Ab
namespace Go.Proofs.YtabadfkikdefeaaGreat.Ab
open Go.RowKit Go.Lib
theorem idc7 (a b:List UInt8):byI (S a)++byI (S b)=byI (S (a++b)):=by rw[wxb7,wxb7,wxb7,List.map_append]
def rib7 (s:ld7) (l:List UInt8):List Root :=
 [.live false 43 5 (.box (kd7 s)),yq7 (.ptr 1 1 0 0) (.h 3 0 l.length),.live false 2 1 (.ints .i64 [s.cost]),wo7 (byI (S l)),.live false 2 1 (.ints .i64 [(s.plan.trucks.length:Int)])]
def kzb7 (s:ld7) (l:List UInt8) (k j:Nat):List Root:=rib7 s l++[.live false 124 1 (.box [vm7 (jcb7 s.plan k)]),.live false 2 1 (.ints .i64 (tCells (jcb7 s.plan k) (kab7 s.times k) j))]
def sxb7 (s:ld7) (l:List UInt8):List Root:=rib7 s l++[.live false 2 1 (.ints .i64 [(s.plan.bikes.length:Int)])]
def wyb7 (s:ld7) (l:List UInt8) (k j:Nat):List Root:=sxb7 s l++[.live false 70 2 (.box [I6 (cy7 s.plan k).sat,kf7 (cy7 s.plan k).stops]),.live false 136 3 (.box [I6 (jl7 s.times k).out,kf7 (jl7 s.times k).starts,I6 (jl7 s.times k).back]),.live false 2 1 (.ints .i64 (kCells (cy7 s.plan k) (jl7 s.times k) j))]
theorem gv7 {H:List Root}{id buf n:Nat}{l m:List UInt8}{K:RV→List Root→Prop}(h1:da7 H id=yq7 (.ptr id 1 0 0) (.h buf 0 n)) (h2:da7 H buf=wo7 (byI (S l))) (hn:n=l.length) (hs:n+m.length≤1099511627776)
  (hK:K (.tup [.c (I6 m.length),.c .junk]) (ja7 (ja7 H buf (wo7 (byI (S (l++m))))) id (yq7 (.ptr id 1 0 0) (.h buf 0 (l++m).length)))):ne7 Tryz.prog none 52 [.c (.ptr id 1 0 0),.c (.str (S m))] H K:=by
 refine myb7 h1 h2 (by rw[hn];exact (pl7 (S l)).symm) hs ?_
 rw[idc7]
 rw[List.length_append,← hn]at hK
 exact hK
theorem sheet_p {s:ld7}(h:ye7 s.plan s.times s.cost):PCall Tryz.prog 14 [.agg (kd7 s)] (fun r=>r = .c (.str (S (nj7 s.plan s.times s.cost)))):=by
 refine he7 vc7 (by kernel_rfl) (fun n=>match n with | 11=>([0,1,2,3,4,5,6,7,8,10,9,11,12,13,14],2,none) | _=>([],0,none)) Tryz.func14 rfl (by kernel_rfl) Tryz.ntmps14 (congrArg Array.toList Tryz.results14) (by kernel_rfl) (by simp) ?_
 have hc:=h.c
 have hnt:za7 (s.plan.trucks.length:Int):=wn h.nt
 have hnb:za7 (s.plan.bikes.length:Int):=wn h.nb
 have hnn:=h.nt
 have hbb:=h.nb
 have hhd:=h.headL
 have hml:=h.midL
 have l1:=hfb7 [112,108,97,110] [s.cost]
 have l2:=zw7 hc [112,108,97,110]
 have l3:=zw7 hnt [116,114,117,99,107,115]
 simp only[List.length_cons,List.length_nil]at l2 l3
 simp -implicitDefEqProofs only [go_sem,kd7,eo7,ri7]
 refine fv7 (yy7 (nm:=[112,108,97,110]) (l:=[s.cost]) (by simp) (by simp) (fun v hv=>by rw[List.mem_singleton.1 hv];exact hc)) ⟨rfl,⟨rfl,rfl⟩,trivial⟩ (by simp only[ps7,ljb7,iab7,frz,da7];rw[cn7 (by rfl)]) (fun r h=>by subst h;rfl) ?_
 rintro r rfl
 refine ztb7 rfl ⟨l1,by rw[wpb7];omega⟩ ?_
 simp -implicitDefEqProofs only [go_sem,yq7,wo7,wpb7]
 refine fv7 (yy7 (nm:=[116,114,117,99,107,115]) (l:=[(s.plan.trucks.length:Int)]) (by simp) (by simp) (fun v hv=>by rw[List.mem_singleton.1 hv];exact hnt)) ⟨rfl,⟨rfl,rfl⟩,trivial⟩ (by simp only[ps7,ljb7,iab7,frz,da7];rw[cn7 (by rfl)]) (fun r h=>by subst h;rfl) ?_
 rintro r rfl
 refine gv7 rfl rfl rfl (by omega) ?_
 simp -implicitDefEqProofs only [go_sem,yq7,wo7]
 refine wg7 (ι:=Nat) [1,3,29,30] [31] (fun k=>k≤s.plan.trucks.length) (fun k=>[.c (I6 k)]) (fun k=>rib7 s (vi7 s.plan s.cost++rg7 s.plan s.times k)) (fun k=>s.plan.trucks.length-k) (by kernel_rfl) ⟨0,Nat.zero_le _,rfl,(by rw[show rg7 s.plan s.times 0=[] from rfl,List.append_nil];rfl)⟩ (fun _ _=>⟨rfl,rfl,rfl,rfl⟩) ?_
 intro k hk
 have htr:=h.trucksL k
 have htk:=h.truckL k
 have htk':(wi7 [] (tCells (jcb7 s.plan k) (kab7 s.times k) (jcb7 s.plan k).length)).length≤1980023:=htk
 have hnx:vi7 s.plan s.cost++rg7 s.plan s.times (k+1)=(vi7 s.plan s.cost++rg7 s.plan s.times k)++wi7 [] (tCells (jcb7 s.plan k) (kab7 s.times k) (jcb7 s.plan k).length):=by rw[qs7,← List.append_assoc];rfl
 have hle:k=s.plan.trucks.length→vi7 s.plan s.cost++rg7 s.plan s.times k++wi7 [98,105,107,101,115] [(s.plan.bikes.length:Int)]=ylb7 s.plan s.times s.cost:=fun e=>by subst e;rfl
 have hal:(vi7 s.plan s.cost++rg7 s.plan s.times k).length≤198002300056:=by rw[List.length_append];omega
 generalize vi7 s.plan s.cost++rg7 s.plan s.times k=acc at hnx hle hal
 simp -implicitDefEqProofs only [go_sem,rib7,yq7,wo7,kd7,eo7,ri7]
 refine⟨fun h1=>?_,fun h1=>?_⟩
 ·have hkl:(jcb7 s.plan k).length≤30000:=(h.truck k).1
  refine⟨by omega, ?_⟩
  refine wg7 (ι:=Nat) [1,3,4,29,30,31,41,42] [6,43] (fun j=>j≤(jcb7 s.plan k).length) (fun j=>[.c (.h 6 0 (tCells (jcb7 s.plan k) (kab7 s.times k) j).length),.c (I6 j)]) (fun j=>kzb7 s acc k j) (fun j=>(jcb7 s.plan k).length-j) (by kernel_rfl) ⟨0,Nat.zero_le _,rfl,rfl⟩ (fun _ _=>⟨rfl,rfl,rfl,rfl⟩) ?_
  intro j hj
  have hlen:=qk7 (jcb7 s.plan k) (kab7 s.times k) j
  simp -implicitDefEqProofs only [go_sem,kzb7,rib7,yq7,wo7,kd7,eo7,ri7]
  refine⟨fun h3=>?_,fun h3=>?_⟩
  ·refine⟨by omega,xm7 (bec7 (t:=s.times) (k:=k) (by omega)) (by simp -implicitDefEqProofs only [go_sem]) rfl rfl ?_⟩
   rintro r rfl
   try simp -implicitDefEqProofs only [go_sem]
   refine be7 (xyb7 (by omega)) (by simp -implicitDefEqProofs only [go_sem]) rfl (fun r h=>by subst h;rfl) ?_
   rintro r rfl
   simp -implicitDefEqProofs only [go_sem]
   refine⟨by omega,⟨by omega,by omega⟩,j+1,by omega, ?_, ?_,by omega⟩
   ·rw[qk7,qk7,show 1+3*(j+1)=1+3*j+3 by omega];rfl
   ·rw[cp7];rfl
  ·obtain rfl:j=(jcb7 s.plan k).length:=by omega
   have hcw:=h.tCells k (jcb7 s.plan k).length
   refine fv7 (yy7 (nm:=[]) (l:=tCells (jcb7 s.plan k) (kab7 s.times k) (jcb7 s.plan k).length) (by simp) (by omega) hcw) ⟨rfl,⟨Nat.zero_add _,rfl⟩,trivial⟩ (by simp only[ps7,ljb7,iab7,frz,da7];rw[cn7 rfl]) (fun r h=>by subst h;rfl) ?_
   rintro r rfl
   refine gv7 rfl rfl rfl (by omega) ?_
   refine⟨⟨by omega,by omega⟩,k+1,by omega,rfl, ?_,by omega⟩
   rw[hnx];rfl
 ·obtain rfl:k=s.plan.trucks.length:=by omega
  have hle:=hle rfl
  clear hk htr htk htk' hnx h1
  refine fv7 (yy7 (nm:=[98,105,107,101,115]) (l:=[(s.plan.bikes.length:Int)]) (by simp) (by simp) (fun v hv=>by rw[List.mem_singleton.1 hv];exact hnb)) ⟨rfl,⟨rfl,rfl⟩,trivial⟩ (by simp only[ps7,ljb7,iab7,frz,da7];rw[cn7 (by rfl)]) (fun r h=>by subst h;rfl) ?_
  rintro r rfl
  have hle2:=congrArg List.length hle
  rw[List.length_append]at hle2
  refine gv7 rfl rfl rfl (by omega) ?_
  rw[hle]
  simp -implicitDefEqProofs only [go_sem,yq7,wo7]
  refine wg7 (ι:=Nat) [1,3,76,77] [78] (fun k=>k≤s.plan.bikes.length) (fun k=>[.c (I6 k)]) (fun k=>sxb7 s (ylb7 s.plan s.times s.cost++mi7 s.plan s.times k)) (fun k=>s.plan.bikes.length-k) (by kernel_rfl) ⟨0,Nat.zero_le _,rfl,(by rw[show mi7 s.plan s.times 0=[] from rfl,List.append_nil];rfl)⟩ (fun _ _=>⟨rfl,rfl,rfl,rfl⟩) ?_
  intro k hk
  have hbr:=h.bikesL k
  have hbk:=h.bikeL k
  have hbk':(wi7 [] (kCells (cy7 s.plan k) (jl7 s.times k) (cy7 s.plan k).stops.length++[(jl7 s.times k).back])).length≤1320089:=hbk
  have hnx:ylb7 s.plan s.times s.cost++mi7 s.plan s.times (k+1)=(ylb7 s.plan s.times s.cost++mi7 s.plan s.times k)++wi7 [] (kCells (cy7 s.plan k) (jl7 s.times k) (cy7 s.plan k).stops.length++[(jl7 s.times k).back]):=by rw[ou7,← List.append_assoc];rfl
  have hen:k=s.plan.bikes.length→ylb7 s.plan s.times s.cost++mi7 s.plan s.times k++[101,110,100,10]=nj7 s.plan s.times s.cost:=fun e=>by subst e;rfl
  have hal2:(ylb7 s.plan s.times s.cost++mi7 s.plan s.times k).length≤400002300056:=by rw[List.length_append];omega
  have hpos:0<(ylb7 s.plan s.times s.cost++mi7 s.plan s.times k).length:=by
   rw[List.length_append,ylb7,List.length_append,List.length_append]
   have:=hfb7 [98,105,107,101,115] [(s.plan.bikes.length:Int)]
   omega
  generalize ylb7 s.plan s.times s.cost++mi7 s.plan s.times k=ac2 at hnx hen hal2 hpos
  simp -implicitDefEqProofs only [go_sem,sxb7,rib7,yq7,wo7,kd7,eo7,ri7]
  refine⟨fun h1=>?_,fun h1=>?_⟩
  ·have hkl:(cy7 s.plan k).stops.length≤30000:=(h.bike k).1
   refine⟨by omega,xm7 (nxb7 (t:=s.times) (k:=k) (by omega)) (by simp -implicitDefEqProofs only [go_sem]) rfl rfl ?_⟩
   rintro r rfl
   simp -implicitDefEqProofs only [go_sem]
   refine wg7 (ι:=Nat) [1,3,11,76,77,78,97,98] [12,99] (fun j=>j≤(cy7 s.plan k).stops.length) (fun j=>[.c (.h 8 0 (kCells (cy7 s.plan k) (jl7 s.times k) j).length),.c (I6 j)]) (fun j=>wyb7 s ac2 k j) (fun j=>(cy7 s.plan k).stops.length-j) (by kernel_rfl) ⟨0,Nat.zero_le _,rfl,rfl⟩ (fun _ _=>⟨rfl,rfl,rfl,rfl⟩) ?_
   intro j hj
   have hlen:=jk7 (cy7 s.plan k) (jl7 s.times k) j
   simp -implicitDefEqProofs only [go_sem,wyb7,sxb7,rib7,yq7,wo7,kd7,eo7,ri7]
   refine⟨fun h3=>?_,fun h3=>?_⟩
   ·refine⟨by omega,be7 (xyb7 (by omega)) (by simp -implicitDefEqProofs only [go_sem]) rfl (fun r h=>by subst h;rfl) ?_⟩
    rintro r rfl
    simp -implicitDefEqProofs only [go_sem]
    refine⟨by omega,⟨by omega,by omega⟩,j+1,by omega, ?_, ?_,by omega⟩
    ·rw[jk7,jk7,show 3+2*(j+1)=3+2*j+2 by omega];rfl
    ·rw[to7];rfl
   ·obtain rfl:j=(cy7 s.plan k).stops.length:=by omega
    have hcw:=h.kCells k (cy7 s.plan k).stops.length
    have hrb:=(h.ride k).2.1
    refine⟨by omega,fv7 (yy7 (nm:=[]) (l:=kCells (cy7 s.plan k) (jl7 s.times k) (cy7 s.plan k).stops.length++[(jl7 s.times k).back]) (by simp) (by rw[List.length_append,List.length_singleton];omega) (fun v hv=>(List.mem_append.1 hv).elim (hcw v) (fun e=>by rw[List.mem_singleton.1 e];exact hrb))) ⟨rfl,⟨by simp[Row.len],rfl⟩,trivial⟩ (by simp only[ps7,ljb7,iab7,frz,da7];rw[cn7 (by simp)]) (fun r h=>by subst h;rfl) ?_⟩
    rintro r rfl
    refine gv7 rfl rfl rfl (by omega) ?_
    refine⟨⟨by omega,by omega⟩,k+1,by omega,rfl, ?_,by omega⟩
    rw[hnx];rfl
  ·obtain rfl:k=s.plan.bikes.length:=by omega
   have hen:=hen rfl
   refine cpb7 (yy7 (nm:=[101,110,100]) (l:=[]) (by simp) (by simp) (fun v hv=>by cases hv)) (by simp -implicitDefEqProofs only [go_sem]) ⟨_,_,rfl,.inl rfl,_,_,rfl,.inr ⟨_,rfl,.inr (.inr ⟨_,_,rfl⟩)⟩,rfl⟩ (fun r h=>by subst h;rfl) ?_
   rintro r rfl
   refine gv7 rfl rfl rfl (by simp[wi7,lnS];omega) ?_
   simp -implicitDefEqProofs only [go_sem,yq7,wo7]
   refine mlc7 (L:=ac2++wi7 [101,110,100] []) rfl rfl rfl (fun e=>by have:=congrArg List.length e;rw[List.length_append,List.length_nil]at this;omega) (by simp[wi7,lnS];omega) ?_
   simp -implicitDefEqProofs only [go_sem]
   rw[← hen];rfl
end Go.Proofs.YtabadfkikdefeaaGreat.Ab


namespace Go.Proofs.YtabadfkikdefeaaGreat.Ab
open Go.RowKit
def ckb7:List Int→AV
 | []=>.nils
 | l=>kf7 l
def lH (id:Nat):List Int→AV
 | []=>.nils
 | l=>.h id 0 l.length
def lR:List Int→Root
 | []=>.dead
 | l=>.live false 2 1 (.ints .i64 l)
theorem gib7 (l:List Int):Eqv (ckb7 l) (kf7 l):=by
 cases l with
 | nil=>exact .inr ⟨1,_,rfl⟩
 | cons v l=>exact⟨_,rfl,fun i _ j _=>rfl⟩
end Go.Proofs.YtabadfkikdefeaaGreat.Ab
