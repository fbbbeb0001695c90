/- Texts of the proof, joined: AX, EncA, Enc, AdA, Ad, Pc0, Pc1, AtP, RowL. -/
import Derived.Test.YtedahhjopmkbbaaGreatQ5
import Derived.Test.YtedahhjopmkbbaaGreatAwake18
set_option linter.all false
set_option maxRecDepth 100000
set_option maxHeartbeats 6400000
namespace Go.Proofs.YtedahhjopmkbbaaGreat.Ab
open Go.RowKit
def dep:Nat→CK→Bool
 | _,.i _=>true
 | 0,.s .. => false
 | d+1,.s _ ck _=>ck.all (dep d)
def Rd:Nat→CK→AV→Prop
 | _,.i k,x=>∃n,x = .int k n∧inK k n
 | 0,.s ..,_=>False
 | d+1,.s _ ck b,x=>∃n f,x = .sl n ck.length f∧n≤b∧∀i,i<n→∀(j:Nat) (q:CK),ck[j]? = some q→Rd d q (f i j)
def RdS (d:Nat) (ck:List CK) (n:Nat) (x:AV):Prop:=∃f,x = .sl n ck.length f∧∀i,i<n→∀(j:Nat) (q:CK),ck[j]? = some q→Rd d q (f i j)
def RdC (d:Nat):AV→AV→Prop
 | .ws _ ck n,x=>RdS d ck n x
 | y,x=>x=y
def RdL (d:Nat):List AV→List AV→Prop
 | [],l=>l=[]
 | a::r,l=>∃b m,l=b::m∧RdC d a b∧RdL d r m
def okW (d:Nat):List AV→Bool
 | []=>true
 | .ws _ ck _::l=>ck.all (dep d)&&okW d l
 | .int .. :: l=>okW d l
 | .bool _::l=>okW d l
 | .nils::l=>okW d l
 | _=>false
section
variable {P:Program} {ty:Ty} {E:Env} {M:Mp} {H:List Root} {w:World} {rho:Nat→Prop} {E0:Nat}
theorem uob7 {d:Nat}(hT:cdb7 E0 M H w) (hr:∀b q,M.tau b=some q→rho b) (ih:∀(q:CK) (v:Value),dep d q=true→tab7 M w q v→∃x,Rd d q x∧ad7 rho w x v) {t:TypeId}{ck:List CK}{n:Nat}{v:Value}(hd:ck.all (dep d)=true) (h:WSl M w t ck n v):∃x,RdS d ck n x∧ad7 rho w x v:=by
 obtain⟨a,c,rfl,h1,h2,h3,h4⟩:=h
 cases a with
 | none =>
  have:=h3 rfl
  obtain rfl:n=0:=by omega
  exact⟨_,⟨fun _ _=>.junk,rfl,fun i hi=>by omega⟩,none,0,0,c,rfl,h1,h2,fun h=>by omega,fun i hi=>by omega⟩
 | some ad =>
  obtain⟨b,cur,rfl,g1,g2,g3⟩:=h4 _ rfl
  obtain⟨cur2,c1,c2,c3,c4⟩:=hT.cells b t ck g1
  rw[g2]at c1
  cases c1
  have key:∀i j,i<n→j<ck.length→∃x u,(∀q,ck[j]? = some q→Rd d q x)∧w.cell? ⟨b,0+i*ck.length+j,none⟩=some u∧ad7 rho w x u:=fun i j hi hj=>by
   have hlt:i*ck.length+j<cur.size:=by
    have:(i+1)*ck.length≤c*ck.length:=Nat.mul_le_mul_right _ (by omega)
    rw[Nat.add_mul]at this;omega
   obtain⟨u,u1,u2⟩:=c4 (i*ck.length+j) hlt
   have hq:=List.getElem?_eq_getElem hj
   have hm:(i*ck.length+j) % ck.length=j:=by rw[Nat.add_comm,Nat.add_mul_mod_self_right,Nat.mod_eq_of_lt hj]
   obtain⟨x,x1,x2⟩:=ih _ u (List.all_eq_true.1 hd _ (List.getElem_mem hj)) (u2 _ (by rw[hm];exact hq))
   exact⟨x,u,fun q hq2=>by rw[hq]at hq2;cases hq2;exact x1,by simp[World.cell?,g2,u1],x2⟩
  refine⟨_,⟨fun i j=>if h:i<n∧j<ck.length then (key i j h.1 h.2).choose else .junk,rfl,fun i hi j q hq=>?_⟩,some ⟨b,0,none⟩,b,0,c,rfl,h1,h2,fun _=>⟨rfl,hr _ _ g1⟩,fun i hi j hj=>?_⟩
  ·have hj:=(List.getElem?_eq_some_iff.1 hq).1
   simp only[dif_pos (And.intro hi hj)]
   exact (key i j hi hj).choose_spec.choose_spec.1 q hq
  ·simp only[dif_pos (And.intro hi hj)]
   exact⟨_,(key i j hi hj).choose_spec.choose_spec.2.1,(key i j hi hj).choose_spec.choose_spec.2.2⟩
theorem lqc7 (hT:cdb7 E0 M H w) (hr:∀b q,M.tau b=some q→rho b):∀(d:Nat) (q:CK) (v:Value),dep d q=true→tab7 M w q v→∃x,Rd d q x∧ad7 rho w x v
 | d,.i k,v,_,h=>by
  obtain⟨n,rfl,h⟩:=h
  cases d <;> exact⟨.int k n,⟨n,rfl,h⟩,rfl⟩
 | 0,.s ..,_,h,_=>by simp[dep]at h
 | d+1,.s t ck b,v,hd,h=>by
  obtain⟨n,hn,h⟩:=h
  obtain⟨x,⟨f,rfl,h1⟩,h2⟩:=uob7 hT hr (fun q v=>lqc7 hT hr d q v) (by simpa[dep]using hd) h
  exact⟨_,⟨n,f,rfl,hn,h1⟩,h2⟩
theorem gfb7 {d:Nat}(hT:cdb7 E0 M H w) (hr:∀b q,M.tau b=some q→rho b):∀{l:List AV}{vs:List Value},okW d l=true→re7 M H w l vs→∃l',RdL d l l'∧ge7 rho w l' vs
 | [],_,_,h=>by cases h;exact⟨[],rfl,rfl⟩
 | .ws t ck n::l,_,ho,⟨v,r,e,c1,c2⟩=>by
  subst e
  simp only[okW,Bool.and_eq_true]at ho
  obtain⟨x,x1,x2⟩:=uob7 hT hr (fun q v=>lqc7 hT hr d q v) ho.1 c1
  obtain⟨l',l1,l2⟩:=gfb7 hT hr ho.2 c2
  exact⟨x::l',⟨_,_,rfl,x1,l1⟩,_,_,rfl,x2,l2⟩
 | .int k n::l,_,ho,⟨v,r,e,c1,c2⟩=>by
  subst e
  obtain⟨l',l1,l2⟩:=gfb7 (l:=l) hT hr ho c2
  exact⟨_::l',⟨_,_,rfl,rfl,l1⟩,_,_,rfl,c1,l2⟩
 | .bool b::l,_,ho,⟨v,r,e,c1,c2⟩=>by
  subst e
  obtain⟨l',l1,l2⟩:=gfb7 (l:=l) hT hr ho c2
  exact⟨_::l',⟨_,_,rfl,rfl,l1⟩,_,_,rfl,c1,l2⟩
 | .nils::l,_,ho,⟨v,r,e,c1,c2⟩=>by
  subst e
  obtain⟨l',l1,l2⟩:=gfb7 (l:=l) hT hr ho c2
  exact⟨_::l',⟨_,_,rfl,rfl,l1⟩,_,_,rfl,c1,l2⟩
def rvc7 (d:Nat) (post:RV→Prop) (r:RV) (_:List Root):Prop:=∃l,r = .agg l∧okW d l=true∧∀l',RdL d l l'→∃l2,urc7 l' l2∧post (.agg l2)
end
abbrev I6 (n:Int):AV:=.int .i64 n
def ix2 (a b:AV):Nat→AV
 | 0=>a
 | _=>b
def ix3 (a b c:AV):Nat→AV
 | 0=>a
 | 1=>b
 | _=>c
def ix4 (a b c d:AV):Nat→AV
 | 0=>a
 | 1=>b
 | 2=>c
 | _=>d
abbrev ld7 (l:List Int):AV:=.sl l.length 1 (fun i _=>I6 (l.getD i 0))
def cf7 (p:ua7) (i:Nat):List ba7:=p.trucks.getD i []
def le7 (p:ua7) (i:Nat):ga7:=p.bikes.getD i ⟨0,[]⟩
def stN (l:List ba7) (i:Nat):ba7:=l.getD i ⟨0,0⟩
abbrev yl7 (l:List ba7):AV:=.sl l.length 2 (fun i=>ix2 (I6 (stN l i).sat) (I6 (stN l i).load))
def pd7 (p:ua7):List AV:=[.sl p.trucks.length 1 (fun i _=>yl7 (cf7 p i)),.sl p.bikes.length 2 (fun i=>ix2 (I6 (le7 p i).sat) (ld7 (le7 p i).stops))]
def im7 (t:nb7) (i:Nat):List Int:=t.trucks.getD i []
def nf7 (t:nb7) (i:Nat):ka7:=t.bikes.getD i ⟨0,[],0⟩
def mb7 (t:nb7):List AV:=[.sl t.trucks.length 1 (fun i _=>ld7 (im7 t i)),.sl t.bikes.length 3 (fun i=>ix3 (I6 (nf7 t i).out) (ld7 (nf7 t i).starts) (I6 (nf7 t i).back))]
theorem xvc7 (p:Prop) [Decidable p]:(decide p=true)=p:=by simp
theorem guc7 (p:Prop) [Decidable p]:(decide p=false)=¬p:=by simp
theorem fuc7 {b:ByteArray}{p:RV→Prop}:(∃r,ksb7 (.c (.str b)) r∧p r)=p (.c (.str b)):=propext ⟨fun ⟨_,⟨_,e,e2⟩,h⟩=>by subst e;rcases e2 with e2 | e2 <;> (subst e2;exact h),fun h=>⟨_,⟨_,rfl,.inl rfl⟩,h⟩⟩
attribute [go_sem ↓ low] txc7
attribute [go_sem ↓] nvc7 nxc7 lpc7 mtc7 olc7 zuc7 sqc7 khc7 mlc7 bwc7 wxc7 pzc7 iyc7 kzc7 qyc7 myc7 ayc7 kxc7 jzc7 jyc7 ezc7 gyc7 jtc7 cpc7 mzc7
attribute [go_sem] xuc7 ctc7 htc7 smc7 nyc7 oxc7 tzc7 vmc7 pbb7 nuc7 buc7 nwc7 ttc7 tkc7 czc7 vyc7 wzc7 uxc7 nzc7 syc7 oyc7 fzc7 ryc7 pxc7 dyc7 xxc7 bzc7 pwc7 qsc7 appW zW ckE iqc7 ucc7 jgc7 ugc7 ajc7 ulc7 lnc7 ghc7 xnc7 bsc7 qic7 fmc7 wpc7 List.drop_nil Option.toList_none Option.toList_some vsc7 klc7 tyc7 usc7 iob7 Option.map_some Option.map_none List.drop_zero List.drop_succ_cons wwc7 renG jeb7 rib7 fo7 zjc7 qqc7 eic7 oac7 dpc7 znb7 snc7 lxc7 tqc7 jhc7 unc7 qmc7 rgc7 rjc7 zfc7 yuc7 auc7 ysc7 duc7 suc7 juc7 cob7 eec7 cdc7 pos okI List.cons_append List.replicate_succ List.replicate_zero lpK wvc7 Int.toNat_zero xvc7 guc7 Bool.and_eq_true Bool.not_eq_true' and_imp setT fxT gets xm7 wy7 mkc7 egb7 abb7 AV.scp List.take_succ_cons List.take_zero List.take_nil gtc7 gmc7 hrc7 hoc7 brc7 puc7 yhc7 sgc7 dwc7 dlc7 nmc7 qtc7 yzc7 gzc7 strOf AV.strOf onc7 upc7 ltc7 sxc7 lvc7 lzc7 byc7 pvc7 rmc7 rtc7 utc7 kvc7 ntc7 yxc7 vzc7 hwc7 gwc7 aqc7 elc7 bqc7 ksc7 true_or or_true false_or or_false etc7 ivc7 zxc7 iuc7 t_n t_e t_r b_n b_e b_r c_t r_r r_n isV guardOf vy7 pgs rgs rds opV zpc7 AS.rd lk cic7 ftc7 xtc7 wuc7 kuc7 ob7 cw7 arc7 vld at2 sx7 aa7 tab Row.get Row.len Row.isBox Row.one uzc7 yib7 nth jx7 bkc7 kzb7 jc7 hmc7 unV plb7 mmV bf7 slb7 qkc7 skc7 zx7 rnb7 Row.put pat gwb7 da7 okc7 chunk takeN oqb7 rep sm7 cv7 kq7 kyb7 zOk zeros wqb7 dc7 Row.app Row.drop if7 wlb7 hr7 frz frzH Root.mark eo7 igc7 one cwc7 nrc7 fuc7 okT okR zsb7 xmc7 kmc7 wt7 wl7 lkb7 eib7 dnc7 qfc7 opD ukc7 ix2 ix3 ix4 Int.toNat_natCast tyM ovc7 njL AV.nj kN inK xsc7 awc7 if_true if_false true_and and_true forall_const implies_true false_implies imp_self List.length_cons List.length_nil List.map_cons List.map_nil List.nil_append List.cons_append Bool.false_eq_true Bool.true_and ne_eq not_false_eq_true decide_true decide_false Decidable.not_not Nat.add_zero Nat.zero_add Nat.zero_mul
attribute [go_sem_proc ↓] reduceIte
attribute [go_sem_proc] reduceCtorEq Nat.reduceAdd Nat.reduceLT Nat.reduceEqDiff Nat.reduceMul Nat.reduceLeDiff Nat.reduceSub
def zsc7 (x:ca7) (i:Nat):zrb7:=x.sats.getD i ⟨0,0⟩
def inc7 (x:ca7) (i:Nat):oq7:=x.custs.getD i ⟨0,0,0,0⟩
abbrev vuc7 (x:ca7):AV:=.sl x.sats.length 2 (fun i=>ix2 (I6 (zsc7 x i).room) (I6 (zsc7 x i).hold))
abbrev fnc7 (x:ca7):AV:=.sl x.custs.length 4 (fun i=>ix4 (I6 (inc7 x i).load) (I6 (inc7 x i).opn) (I6 (inc7 x i).cls) (I6 (inc7 x i).stay))
abbrev orc7 (n:Nat) (f:Nat→Nat→Int):AV:=.sl n 1 (fun i _=>.sl n 1 (fun j _=>I6 (f i j)))
def gvc7 (x:ca7) (i j:Nat):Int:=(x.cost.getD i []).getD j 0
def nsb7 (x:ca7) (i j:Nat):Int:=(x.time.getD i []).getD j 0
theorem ufc7 (x:ca7) (a b:Int):nsb7 x a.toNat b.toNat=gb7 x a b:=rfl
theorem kac7 (x:ca7) (a:Int):nsb7 x a.toNat 0=gb7 x a 0:=rfl
theorem uac7 (x:ca7) (b:Int):nsb7 x 0 b.toNat=gb7 x 0 b:=rfl
theorem pac7 (x:ca7):nsb7 x 0 0=gb7 x 0 0:=rfl
def yh7 (x:ca7):List AV:=[I6 x.fin,I6 x.tmany,I6 x.troom,I6 x.bmany,I6 x.broom,vuc7 x,fnc7 x,orc7 (nodes x) (gvc7 x),orc7 (nodes x) (nsb7 x)]
theorem hyb7 (x:ca7) (a:Int):(zsc7 x a.toNat).hold=vi7 x a:=rfl
theorem acc7 (x:ca7) (a:Int):inc7 x a.toNat=fc7 x a:=rfl
attribute [go_sem] ufc7 kac7 uac7 pac7 hyb7 acc7
def Fwd {α:Type} (S:Shape α) (e:α→Nat→AV):Prop:=∀{w:World} {F:Nat→Prop} {x:α} {cs:List Value},S.rep w F x cs→∀j,j<S.sz→∃u,cs[j]? = some u∧ad7 F w (e x j) u
def Bwd {α:Type} (S:Shape α) (e:α→Nat→AV) (ok:α→Prop):Prop:=∀{w:World} {F:Nat→Prop} {x:α} {cs:List Value},cs.length=S.sz→(∀j,j<S.sz→∃u,cs[j]? = some u∧ad7 F w (e x j) u)→ok x→S.rep w F x cs
theorem mj7 {α:Type}{l:List α}{i:Nat}(h:i<l.length) (z:α):l.getD i z=l[i]:=by
 rw[List.getD_eq_getElem?_getD,List.getElem?_eq_getElem h];rfl
section
variable {α:Type} {S:Shape α} {h0:0<S.sz} {e:α→Nat→AV} {ok:α→Prop} {w:World} {F:Nat→Prop}
theorem fs (z:α) (hS:Fwd S e) {l:List α}{v:Value}(h:(ia7 S h0).rep w F l [v]):ad7 F w (.sl l.length S.sz (fun i=>e (l.getD i z))) v:=by
 obtain⟨a,b,off,c,e1,h1,h2,h3,h4⟩:=h
 cases e1
 refine⟨a,b,off,c,rfl,h1,h2,h3,fun i hi j hj=>?_⟩
 obtain⟨es,k1,k2⟩:=h4 i hi
 obtain⟨u,k3,k4⟩:=hS k1 j hj
 show ∃u,_=some u∧ad7 F w (e (l.getD i z) j) u
 rw[mj7 hi]
 exact⟨u,by rw[k2 j hj,k3],k4⟩
theorem hfb7:∀(n:Nat) {p:Nat→Value→Prop},(∀j,j<n→∃u,p j u)→∃es:List Value,es.length=n∧∀j u,es[j]? = some u→p j u
 | 0,_,_=>⟨[],rfl,fun _ _ h=>by simp at h⟩
 | n+1,p,h=>by
  obtain⟨u,hu⟩:=h 0 (Nat.succ_pos _)
  obtain⟨es,h1,h2⟩:=hfb7 n (p:=fun j=>p (j+1)) (fun j hj=>h (j+1) (by omega))
  refine⟨u::es,by simp[h1],fun j v hj=>?_⟩
  cases j with
  | zero=>simp at hj;subst hj;exact hu
  | succ j=>exact h2 j v (by simpa using hj)
theorem bs (z:α) (hS:Bwd S e ok) {l:List α}{v:Value}(h:ad7 F w (.sl l.length S.sz (fun i=>e (l.getD i z))) v) (ho:∀x∈l,ok x):(ia7 S h0).rep w F l [v]:=by
 obtain⟨a,b,off,c,rfl,h1,h2,h3,h4⟩:=h
 refine⟨a,b,off,c,rfl,h1,h2,h3,fun i hi=>?_⟩
 obtain⟨es,k1,k2⟩:=hfb7 S.sz (h4 i hi)
 have k3:∀j,j<S.sz→w.cell? ⟨b,off+i*S.sz+j,none⟩=es[j]? ∧ ∃u,es[j]? = some u∧ad7 F w (e l[i] j) u:=fun j hj=>by
  have hg:es[j]? = some es[j]:=List.getElem?_eq_getElem (by omega)
  obtain⟨k4,k5⟩:=k2 j _ hg
  have k5:ad7 F w (e (l.getD i z) j) es[j]:=k5
  rw[mj7 hi]at k5
  exact⟨by rw[k4,hg],_,hg,k5⟩
 exact⟨es,hS k1 (fun j hj=>(k3 j hj).2) (ho _ (List.getElem_mem hi)),fun j hj=>(k3 j hj).1⟩
theorem clc7 (z:α) (hS:Fwd S e):Fwd (ia7 S h0) (fun l _=>.sl l.length S.sz (fun i=>e (l.getD i z))):=by
 intro w F x cs h j hj
 have hl:=(ia7 S h0).len h
 match cs,hl with
 | [v],_ =>
  have hj:j<1:=hj
  obtain rfl:j=0:=by omega
  exact⟨v,rfl,fs z hS h⟩
theorem noc7 (z:α) (hS:Bwd S e ok):Bwd (ia7 S h0) (fun l _=>.sl l.length S.sz (fun i=>e (l.getD i z))) (fun l=>∀x∈l,ok x):=by
 intro w F x cs hl h ho
 match cs,hl with
 | [v],_ =>
  obtain⟨u,h1,h2⟩:=h 0 Nat.one_pos
  cases h1
  exact bs z hS h2 ho
end
theorem rpc7:Fwd om7 (fun x _=>I6 x):=by
 rintro w F x cs ⟨rfl,-⟩ j hj
 have hj:j<1:=hj
 obtain rfl:j=0:=by omega
 exact⟨_,rfl,rfl⟩
theorem ryb7:Bwd om7 (fun x _=>I6 x) oa7:=by
 intro w F x cs hl h ho
 obtain⟨u,h1,h2⟩:=h 0 Nat.one_pos
 match cs,hl with
 | [v],_=>cases h1;exact⟨by rw[show u = .int .i64 x from h2],ho⟩
theorem szc7:Fwd u8S (fun x _=>.int .u8 x):=by
 rintro w F x cs ⟨rfl,-⟩ j hj
 have hj:j<1:=hj
 obtain rfl:j=0:=by omega
 exact⟨_,rfl,rfl⟩
theorem lyc7:Bwd u8S (fun x _=>.int .u8 x) (fun x=>0≤x∧x≤255):=by
 intro w F x cs hl h ho
 obtain⟨u,h1,h2⟩:=h 0 Nat.one_pos
 match cs,hl with
 | [v],_=>cases h1;exact⟨by rw[show u = .int .u8 x from h2],ho⟩
theorem toc7:Fwd ai7 (fun x=>ix2 (I6 x.sat) (I6 x.load)):=by
 rintro w F x cs ⟨rfl,-⟩ j hj
 have hj:j<2:=hj
 match j,hj with
 | 0,_=>exact⟨_,rfl,rfl⟩
 | 1,_=>exact⟨_,rfl,rfl⟩
theorem eoc7:Fwd gjb7 (fun x=>ix2 (I6 x.sat) (ld7 x.stops)):=by
 rintro w F x cs ⟨v,rfl,-,h⟩ j hj
 have hj:j<2:=hj
 match j,hj with
 | 0,_=>exact⟨_,rfl,rfl⟩
 | 1,_=>exact⟨_,rfl,fs 0 rpc7 h⟩
theorem hac7 {a b:AV}{w:World}{F:Nat→Prop}{cs:List Value}(hl:cs.length=2) (h:∀j,j<2→∃u,cs[j]? = some u∧ad7 F w (ix2 a b j) u):∃u v,cs=[u,v]∧ad7 F w a u∧ad7 F w b v:=by
 match cs,hl with
 | [u,v],_ =>
  obtain⟨u',h1,h2⟩:=h 0 (by decide)
  obtain⟨v',h3,h4⟩:=h 1 (by decide)
  cases h1;cases h3
  exact⟨_,_,rfl,h2,h4⟩
def inb7 (x:ba7):Prop:=oa7 x.sat∧oa7 x.load
def hec7 (x:ga7):Prop:=oa7 x.sat∧∀c∈x.stops,oa7 c
def tec7 (x:ka7):Prop:=oa7 x.out∧oa7 x.back∧∀c∈x.starts,oa7 c
theorem jrc7:Bwd ai7 (fun x=>ix2 (I6 x.sat) (I6 x.load)) inb7:=by
 intro w F x cs hl h ho
 obtain⟨u,v,rfl,h1,h2⟩:=hac7 hl h
 exact⟨by rw[show u = .int .i64 x.sat from h1,show v = .int .i64 x.load from h2],ho⟩
theorem dqc7:Bwd gjb7 (fun x=>ix2 (I6 x.sat) (ld7 x.stops)) hec7:=by
 intro w F x cs hl h ho
 obtain⟨u,v,rfl,h1,h2⟩:=hac7 hl h
 exact⟨v,by rw[show u = .int .i64 x.sat from h1],ho.1,bs 0 ryb7 h2 ho.2⟩
section
variable {w:World} {F:Nat→Prop}
theorem nfc7:Fwd (ia7 ai7) (fun l _=>yl7 l):=clc7 (e:=fun x=>ix2 (I6 x.sat) (I6 x.load)) (⟨0,0⟩:ba7) toc7
theorem nhc7:Bwd (ia7 ai7) (fun l _=>yl7 l) (fun l=>∀s∈l,inb7 s):=noc7 (e:=fun x=>ix2 (I6 x.sat) (I6 x.load)) (⟨0,0⟩:ba7) jrc7
structure jt7 (p:ua7):Prop where
 trucks:∀t∈p.trucks,∀s∈t,inb7 s
 bikes:∀b∈p.bikes,hec7 b
theorem joc7 {p:ua7}{cs:List Value}(h:ecb7.rep w F p cs):ge7 F w (pd7 p) cs:=by
 obtain⟨t,b,rfl,h1,h2⟩:=h
 have k1:=fs (e:=fun l _=>yl7 l) [] nfc7 h1
 have k2:=fs (e:=fun x=>ix2 (I6 x.sat) (ld7 x.stops)) (⟨0,[]⟩:ga7) eoc7 h2
 exact⟨_,_,rfl,k1,_,_,rfl,k2,rfl⟩
theorem cpb7 {p:ua7}{cs:List Value}(h:ge7 F w (pd7 p) cs) (ok:jt7 p):ecb7.rep w F p cs:=by
 obtain⟨t,_,rfl,h1,b,_,rfl,h2,rfl⟩:=h
 exact⟨t,b,rfl,bs (e:=fun l _=>yl7 l) [] nhc7 h1 ok.trucks,bs (e:=fun (x:ga7)=>ix2 (I6 x.sat) (ld7 x.stops)) (⟨0,[]⟩:ga7) dqc7 h2 ok.bikes⟩
structure cz7 (t:nb7):Prop where
 trucks:∀l∈t.trucks,∀v∈l,oa7 v
 bikes:∀r∈t.bikes,tec7 r
end
def ac7 (s:zd7):List AV:=pd7 s.plan++(mb7 s.times++[I6 s.cost])
section
variable {f:FuncId}
theorem qj7 {P:Program}{args:List RV}{post:RV→Prop}(hE:Enters P f) (h:∀(rho:Nat→Prop) (w:World) (vs:List Value),qd7 rho w args vs →
  Calls P f vs.toArray w fun e w'=>∃r v,e = .returned v∧post r∧xg7 (fun b=>w.heap.size≤b∧b<w'.heap.size) w' r v∧Below w.heap.size w w'):be7 P f args post :=
 ⟨hE,fun rho w vs _ _ hc=>(h rho w vs hc).mono fun e w' ⟨r,v,h1,h2,h3,h4⟩=>⟨r,v,_,h1,h2,h3,fun b hb=>.inr hb,h4⟩⟩
end
theorem wg7 [Pan] {P:Program}{pu:Pu}{f:FuncId}{H:List Root}{args args':List RV}{post:RV→Prop}{K:RV→List Root→Prop}(hp:be7 P f args' post) (ho:zsb7 H args) (he:wt7 H args=args') (hH:wl7 H args=H) (hK:∀r,post r→K r H):lb7 P pu f args H K :=
 hic7 hp ho (by rw[he];exact or7 _) (by rw[hH];exact hK)
theorem ptc7:Fwd jnc7 (fun x=>ix2 (I6 x.room) (I6 x.hold)):=by
 rintro w F x cs ⟨rfl,-⟩ j hj
 have hj:j<2:=hj
 match j,hj with
 | 0,_=>exact⟨_,rfl,rfl⟩
 | 1,_=>exact⟨_,rfl,rfl⟩
theorem ooc7:Fwd qlb7 (fun x=>ix4 (I6 x.load) (I6 x.opn) (I6 x.cls) (I6 x.stay)):=by
 rintro w F x cs ⟨rfl,-⟩ j hj
 have hj:j<4:=hj
 match j,hj with
 | 0,_=>exact⟨_,rfl,rfl⟩
 | 1,_=>exact⟨_,rfl,rfl⟩
 | 2,_=>exact⟨_,rfl,rfl⟩
 | 3,_=>exact⟨_,rfl,rfl⟩
def dmc7 (x:zrb7):Prop:=oa7 x.room∧oa7 x.hold
def oec7 (x:oq7):Prop:=oa7 x.load∧oa7 x.opn∧oa7 x.cls∧oa7 x.stay
theorem tuc7:Bwd jnc7 (fun x=>ix2 (I6 x.room) (I6 x.hold)) dmc7:=by
 intro w F x cs hl h ho
 obtain⟨u,v,rfl,h1,h2⟩:=hac7 hl h
 exact⟨by rw[show u = .int .i64 x.room from h1,show v = .int .i64 x.hold from h2],ho⟩
theorem ipc7:Bwd qlb7 (fun x=>ix4 (I6 x.load) (I6 x.opn) (I6 x.cls) (I6 x.stay)) oec7:=by
 intro w F x cs hl h ho
 match cs,hl with
 | [a,b,c,d],_ =>
  obtain⟨a',h1,h2⟩:=h 0 (by decide)
  obtain⟨b',h3,h4⟩:=h 1 (by decide)
  obtain⟨c',h5,h6⟩:=h 2 (by decide)
  obtain⟨d',h7,h8⟩:=h 3 (by decide)
  cases h1;cases h3;cases h5;cases h7
  exact⟨by rw[show a = .int .i64 x.load from h2,show b = .int .i64 x.opn from h4,show c = .int .i64 x.cls from h6,show d = .int .i64 x.stay from h8],ho⟩
section
variable {w:World} {F:Nat→Prop}
def pkc7 (n:Nat) (l:List (List Int)):Prop:=l.length=n∧∀r∈l,r.length=n
theorem nlc7 {n:Nat}{l:List (List Int)}{v:Value}(hq:pkc7 n l) (h:tt7.rep w F l [v]):ad7 F w (orc7 n (fun i j=>(l.getD i []).getD j 0)) v:=by
 obtain⟨a,b,off,c,e1,h1,h2,h3,h4⟩:=h
 cases e1
 refine⟨a,b,off,c,by rw[hq.1],by rw[← hq.1];exact h1,h2,by rw[← hq.1];exact h3,fun i hi j hj=>?_⟩
 have hi':i<l.length:=by rw[hq.1];exact hi
 obtain rfl:j=0:=by omega
 obtain⟨es,k1,k2⟩:=h4 i hi'
 have hl:=(ia7 om7).len k1
 match es,hl with
 | [u],_ =>
  refine⟨u,by simpa[ia7]using k2 0 Nat.one_pos, ?_⟩
  have:=fs 0 rpc7 k1
  rw[hq.2 _ (List.getElem_mem hi')]at this
  show ad7 F w (.sl n 1 (fun j _=>I6 ((l.getD i []).getD j 0))) u
  rw[mj7 hi']
  exact this
theorem gpc7 {n:Nat}{l:List (List Int)}{v:Value}(hq:pkc7 n l) (hw:∀r∈l,∀x∈r,oa7 x) (h:ad7 F w (orc7 n (fun i j=>(l.getD i []).getD j 0)) v):tt7.rep w F l [v]:=by
 obtain⟨a,b,off,c,rfl,h1,h2,h3,h4⟩:=h
 refine⟨a,b,off,c,by rw[hq.1],by rw[hq.1];exact h1,h2,by rw[hq.1];exact h3,fun i hi=>?_⟩
 have hi':i<n:=by rw[← hq.1];exact hi
 obtain⟨u,k1,k2⟩:=h4 i hi' 0 Nat.one_pos
 have k2:ad7 F w (.sl n 1 (fun j _=>I6 ((l.getD i []).getD j 0))) u:=k2
 rw[mj7 hi,← hq.2 _ (List.getElem_mem hi)]at k2
 refine⟨[u],bs 0 ryb7 k2 (hw _ (List.getElem_mem hi)),fun j hj=>?_⟩
 have hj:j<1:=hj
 obtain rfl:j=0:=by omega
 exact k1
structure uhc7 (x:ca7):Prop where
 i5:oa7 x.fin∧oa7 x.tmany∧oa7 x.troom∧oa7 x.bmany∧oa7 x.broom
 sats:∀s∈x.sats,dmc7 s
 custs:∀c∈x.custs,oec7 c
 cost:∀r∈x.cost,∀v∈r,oa7 v
 time:∀r∈x.time,∀v∈r,oa7 v
 sqc:pkc7 (nodes x) x.cost
 sqt:pkc7 (nodes x) x.time
theorem vnc7 {x:ca7}{cs:List Value}(h:erb7.rep w F x cs) (h1:pkc7 (nodes x) x.cost) (h2:pkc7 (nodes x) x.time):ge7 F w (yh7 x) cs:=by
 obtain⟨s,c,co,ti,rfl,-,k1,k2,k3,k4⟩:=h
 exact⟨_,_,rfl,rfl,_,_,rfl,rfl,_,_,rfl,rfl,_,_,rfl,rfl,_,_,rfl,rfl,_,_,rfl,fs _ ptc7 k1,_,_,rfl,fs _ ooc7 k2,_,_,rfl,nlc7 h1 k3,_,_,rfl,nlc7 h2 k4,rfl⟩
theorem gfc7 {x:ca7}{cs:List Value}(h:ge7 F w (yh7 x) cs) (ok:uhc7 x):erb7.rep w F x cs:=by
 obtain⟨_,_,rfl,rfl,_,_,rfl,rfl,_,_,rfl,rfl,_,_,rfl,rfl,_,_,rfl,rfl,s,_,rfl,k1,c,_,rfl,k2,co,_,rfl,k3,ti,_,rfl,k4,rfl⟩:=h
 exact⟨s,c,co,ti,rfl,ok.i5,bs _ tuc7 k1 ok.sats,bs _ ipc7 k2 ok.custs,gpc7 ok.sqc ok.cost k3,gpc7 ok.sqt ok.time k4⟩
end
abbrev vw7 (l:List Int):AV:=.sl l.length 1 (fun i _=>.int .u8 (l.getD i 0))
def lsN (x:jb7) (i:Nat):nzb7:=x.sats.getD i ⟨0,0⟩
def lwN (x:jb7) (i:Nat):vwb7:=x.custs.getD i ⟨0,0,0,0⟩
def fv7 (x:jb7):List AV:=[.int .u8 x.fin,.int .u8 x.trucks,.int .u8 x.troom,.int .u8 x.bikes,.int .u8 x.broom,.sl x.sats.length 2 (fun i=>ix2 (.int .u8 (lsN x i).room) (.int .u8 (lsN x i).hold)),
 .sl x.custs.length 4 (fun i=>ix4 (.int .u8 (lwN x i).load) (.int .u8 (lwN x i).opn) (.int .u8 (lwN x i).wide) (.int .u8 (lwN x i).stay)),vw7 x.cost,vw7 x.time,.bool x.tight,.bool x.loose]
def cjb7 (x:df7):List AV:=[vw7 x.sats,vw7 x.order,vw7 x.cuts]
def B8 (l:List Int):Prop:=∀v∈l,0≤v∧v≤255
structure SmallK (x:jb7):Prop where
 wf:nm7 x
 cost:B8 x.cost
 time:B8 x.time
structure vvb7 (x:df7):Prop where
 sats:B8 x.sats
 order:B8 x.order
 cuts:B8 x.cuts
section
variable {w:World} {F:Nat→Prop}
theorem irc7:Fwd ekb7 (fun x=>ix2 (.int .u8 x.room) (.int .u8 x.hold)):=by
 rintro w F x cs ⟨rfl,-⟩ j hj
 have hj:j<2:=hj
 match j,hj with
 | 0,_=>exact⟨_,rfl,rfl⟩
 | 1,_=>exact⟨_,rfl,rfl⟩
theorem koc7:Bwd ekb7 (fun x=>ix2 (.int .u8 x.room) (.int .u8 x.hold)) (fun x=>wf8 x.room∧wf8 x.hold):=by
 intro w F x cs hl h ho
 obtain⟨u,v,rfl,h1,h2⟩:=hac7 hl h
 exact⟨by rw[show u = .int .u8 x.room from h1,show v = .int .u8 x.hold from h2],ho⟩
theorem ylc7:Fwd hcb7 (fun x=>ix4 (.int .u8 x.load) (.int .u8 x.opn) (.int .u8 x.wide) (.int .u8 x.stay)):=by
 rintro w F x cs ⟨rfl,-⟩ j hj
 have hj:j<4:=hj
 match j,hj with
 | 0,_=>exact⟨_,rfl,rfl⟩
 | 1,_=>exact⟨_,rfl,rfl⟩
 | 2,_=>exact⟨_,rfl,rfl⟩
 | 3,_=>exact⟨_,rfl,rfl⟩
theorem llc7:Bwd hcb7 (fun x=>ix4 (.int .u8 x.load) (.int .u8 x.opn) (.int .u8 x.wide) (.int .u8 x.stay)) (fun x=>wf8 x.load∧wf8 x.opn∧wf8 x.wide∧wf8 x.stay):=by
 intro w F x cs hl h ho
 match cs,hl with
 | [a,b,c,d],_ =>
  obtain⟨a',h1,h2⟩:=h 0 (by decide)
  obtain⟨b',h3,h4⟩:=h 1 (by decide)
  obtain⟨c',h5,h6⟩:=h 2 (by decide)
  obtain⟨d',h7,h8⟩:=h 3 (by decide)
  cases h1;cases h3;cases h5;cases h7
  exact⟨by rw[show a = .int .u8 x.load from h2,show b = .int .u8 x.opn from h4,show c = .int .u8 x.wide from h6,show d = .int .u8 x.stay from h8],ho⟩
theorem ly7 {l:List Int}{v:Value}(h:yc7.rep w F l [v]):ad7 F w (vw7 l) v:=fs (e:=fun x _=>.int .u8 x) (0:Int) szc7 h
theorem ky7 {l:List Int}{v:Value}(h:ad7 F w (vw7 l) v) (ho:B8 l):yc7.rep w F l [v]:=bs (e:=fun (x:Int) _=>.int .u8 x) (0:Int) lyc7 h ho
theorem xhc7 {x:jb7}{cs:List Value}(h:bt7.rep w F x cs):ge7 F w (fv7 x) cs:=by
 obtain⟨s,c,co,ti,rfl,-,k1,k2,k3,k4⟩:=h
 have e1:=fs (e:=fun (x:nzb7)=>ix2 (.int .u8 x.room) (.int .u8 x.hold)) (⟨0,0⟩:nzb7) irc7 k1
 have e2:=fs (e:=fun (x:vwb7)=>ix4 (.int .u8 x.load) (.int .u8 x.opn) (.int .u8 x.wide) (.int .u8 x.stay)) (⟨0,0,0,0⟩:vwb7) ylc7 k2
 exact⟨_,_,rfl,rfl,_,_,rfl,rfl,_,_,rfl,rfl,_,_,rfl,rfl,_,_,rfl,rfl,_,_,rfl,e1,_,_,rfl,e2,_,_,rfl,ly7 k3,_,_,rfl,ly7 k4,_,_,rfl,rfl,_,_,rfl,rfl,rfl⟩
theorem ahc7 {x:jb7}{cs:List Value}(h:ge7 F w (fv7 x) cs) (ok:SmallK x):bt7.rep w F x cs:=by
 obtain⟨_,_,rfl,rfl,_,_,rfl,rfl,_,_,rfl,rfl,_,_,rfl,rfl,_,_,rfl,rfl,s,_,rfl,k1,c,_,rfl,k2,co,_,rfl,k3,ti,_,rfl,k4,_,_,rfl,rfl,_,_,rfl,rfl,rfl⟩:=h
 have e1:=bs (h0:=by decide) (e:=fun (x:nzb7)=>ix2 (.int .u8 x.room) (.int .u8 x.hold)) (⟨0,0⟩:nzb7) koc7 k1 ok.wf.sats
 have e2:=bs (h0:=by decide) (e:=fun (x:vwb7)=>ix4 (.int .u8 x.load) (.int .u8 x.opn) (.int .u8 x.wide) (.int .u8 x.stay)) (⟨0,0,0,0⟩:vwb7) llc7 k2 ok.wf.custs
 exact⟨s,c,co,ti,rfl,⟨ok.wf.fin,ok.wf.trucks,ok.wf.troom,ok.wf.bikes,ok.wf.broom⟩,e1,e2,ky7 k3 ok.cost,ky7 k4 ok.time⟩
theorem sq7 {l:List Int}{cs:List Value}(h:yc7.rep w F l cs):B8 l:=by
 obtain⟨_,_,_,_,-,-,-,-,-,-,hw⟩:=ve7 h
 exact hw
theorem oic7 {x:jb7}{cs:List Value}(h:bt7.rep w F x cs):SmallK x:=by
 have:=lcc7 h
 obtain⟨s,c,co,ti,rfl,-,k1,k2,k3,k4⟩:=h
 exact⟨this,sq7 k3,sq7 k4⟩
theorem eqc7 {x:df7}{cs:List Value}(h:kjb7.rep w F x cs):ge7 F w (cjb7 x) cs:=by
 obtain⟨a,b,c,rfl,k1,k2,k3⟩:=h
 exact⟨_,_,rfl,ly7 k1,_,_,rfl,ly7 k2,_,_,rfl,ly7 k3,rfl⟩
theorem jpc7 {x:df7}{cs:List Value}(h:ge7 F w (cjb7 x) cs) (ok:vvb7 x):kjb7.rep w F x cs:=by
 obtain⟨a,_,rfl,k1,b,_,rfl,k2,c,_,rfl,k3,rfl⟩:=h
 exact⟨a,b,c,rfl,ky7 k1 ok.sats,ky7 k2 ok.order,ky7 k3 ok.cuts⟩
theorem rqc7 {x:df7}{cs:List Value}(h:kjb7.rep w F x cs):vvb7 x:=by
 obtain⟨a,b,c,rfl,k1,k2,k3⟩:=h
 exact⟨sq7 k1,sq7 k2,sq7 k3⟩
end
structure YOk (y:ca7):Prop where
 chk:check y=0
 k:uhc7 y
 ns:1≤y.sats.length∧y.sats.length≤3
 nc:1≤y.custs.length∧y.custs.length≤6
 ld:∀c∈y.custs,1≤c.load∧c.load≤1000
 troom:1≤y.troom
theorem xbc7 {x:ca7}(g:Good x) (h:sub7 x):uhc7 x :=
 ⟨h.1,h.2.1,h.2.2.1,fun r hr=>(h.2.2.2.1 r hr).2,fun r hr=>(h.2.2.2.2 r hr).2,⟨g.costL,g.costR⟩,⟨g.timeL,g.timeR⟩⟩
theorem smb7 {s:jb7}(h:SmallK s):YOk (yj7 s) :=
 ⟨ss7 h.wf,xbc7 (rl7 (ss7 h.wf)) (hzb7 h.wf),vn7 s,el7 s,fun c hc=>(epb7 h.wf c hc).1,tqb7 h.wf⟩
theorem drc7 {s:jb7}(h:SmallK s):be7 Tryz.prog 18 [.agg (fv7 s)] (fun r=>r = .agg (yh7 (yj7 s))) :=
 qj7 ⟨_,_,Tryz.func18,by kernel_rfl,rfl⟩ fun rho w vs hc=>by
  obtain⟨_,_,rfl,⟨cs,rfl,h1⟩,rfl⟩:=hc
  refine (wqc7 (ahc7 h1 h)).mono ?_
  rintro e w' ⟨ds,rfl,hi,hb⟩
  have k:=(smb7 h).k
  exact⟨_,_,rfl,rfl,⟨_,rfl,vnc7 (erb7.lt (hi.rep (hzb7 h.wf))) k.sqc k.sqt⟩,hb⟩
theorem rmb7 {p:ua7}{w':World}{n:Nat}{tv bv:Value}{ts vs:List Value}{TT TS TB TI:Nat}(hT:xh7 TT TS w' n tv p.trucks ts) (hB:zh7 TB TI w' n bv p.bikes vs) (h:jt7 p):xg7 (fun b=>n≤b∧b<w'.heap.size) w' (.agg (pd7 p)) (.agg #[tv,bv]) :=
 ⟨[tv,bv],rfl,joc7 (ecb7.lt ⟨tv,bv,rfl,hT.rep h.trucks,hB.rep h.bikes⟩)⟩
theorem iec7 {p:ua7}(h:ewb7 p):jt7 p :=
 ⟨fun t ht s hs=>by have:=(h.ts t ht).2 s hs;unfold inb7 oa7;omega,fun b hb=>by
  have:=h.bs b hb
  exact⟨by unfold oa7;omega,fun c hc=>by have:=this.2.2 c hc;unfold oa7;omega⟩⟩
theorem vhc7 {y:ca7}{wi:df7}(h:YOk y) (hw:vvb7 wi):be7 Tryz.prog 20 [.agg (yh7 y),.agg (cjb7 wi)] (fun r=>r = .agg (pd7 (fg7 y wi))) :=
 qj7 ⟨_,_,Tryz.func20,by kernel_rfl,rfl⟩ fun rho w vs hc=>by
  obtain⟨_,_,rfl,⟨cs,rfl,h1⟩,_,_,rfl,⟨ds,rfl,h2⟩,rfl⟩:=hc
  have gd:=rl7 h.chk
  refine (dkc7 (gfc7 h1 h.k) (jpc7 h2 hw) h.ns h.nc h.ld ⟨h.troom,gd.troom.2⟩ gd.broom).mono ?_
  rintro e w' ⟨tv,bv,ts,vs,rfl,hT,hB,hb⟩
  exact⟨_,_,rfl,rfl,rmb7 hT hB (iec7 (vk7 wi h.ns h.nc h.ld h.troom)),hb⟩
def rac7 (l:List (List ba7)):Nat:=(l.map List.length).sum
structure POk (p:ua7):Prop where
 wf:jt7 p
 small:wx7 p
theorem bu7 {y:ca7}(h:YOk y) (wi:df7):POk (fg7 y wi) :=
 ⟨iec7 (vk7 wi h.ns h.nc h.ld h.troom),nlb7 wi h.ns h.nc h.ld h.troom⟩
end Go.Proofs.YtedahhjopmkbbaaGreat.Ab

namespace Go.Proofs.YtedahhjopmkbbaaGreat.Ab
open Go.RowKit
theorem wh7 {α:Type}{l:List α}{k:Nat}(h:k<l.length) (z:α):l.getD k z=l[k]:=by
 rw[List.getD_eq_getElem?_getD,List.getElem?_eq_getElem h];rfl
theorem yec7 (x:ca7) {c:Int}(h:je7 x c) (g:Good x):be7 Tryz.prog 53 [.agg (yh7 x),.c (I6 c)] (fun r=>r = .c (.int .i64 (1+x.sats.length+c))):=by
 refine vc7 zb7 (by kernel_rfl) (fun _=>([],0,none)) Tryz.func53 rfl (by kernel_rfl) Tryz.ntmps53 (congrArg Array.toList Tryz.results53) (by kernel_rfl) (by simp) ?_
 simp -implicitDefEqProofs only [go_sem,yh7]
 have:=g.sats;have:=g.custs;unfold je7 at h
 omega
def ay7:List Int→AV
 | []=>.nils
 | l=>ld7 l
def lH (id:Nat):List Int→AV
 | []=>.nils
 | l=>.h id 0 l.length
def lR:List Int→Root
 | []=>.dead
 | l=>.live false 2 1 (.ints .i64 l)
theorem kx7 (l:List Int):Eqv (ay7 l) (ld7 l):=by
 cases l with
 | nil=>exact .inr ⟨1,_,rfl⟩
 | cons v l=>exact⟨_,rfl,fun i _ j _=>rfl⟩
end Go.Proofs.YtedahhjopmkbbaaGreat.Ab
