/- Texts of the proof, joined: AX, EncA, Enc, AdA, Ad, Pc1. -/
import Derived.Test.YtabadfkikdefeaaGreatQ5
import Derived.Test.YtabadfkikdefeaaGreatAwake18
set_option linter.all false
set_option maxRecDepth 100000
set_option maxHeartbeats 6400000
namespace Go.Proofs.YtabadfkikdefeaaGreat.Ab
open Go.RowKit
def dep:Nat→CK→Bool
 | _,.i _=>true
 | 0,.s .. => false
 | d+1,.s _ ck _=>ck.all (dep d)
def Rd:Nat→CK→AV→Prop
 | _,.i k,x=>∃n,x = .int k n∧inK k n
 | 0,.s ..,_=>False
 | d+1,.s _ ck b,x=>∃n f,x = .sl n ck.length f∧n≤b∧∀i,i<n→∀(j:Nat) (q:CK),ck[j]? = some q→Rd d q (f i j)
def RdS (d:Nat) (ck:List CK) (n:Nat) (x:AV):Prop:=∃f,x = .sl n ck.length f∧∀i,i<n→∀(j:Nat) (q:CK),ck[j]? = some q→Rd d q (f i j)
def RdC (d:Nat):AV→AV→Prop
 | .ws _ ck n,x=>RdS d ck n x
 | y,x=>x=y
def RdL (d:Nat):List AV→List AV→Prop
 | [],l=>l=[]
 | a::r,l=>∃b m,l=b::m∧RdC d a b∧RdL d r m
def okW (d:Nat):List AV→Bool
 | []=>true
 | .ws _ ck _::l=>ck.all (dep d)&&okW d l
 | .int .. :: l=>okW d l
 | .bool _::l=>okW d l
 | .nils::l=>okW d l
 | _=>false
section
variable {P:Program} {ty:Ty} {E:Env} {M:Mp} {H:List Root} {w:World} {rho:Nat→Prop} {E0:Nat}
theorem gkb7 {d:Nat}(hT:cbb7 E0 M H w) (hr:∀b q,M.tau b=some q→rho b) (ih:∀(q:CK) (v:Value),dep d q=true→gz7 M w q v→∃x,Rd d q x∧we7 rho w x v) {t:TypeId}{ck:List CK}{n:Nat}{v:Value}(hd:ck.all (dep d)=true) (h:WSl M w t ck n v):∃x,RdS d ck n x∧we7 rho w x v:=by
 obtain⟨a,c,rfl,h1,h2,h3,h4⟩:=h
 cases a with
 | none =>
  have:=h3 rfl
  obtain rfl:n=0:=by omega
  exact⟨_,⟨fun _ _=>.junk,rfl,fun i hi=>by omega⟩,none,0,0,c,rfl,h1,h2,fun h=>by omega,fun i hi=>by omega⟩
 | some ad =>
  obtain⟨b,cur,rfl,g1,g2,g3⟩:=h4 _ rfl
  obtain⟨cur2,c1,c2,c3,c4⟩:=hT.cells b t ck g1
  rw[g2]at c1
  cases c1
  have key:∀i j,i<n→j<ck.length→∃x u,(∀q,ck[j]? = some q→Rd d q x)∧w.cell? ⟨b,0+i*ck.length+j,none⟩=some u∧we7 rho w x u:=fun i j hi hj=>by
   have hlt:i*ck.length+j<cur.size:=by
    have:(i+1)*ck.length≤c*ck.length:=Nat.mul_le_mul_right _ (by omega)
    rw[Nat.add_mul]at this;omega
   obtain⟨u,u1,u2⟩:=c4 (i*ck.length+j) hlt
   have hq:=List.getElem?_eq_getElem hj
   have hm:(i*ck.length+j) % ck.length=j:=by rw[Nat.add_comm,Nat.add_mul_mod_self_right,Nat.mod_eq_of_lt hj]
   obtain⟨x,x1,x2⟩:=ih _ u (List.all_eq_true.1 hd _ (List.getElem_mem hj)) (u2 _ (by rw[hm];exact hq))
   exact⟨x,u,fun q hq2=>by rw[hq]at hq2;cases hq2;exact x1,by simp[World.cell?,g2,u1],x2⟩
  refine⟨_,⟨fun i j=>if h:i<n∧j<ck.length then (key i j h.1 h.2).choose else .junk,rfl,fun i hi j q hq=>?_⟩,some ⟨b,0,none⟩,b,0,c,rfl,h1,h2,fun _=>⟨rfl,hr _ _ g1⟩,fun i hi j hj=>?_⟩
  ·have hj:=(List.getElem?_eq_some_iff.1 hq).1
   simp only[dif_pos (And.intro hi hj)]
   exact (key i j hi hj).choose_spec.choose_spec.1 q hq
  ·simp only[dif_pos (And.intro hi hj)]
   exact⟨_,(key i j hi hj).choose_spec.choose_spec.2.1,(key i j hi hj).choose_spec.choose_spec.2.2⟩
theorem hgc7 (hT:cbb7 E0 M H w) (hr:∀b q,M.tau b=some q→rho b):∀(d:Nat) (q:CK) (v:Value),dep d q=true→gz7 M w q v→∃x,Rd d q x∧we7 rho w x v
 | d,.i k,v,_,h=>by
  obtain⟨n,rfl,h⟩:=h
  cases d <;> exact⟨.int k n,⟨n,rfl,h⟩,rfl⟩
 | 0,.s ..,_,h,_=>by simp[dep]at h
 | d+1,.s t ck b,v,hd,h=>by
  obtain⟨n,hn,h⟩:=h
  obtain⟨x,⟨f,rfl,h1⟩,h2⟩:=gkb7 hT hr (fun q v=>hgc7 hT hr d q v) (by simpa[dep]using hd) h
  exact⟨_,⟨n,f,rfl,hn,h1⟩,h2⟩
theorem geb7 {d:Nat}(hT:cbb7 E0 M H w) (hr:∀b q,M.tau b=some q→rho b):∀{l:List AV}{vs:List Value},okW d l=true→zf7 M H w l vs→∃l',RdL d l l'∧ke7 rho w l' vs
 | [],_,_,h=>by cases h;exact⟨[],rfl,rfl⟩
 | .ws t ck n::l,_,ho,⟨v,r,e,c1,c2⟩=>by
  subst e
  simp only[okW,Bool.and_eq_true]at ho
  obtain⟨x,x1,x2⟩:=gkb7 hT hr (fun q v=>hgc7 hT hr d q v) ho.1 c1
  obtain⟨l',l1,l2⟩:=geb7 hT hr ho.2 c2
  exact⟨x::l',⟨_,_,rfl,x1,l1⟩,_,_,rfl,x2,l2⟩
 | .int k n::l,_,ho,⟨v,r,e,c1,c2⟩=>by
  subst e
  obtain⟨l',l1,l2⟩:=geb7 (l:=l) hT hr ho c2
  exact⟨_::l',⟨_,_,rfl,rfl,l1⟩,_,_,rfl,c1,l2⟩
 | .bool b::l,_,ho,⟨v,r,e,c1,c2⟩=>by
  subst e
  obtain⟨l',l1,l2⟩:=geb7 (l:=l) hT hr ho c2
  exact⟨_::l',⟨_,_,rfl,rfl,l1⟩,_,_,rfl,c1,l2⟩
 | .nils::l,_,ho,⟨v,r,e,c1,c2⟩=>by
  subst e
  obtain⟨l',l1,l2⟩:=geb7 (l:=l) hT hr ho c2
  exact⟨_::l',⟨_,_,rfl,rfl,l1⟩,_,_,rfl,c1,l2⟩
def sic7 (d:Nat) (post:RV→Prop) (r:RV) (_:List Root):Prop:=∃l,r = .agg l∧okW d l=true∧∀l',RdL d l l'→∃l2,fhc7 l' l2∧post (.agg l2)
end
abbrev I6 (n:Int):AV:=.int .i64 n
def ix2 (a b:AV):Nat→AV
 | 0=>a
 | _=>b
def ix3 (a b c:AV):Nat→AV
 | 0=>a
 | 1=>b
 | _=>c
def ix4 (a b c d:AV):Nat→AV
 | 0=>a
 | 1=>b
 | 2=>c
 | _=>d
abbrev ye7 (l:List Int):AV:=.sl l.length 1 (fun i _=>I6 (l.getD i 0))
def ef7 (p:sa7) (i:Nat):List ea7:=p.trucks.getD i []
def xe7 (p:sa7) (i:Nat):ra7:=p.bikes.getD i ⟨0,[]⟩
def stN (l:List ea7) (i:Nat):ea7:=l.getD i ⟨0,0⟩
abbrev wt7 (l:List ea7):AV:=.sl l.length 2 (fun i=>ix2 (I6 (stN l i).sat) (I6 (stN l i).load))
def ee7 (p:sa7):List AV:=[.sl p.trucks.length 1 (fun i _=>wt7 (ef7 p i)),.sl p.bikes.length 2 (fun i=>ix2 (I6 (xe7 p i).sat) (ye7 (xe7 p i).stops))]
def fs7 (t:tb7) (i:Nat):List Int:=t.trucks.getD i []
def fi7 (t:tb7) (i:Nat):dd7:=t.bikes.getD i ⟨0,[],0⟩
def zb7 (t:tb7):List AV:=[.sl t.trucks.length 1 (fun i _=>ye7 (fs7 t i)),.sl t.bikes.length 3 (fun i=>ix3 (I6 (fi7 t i).out) (ye7 (fi7 t i).starts) (I6 (fi7 t i).back))]
theorem ijc7 (p:Prop) [Decidable p]:(decide p=true)=p:=by simp
theorem nic7 (p:Prop) [Decidable p]:(decide p=false)=¬p:=by simp
theorem ujc7 {b:ByteArray}{p:RV→Prop}:(∃r,zxb7 (.c (.str b)) r∧p r)=p (.c (.str b)):=propext ⟨fun ⟨_,⟨_,e,e2⟩,h⟩=>by subst e;rcases e2 with e2 | e2 <;> (subst e2;exact h),fun h=>⟨_,⟨_,rfl,.inl rfl⟩,h⟩⟩
attribute [go_sem ↓ low] zkc7
attribute [go_sem ↓] shc7 gkc7 lcc7 lic7 tec7 qic7 ddc7 uzb7 vcc7 gjc7 ilc7 hlc7 njc7 kgc7 slc7
attribute [go_sem] wic7 yhc7 fjc7 wgc7 jlc7 skc7 xkc7 lgc7 nbb7 jic7 kic7 ljc7 ajc7 chc7 fkc7 zgc7 appW zW ckE ric7 ggc7 uec7 nec7 qgc7 iec7 dic7 phc7 gac7 ubc7 kjc7 List.drop_nil Option.toList_none Option.toList_some hic7 tfc7 ykc7 ihc7 rmb7 Option.map_some Option.map_none List.drop_zero List.drop_succ_cons yjc7 renG khb7 qib7 os7 pac7 ncc7 kac7 uvb7 ofc7 pmb7 mcc7 wkc7 sdc7 bzb7 yfc7 zec7 tac7 nzb7 izb7 uhc7 fic7 mic7 pic7 gic7 thc7 smb7 aac7 bvb7 pos okI List.cons_append List.replicate_succ List.replicate_zero lpK bjc7 Int.toNat_zero ijc7 nic7 Bool.and_eq_true Bool.not_eq_true' and_imp setT fxT gets xm7 ey7 lbc7 xeb7 mab7 AV.scp List.take_succ_cons List.take_zero List.take_nil lhc7 kfc7 ycc7 pec7 wec7 jhc7 iac7 jzb7 cic7 mgc7 sbc7 ghc7 qkc7 alc7 strOf AV.strOf hec7 ogc7 rhc7 t_n t_e t_r b_n b_e b_r c_t r_r r_n isV guardOf wjb7 pgs rgs rds opV whc7 AS.rd lk oac7 eic7 pjc7 wjc7 xjc7 uc7 ueb7 djc7 vld at2 dib7 da7 tab Row.get Row.len Row.isBox Row.one rlc7 chb7 nth ucb7 rec7 xec7 wa7 ohc7 unV ksb7 mmV sg7 hnb7 bhc7 qcc7 jbb7 aqb7 Row.put pat snb7 la7 ygc7 chunk takeN pkb7 rep is7 xv7 br7 fub7 zOk zeros ntb7 ii7 Row.app Row.drop vh7 znb7 rt7 frz frzH Root.mark vu7 dec7 one mjc7 eec7 ujc7 okT okR jpb7 zcc7 egc7 fu7 mm7 ihb7 qmb7 ydc7 pzb7 opD sfc7 ix2 ix3 ix4 Int.toNat_natCast tyM vhc7 njL AV.nj kN inK bic7 tic7 if_true if_false true_and and_true forall_const implies_true false_implies imp_self List.length_cons List.length_nil List.map_cons List.map_nil List.nil_append List.cons_append Bool.false_eq_true Bool.true_and ne_eq not_false_eq_true decide_true decide_false Decidable.not_not Nat.add_zero Nat.zero_add Nat.zero_mul
attribute [go_sem_proc ↓] reduceIte
attribute [go_sem_proc] reduceCtorEq Nat.reduceAdd Nat.reduceLT Nat.reduceEqDiff Nat.reduceMul Nat.reduceLeDiff Nat.reduceSub
def iic7 (x:ba7) (i:Nat):plb7:=x.sats.getD i ⟨0,0⟩
def occ7 (x:ba7) (i:Nat):bp7:=x.custs.getD i ⟨0,0,0,0⟩
abbrev hhc7 (x:ba7):AV:=.sl x.sats.length 2 (fun i=>ix2 (I6 (iic7 x i).room) (I6 (iic7 x i).hold))
abbrev mdc7 (x:ba7):AV:=.sl x.custs.length 4 (fun i=>ix4 (I6 (occ7 x i).load) (I6 (occ7 x i).opn) (I6 (occ7 x i).cls) (I6 (occ7 x i).stay))
abbrev xgc7 (n:Nat) (f:Nat→Nat→Int):AV:=.sl n 1 (fun i _=>.sl n 1 (fun j _=>I6 (f i j)))
def zhc7 (x:ba7) (i j:Nat):Int:=(x.cost.getD i []).getD j 0
def sqb7 (x:ba7) (i j:Nat):Int:=(x.time.getD i []).getD j 0
theorem lac7 (x:ba7) (a b:Int):sqb7 x a.toNat b.toNat=za7 x a b:=rfl
theorem eub7 (x:ba7) (a:Int):sqb7 x a.toNat 0=za7 x a 0:=rfl
theorem tub7 (x:ba7) (b:Int):sqb7 x 0 b.toNat=za7 x 0 b:=rfl
theorem hvb7 (x:ba7):sqb7 x 0 0=za7 x 0 0:=rfl
def ni7 (x:ba7):List AV:=[I6 x.fin,I6 x.tmany,I6 x.troom,I6 x.bmany,I6 x.broom,hhc7 x,mdc7 x,xgc7 (nodes x) (zhc7 x),xgc7 (nodes x) (sqb7 x)]
theorem dnb7 (x:ba7) (a:Int):(iic7 x a.toNat).hold=bg7 x a:=rfl
theorem fwb7 (x:ba7) (a:Int):occ7 x a.toNat=yb7 x a:=rfl
attribute [go_sem] lac7 eub7 tub7 hvb7 dnb7 fwb7
def Fwd {α:Type} (S:Shape α) (e:α→Nat→AV):Prop:=∀{w:World} {F:Nat→Prop} {x:α} {cs:List Value},S.rep w F x cs→∀j,j<S.sz→∃u,cs[j]? = some u∧we7 F w (e x j) u
def Bwd {α:Type} (S:Shape α) (e:α→Nat→AV) (ok:α→Prop):Prop:=∀{w:World} {F:Nat→Prop} {x:α} {cs:List Value},cs.length=S.sz→(∀j,j<S.sz→∃u,cs[j]? = some u∧we7 F w (e x j) u)→ok x→S.rep w F x cs
theorem pu7 {α:Type}{l:List α}{i:Nat}(h:i<l.length) (z:α):l.getD i z=l[i]:=by
 rw[List.getD_eq_getElem?_getD,List.getElem?_eq_getElem h];rfl
section
variable {α:Type} {S:Shape α} {h0:0<S.sz} {e:α→Nat→AV} {ok:α→Prop} {w:World} {F:Nat→Prop}
theorem fs (z:α) (hS:Fwd S e) {l:List α}{v:Value}(h:(ia7 S h0).rep w F l [v]):we7 F w (.sl l.length S.sz (fun i=>e (l.getD i z))) v:=by
 obtain⟨a,b,off,c,e1,h1,h2,h3,h4⟩:=h
 cases e1
 refine⟨a,b,off,c,rfl,h1,h2,h3,fun i hi j hj=>?_⟩
 obtain⟨es,k1,k2⟩:=h4 i hi
 obtain⟨u,k3,k4⟩:=hS k1 j hj
 show ∃u,_=some u∧we7 F w (e (l.getD i z) j) u
 rw[pu7 hi]
 exact⟨u,by rw[k2 j hj,k3],k4⟩
theorem vcb7:∀(n:Nat) {p:Nat→Value→Prop},(∀j,j<n→∃u,p j u)→∃es:List Value,es.length=n∧∀j u,es[j]? = some u→p j u
 | 0,_,_=>⟨[],rfl,fun _ _ h=>by simp at h⟩
 | n+1,p,h=>by
  obtain⟨u,hu⟩:=h 0 (Nat.succ_pos _)
  obtain⟨es,h1,h2⟩:=vcb7 n (p:=fun j=>p (j+1)) (fun j hj=>h (j+1) (by omega))
  refine⟨u::es,by simp[h1],fun j v hj=>?_⟩
  cases j with
  | zero=>simp at hj;subst hj;exact hu
  | succ j=>exact h2 j v (by simpa using hj)
theorem bs (z:α) (hS:Bwd S e ok) {l:List α}{v:Value}(h:we7 F w (.sl l.length S.sz (fun i=>e (l.getD i z))) v) (ho:∀x∈l,ok x):(ia7 S h0).rep w F l [v]:=by
 obtain⟨a,b,off,c,rfl,h1,h2,h3,h4⟩:=h
 refine⟨a,b,off,c,rfl,h1,h2,h3,fun i hi=>?_⟩
 obtain⟨es,k1,k2⟩:=vcb7 S.sz (h4 i hi)
 have k3:∀j,j<S.sz→w.cell? ⟨b,off+i*S.sz+j,none⟩=es[j]? ∧ ∃u,es[j]? = some u∧we7 F w (e l[i] j) u:=fun j hj=>by
  have hg:es[j]? = some es[j]:=List.getElem?_eq_getElem (by omega)
  obtain⟨k4,k5⟩:=k2 j _ hg
  have k5:we7 F w (e (l.getD i z) j) es[j]:=k5
  rw[pu7 hi]at k5
  exact⟨by rw[k4,hg],_,hg,k5⟩
 exact⟨es,hS k1 (fun j hj=>(k3 j hj).2) (ho _ (List.getElem_mem hi)),fun j hj=>(k3 j hj).1⟩
theorem ywb7 (z:α) (hS:Fwd S e):Fwd (ia7 S h0) (fun l _=>.sl l.length S.sz (fun i=>e (l.getD i z))):=by
 intro w F x cs h j hj
 have hl:=(ia7 S h0).len h
 match cs,hl with
 | [v],_ =>
  have hj:j<1:=hj
  obtain rfl:j=0:=by omega
  exact⟨v,rfl,fs z hS h⟩
theorem idc7 (z:α) (hS:Bwd S e ok):Bwd (ia7 S h0) (fun l _=>.sl l.length S.sz (fun i=>e (l.getD i z))) (fun l=>∀x∈l,ok x):=by
 intro w F x cs hl h ho
 match cs,hl with
 | [v],_ =>
  obtain⟨u,h1,h2⟩:=h 0 Nat.one_pos
  cases h1
  exact bs z hS h2 ho
end
theorem ttb7:Fwd dg7 (fun x _=>I6 x):=by
 rintro w F x cs ⟨rfl,-⟩ j hj
 have hj:j<1:=hj
 obtain rfl:j=0:=by omega
 exact⟨_,rfl,rfl⟩
theorem iyb7:Bwd dg7 (fun x _=>I6 x) pa7:=by
 intro w F x cs hl h ho
 obtain⟨u,h1,h2⟩:=h 0 Nat.one_pos
 match cs,hl with
 | [v],_=>cases h1;exact⟨by rw[show u = .int .i64 x from h2],ho⟩
theorem pkc7:Fwd u8S (fun x _=>.int .u8 x):=by
 rintro w F x cs ⟨rfl,-⟩ j hj
 have hj:j<1:=hj
 obtain rfl:j=0:=by omega
 exact⟨_,rfl,rfl⟩
theorem blc7:Bwd u8S (fun x _=>.int .u8 x) (fun x=>0≤x∧x≤255):=by
 intro w F x cs hl h ho
 obtain⟨u,h1,h2⟩:=h 0 Nat.one_pos
 match cs,hl with
 | [v],_=>cases h1;exact⟨by rw[show u = .int .u8 x from h2],ho⟩
theorem tbc7:Fwd ph7 (fun x=>ix2 (I6 x.sat) (I6 x.load)):=by
 rintro w F x cs ⟨rfl,-⟩ j hj
 have hj:j<2:=hj
 match j,hj with
 | 0,_=>exact⟨_,rfl,rfl⟩
 | 1,_=>exact⟨_,rfl,rfl⟩
theorem nfc7:Fwd rq7 (fun x=>ix2 (I6 x.sat) (ye7 x.stops)):=by
 rintro w F x cs ⟨v,rfl,-,h⟩ j hj
 have hj:j<2:=hj
 match j,hj with
 | 0,_=>exact⟨_,rfl,rfl⟩
 | 1,_=>exact⟨_,rfl,fs 0 ttb7 h⟩
theorem vbc7:Fwd cy7 (fun x=>ix3 (I6 x.out) (ye7 x.starts) (I6 x.back)):=by
 rintro w F x cs ⟨v,rfl,-,-,h⟩ j hj
 have hj:j<3:=hj
 match j,hj with
 | 0,_=>exact⟨_,rfl,rfl⟩
 | 1,_=>exact⟨_,rfl,fs 0 ttb7 h⟩
 | 2,_=>exact⟨_,rfl,rfl⟩
theorem xtb7 {a b:AV}{w:World}{F:Nat→Prop}{cs:List Value}(hl:cs.length=2) (h:∀j,j<2→∃u,cs[j]? = some u∧we7 F w (ix2 a b j) u):∃u v,cs=[u,v]∧we7 F w a u∧we7 F w b v:=by
 match cs,hl with
 | [u,v],_ =>
  obtain⟨u',h1,h2⟩:=h 0 (by decide)
  obtain⟨v',h3,h4⟩:=h 1 (by decide)
  cases h1;cases h3
  exact⟨_,_,rfl,h2,h4⟩
def lh7 (x:ea7):Prop:=pa7 x.sat∧pa7 x.load
def exb7 (x:ra7):Prop:=pa7 x.sat∧∀c∈x.stops,pa7 c
def ecc7 (x:dd7):Prop:=pa7 x.out∧pa7 x.back∧∀c∈x.starts,pa7 c
theorem jcc7:Bwd ph7 (fun x=>ix2 (I6 x.sat) (I6 x.load)) lh7:=by
 intro w F x cs hl h ho
 obtain⟨u,v,rfl,h1,h2⟩:=xtb7 hl h
 exact⟨by rw[show u = .int .i64 x.sat from h1,show v = .int .i64 x.load from h2],ho⟩
theorem xdc7:Bwd rq7 (fun x=>ix2 (I6 x.sat) (ye7 x.stops)) exb7:=by
 intro w F x cs hl h ho
 obtain⟨u,v,rfl,h1,h2⟩:=xtb7 hl h
 exact⟨v,by rw[show u = .int .i64 x.sat from h1],ho.1,bs 0 iyb7 h2 ho.2⟩
section
variable {w:World} {F:Nat→Prop}
theorem ozb7:Fwd (ia7 ph7) (fun l _=>wt7 l):=ywb7 (e:=fun x=>ix2 (I6 x.sat) (I6 x.load)) (⟨0,0⟩:ea7) tbc7
theorem gzb7:Bwd (ia7 ph7) (fun l _=>wt7 l) (fun l=>∀s∈l,lh7 s):=idc7 (e:=fun x=>ix2 (I6 x.sat) (I6 x.load)) (⟨0,0⟩:ea7) jcc7
theorem mec7:Fwd (ia7 dg7) (fun l _=>ye7 l):=ywb7 (e:=fun x _=>I6 x) (0:Int) ttb7
structure ujb7 (p:sa7):Prop where
 trucks:∀t∈p.trucks,∀s∈t,lh7 s
 bikes:∀b∈p.bikes,exb7 b
theorem xwb7 {p:sa7}{cs:List Value}(h:ud7.rep w F p cs):ke7 F w (ee7 p) cs:=by
 obtain⟨t,b,rfl,h1,h2⟩:=h
 have k1:=fs (e:=fun l _=>wt7 l) [] ozb7 h1
 have k2:=fs (e:=fun x=>ix2 (I6 x.sat) (ye7 x.stops)) (⟨0,[]⟩:ra7) nfc7 h2
 exact⟨_,_,rfl,k1,_,_,rfl,k2,rfl⟩
theorem kxb7 {p:sa7}{cs:List Value}(h:ke7 F w (ee7 p) cs) (ok:ujb7 p):ud7.rep w F p cs:=by
 obtain⟨t,_,rfl,h1,b,_,rfl,h2,rfl⟩:=h
 exact⟨t,b,rfl,bs (e:=fun l _=>wt7 l) [] gzb7 h1 ok.trucks,bs (e:=fun (x:ra7)=>ix2 (I6 x.sat) (ye7 x.stops)) (⟨0,[]⟩:ra7) xdc7 h2 ok.bikes⟩
structure otb7 (t:tb7):Prop where
 trucks:∀l∈t.trucks,∀v∈l,pa7 v
 bikes:∀r∈t.bikes,ecc7 r
theorem xzb7 {t:tb7}{cs:List Value}(h:xg7.rep w F t cs):ke7 F w (zb7 t) cs:=by
 obtain⟨a,b,rfl,h1,h2⟩:=h
 have k1:=fs (e:=fun l _=>ye7 l) [] mec7 h1
 have k2:=fs (e:=fun x=>ix3 (I6 x.out) (ye7 x.starts) (I6 x.back)) (⟨0,[],0⟩:dd7) vbc7 h2
 exact⟨_,_,rfl,k1,_,_,rfl,k2,rfl⟩
end
def pg7 (s:hi7):List AV:=ee7 s.plan++(zb7 s.times++[I6 s.cost])
theorem sheet_f {w:World}{F:Nat→Prop}{s:hi7}{cs:List Value}(h:zm7.rep w F s cs):ke7 F w (pg7 s) cs:=by
 obtain⟨a,b,c,d,rfl,-,h1,h2⟩:=h
 obtain⟨_,_,e1,k1,_,_,e2,k2,-⟩:=xwb7 h1
 obtain⟨_,_,e3,k3,_,_,e4,k4,-⟩:=xzb7 h2
 cases e1;cases e2;cases e3;cases e4
 exact⟨_,_,rfl,k1,_,_,rfl,k2,_,_,rfl,k3,_,_,rfl,k4,_,_,rfl,rfl,rfl⟩
section
variable {f:FuncId}
theorem tn7 {P:Program}{args:List RV}{post:RV→Prop}(hE:Enters P f) (h:∀(rho:Nat→Prop) (w:World) (vs:List Value),Con0RL rho w args vs →
  Calls P f vs.toArray w fun e w'=>∃r v,e = .returned v∧post r∧ck7 (fun b=>w.heap.size≤b∧b<w'.heap.size) w' r v∧Below w.heap.size w w'):PCall P f args post :=
 ⟨hE,fun rho w vs _ _ hc=>(h rho w vs hc).mono fun e w' ⟨r,v,h1,h2,h3,h4⟩=>⟨r,v,_,h1,h2,h3,fun b hb=>.inr hb,h4⟩⟩
end
theorem wl7 {P:Program}{pu:Pu}{f:FuncId}{H:List Root}{args args':List RV}{post:RV→Prop}{K:RV→List Root→Prop}(hp:PCall P f args' post) (ho:jpb7 H args) (he:fu7 H args=args') (hH:mm7 H args=H) (hK:∀r,post r→K r H):no7 P pu f args H K :=
 pxb7 hp ho (by rw[he];exact ks7 _) (by rw[hH];exact hK)
theorem jjc7:Fwd vec7 (fun x=>ix2 (I6 x.room) (I6 x.hold)):=by
 rintro w F x cs ⟨rfl,-⟩ j hj
 have hj:j<2:=hj
 match j,hj with
 | 0,_=>exact⟨_,rfl,rfl⟩
 | 1,_=>exact⟨_,rfl,rfl⟩
theorem ybc7:Fwd ggb7 (fun x=>ix4 (I6 x.load) (I6 x.opn) (I6 x.cls) (I6 x.stay)):=by
 rintro w F x cs ⟨rfl,-⟩ j hj
 have hj:j<4:=hj
 match j,hj with
 | 0,_=>exact⟨_,rfl,rfl⟩
 | 1,_=>exact⟨_,rfl,rfl⟩
 | 2,_=>exact⟨_,rfl,rfl⟩
 | 3,_=>exact⟨_,rfl,rfl⟩
def bfc7 (x:plb7):Prop:=pa7 x.room∧pa7 x.hold
def swb7 (x:bp7):Prop:=pa7 x.load∧pa7 x.opn∧pa7 x.cls∧pa7 x.stay
theorem uic7:Bwd vec7 (fun x=>ix2 (I6 x.room) (I6 x.hold)) bfc7:=by
 intro w F x cs hl h ho
 obtain⟨u,v,rfl,h1,h2⟩:=xtb7 hl h
 exact⟨by rw[show u = .int .i64 x.room from h1,show v = .int .i64 x.hold from h2],ho⟩
theorem wfc7:Bwd ggb7 (fun x=>ix4 (I6 x.load) (I6 x.opn) (I6 x.cls) (I6 x.stay)) swb7:=by
 intro w F x cs hl h ho
 match cs,hl with
 | [a,b,c,d],_ =>
  obtain⟨a',h1,h2⟩:=h 0 (by decide)
  obtain⟨b',h3,h4⟩:=h 1 (by decide)
  obtain⟨c',h5,h6⟩:=h 2 (by decide)
  obtain⟨d',h7,h8⟩:=h 3 (by decide)
  cases h1;cases h3;cases h5;cases h7
  exact⟨by rw[show a = .int .i64 x.load from h2,show b = .int .i64 x.opn from h4,show c = .int .i64 x.cls from h6,show d = .int .i64 x.stay from h8],ho⟩
section
variable {w:World} {F:Nat→Prop}
def jbc7 (n:Nat) (l:List (List Int)):Prop:=l.length=n∧∀r∈l,r.length=n
theorem cdc7 {n:Nat}{l:List (List Int)}{v:Value}(hq:jbc7 n l) (h:oh7.rep w F l [v]):we7 F w (xgc7 n (fun i j=>(l.getD i []).getD j 0)) v:=by
 obtain⟨a,b,off,c,e1,h1,h2,h3,h4⟩:=h
 cases e1
 refine⟨a,b,off,c,by rw[hq.1],by rw[← hq.1];exact h1,h2,by rw[← hq.1];exact h3,fun i hi j hj=>?_⟩
 have hi':i<l.length:=by rw[hq.1];exact hi
 obtain rfl:j=0:=by omega
 obtain⟨es,k1,k2⟩:=h4 i hi'
 have hl:=(ia7 dg7).len k1
 match es,hl with
 | [u],_ =>
  refine⟨u,by simpa[ia7]using k2 0 Nat.one_pos, ?_⟩
  have:=fs 0 ttb7 k1
  rw[hq.2 _ (List.getElem_mem hi')]at this
  show we7 F w (.sl n 1 (fun j _=>I6 ((l.getD i []).getD j 0))) u
  rw[pu7 hi']
  exact this
theorem ccc7 {n:Nat}{l:List (List Int)}{v:Value}(hq:jbc7 n l) (hw:∀r∈l,∀x∈r,pa7 x) (h:we7 F w (xgc7 n (fun i j=>(l.getD i []).getD j 0)) v):oh7.rep w F l [v]:=by
 obtain⟨a,b,off,c,rfl,h1,h2,h3,h4⟩:=h
 refine⟨a,b,off,c,by rw[hq.1],by rw[hq.1];exact h1,h2,by rw[hq.1];exact h3,fun i hi=>?_⟩
 have hi':i<n:=by rw[← hq.1];exact hi
 obtain⟨u,k1,k2⟩:=h4 i hi' 0 Nat.one_pos
 have k2:we7 F w (.sl n 1 (fun j _=>I6 ((l.getD i []).getD j 0))) u:=k2
 rw[pu7 hi,← hq.2 _ (List.getElem_mem hi)]at k2
 refine⟨[u],bs 0 iyb7 k2 (hw _ (List.getElem_mem hi)),fun j hj=>?_⟩
 have hj:j<1:=hj
 obtain rfl:j=0:=by omega
 exact k1
structure myb7 (x:ba7):Prop where
 i5:pa7 x.fin∧pa7 x.tmany∧pa7 x.troom∧pa7 x.bmany∧pa7 x.broom
 sats:∀s∈x.sats,bfc7 s
 custs:∀c∈x.custs,swb7 c
 cost:∀r∈x.cost,∀v∈r,pa7 v
 time:∀r∈x.time,∀v∈r,pa7 v
 sqc:jbc7 (nodes x) x.cost
 sqt:jbc7 (nodes x) x.time
theorem hfc7 {x:ba7}{cs:List Value}(h:eb7.rep w F x cs) (h1:jbc7 (nodes x) x.cost) (h2:jbc7 (nodes x) x.time):ke7 F w (ni7 x) cs:=by
 obtain⟨s,c,co,ti,rfl,-,k1,k2,k3,k4⟩:=h
 exact⟨_,_,rfl,rfl,_,_,rfl,rfl,_,_,rfl,rfl,_,_,rfl,rfl,_,_,rfl,rfl,_,_,rfl,fs _ jjc7 k1,_,_,rfl,fs _ ybc7 k2,_,_,rfl,cdc7 h1 k3,_,_,rfl,cdc7 h2 k4,rfl⟩
theorem nxb7 {x:ba7}{cs:List Value}(h:ke7 F w (ni7 x) cs) (ok:myb7 x):eb7.rep w F x cs:=by
 obtain⟨_,_,rfl,rfl,_,_,rfl,rfl,_,_,rfl,rfl,_,_,rfl,rfl,_,_,rfl,rfl,s,_,rfl,k1,c,_,rfl,k2,co,_,rfl,k3,ti,_,rfl,k4,rfl⟩:=h
 exact⟨s,c,co,ti,rfl,ok.i5,bs _ uic7 k1 ok.sats,bs _ wfc7 k2 ok.custs,ccc7 ok.sqc ok.cost k3,ccc7 ok.sqt ok.time k4⟩
end
abbrev rw7 (l:List Int):AV:=.sl l.length 1 (fun i _=>.int .u8 (l.getD i 0))
def lsN (x:vb7) (i:Nat):usb7:=x.sats.getD i ⟨0,0⟩
def lwN (x:vb7) (i:Nat):isb7:=x.custs.getD i ⟨0,0,0,0⟩
def tx7 (x:vb7):List AV:=[.int .u8 x.fin,.int .u8 x.trucks,.int .u8 x.troom,.int .u8 x.bikes,.int .u8 x.broom,.sl x.sats.length 2 (fun i=>ix2 (.int .u8 (lsN x i).room) (.int .u8 (lsN x i).hold)),
 .sl x.custs.length 4 (fun i=>ix4 (.int .u8 (lwN x i).load) (.int .u8 (lwN x i).opn) (.int .u8 (lwN x i).wide) (.int .u8 (lwN x i).stay)),rw7 x.cost,rw7 x.time,.bool x.tight,.bool x.loose]
def dhb7 (x:hf7):List AV:=[rw7 x.sats,rw7 x.order,rw7 x.cuts]
def B8 (l:List Int):Prop:=∀v∈l,0≤v∧v≤255
structure SmallK (x:vb7):Prop where
 wf:lp7 x
 cost:B8 x.cost
 time:B8 x.time
structure mqb7 (x:hf7):Prop where
 sats:B8 x.sats
 order:B8 x.order
 cuts:B8 x.cuts
section
variable {w:World} {F:Nat→Prop}
theorem xbc7:Fwd qgb7 (fun x=>ix2 (.int .u8 x.room) (.int .u8 x.hold)):=by
 rintro w F x cs ⟨rfl,-⟩ j hj
 have hj:j<2:=hj
 match j,hj with
 | 0,_=>exact⟨_,rfl,rfl⟩
 | 1,_=>exact⟨_,rfl,rfl⟩
theorem jec7:Bwd qgb7 (fun x=>ix2 (.int .u8 x.room) (.int .u8 x.hold)) (fun x=>wf8 x.room∧wf8 x.hold):=by
 intro w F x cs hl h ho
 obtain⟨u,v,rfl,h1,h2⟩:=xtb7 hl h
 exact⟨by rw[show u = .int .u8 x.room from h1,show v = .int .u8 x.hold from h2],ho⟩
theorem dcc7:Fwd tab7 (fun x=>ix4 (.int .u8 x.load) (.int .u8 x.opn) (.int .u8 x.wide) (.int .u8 x.stay)):=by
 rintro w F x cs ⟨rfl,-⟩ j hj
 have hj:j<4:=hj
 match j,hj with
 | 0,_=>exact⟨_,rfl,rfl⟩
 | 1,_=>exact⟨_,rfl,rfl⟩
 | 2,_=>exact⟨_,rfl,rfl⟩
 | 3,_=>exact⟨_,rfl,rfl⟩
theorem udc7:Bwd tab7 (fun x=>ix4 (.int .u8 x.load) (.int .u8 x.opn) (.int .u8 x.wide) (.int .u8 x.stay)) (fun x=>wf8 x.load∧wf8 x.opn∧wf8 x.wide∧wf8 x.stay):=by
 intro w F x cs hl h ho
 match cs,hl with
 | [a,b,c,d],_ =>
  obtain⟨a',h1,h2⟩:=h 0 (by decide)
  obtain⟨b',h3,h4⟩:=h 1 (by decide)
  obtain⟨c',h5,h6⟩:=h 2 (by decide)
  obtain⟨d',h7,h8⟩:=h 3 (by decide)
  cases h1;cases h3;cases h5;cases h7
  exact⟨by rw[show a = .int .u8 x.load from h2,show b = .int .u8 x.opn from h4,show c = .int .u8 x.wide from h6,show d = .int .u8 x.stay from h8],ho⟩
theorem vx7 {l:List Int}{v:Value}(h:xc7.rep w F l [v]):we7 F w (rw7 l) v:=fs (e:=fun x _=>.int .u8 x) (0:Int) pkc7 h
theorem qv7 {l:List Int}{v:Value}(h:we7 F w (rw7 l) v) (ho:B8 l):xc7.rep w F l [v]:=bs (e:=fun (x:Int) _=>.int .u8 x) (0:Int) blc7 h ho
theorem oxb7 {x:vb7}{cs:List Value}(h:mr7.rep w F x cs):ke7 F w (tx7 x) cs:=by
 obtain⟨s,c,co,ti,rfl,-,k1,k2,k3,k4⟩:=h
 have e1:=fs (e:=fun (x:usb7)=>ix2 (.int .u8 x.room) (.int .u8 x.hold)) (⟨0,0⟩:usb7) xbc7 k1
 have e2:=fs (e:=fun (x:isb7)=>ix4 (.int .u8 x.load) (.int .u8 x.opn) (.int .u8 x.wide) (.int .u8 x.stay)) (⟨0,0,0,0⟩:isb7) dcc7 k2
 exact⟨_,_,rfl,rfl,_,_,rfl,rfl,_,_,rfl,rfl,_,_,rfl,rfl,_,_,rfl,rfl,_,_,rfl,e1,_,_,rfl,e2,_,_,rfl,vx7 k3,_,_,rfl,vx7 k4,_,_,rfl,rfl,_,_,rfl,rfl,rfl⟩
theorem wxb7 {x:vb7}{cs:List Value}(h:ke7 F w (tx7 x) cs) (ok:SmallK x):mr7.rep w F x cs:=by
 obtain⟨_,_,rfl,rfl,_,_,rfl,rfl,_,_,rfl,rfl,_,_,rfl,rfl,_,_,rfl,rfl,s,_,rfl,k1,c,_,rfl,k2,co,_,rfl,k3,ti,_,rfl,k4,_,_,rfl,rfl,_,_,rfl,rfl,rfl⟩:=h
 have e1:=bs (h0:=by decide) (e:=fun (x:usb7)=>ix2 (.int .u8 x.room) (.int .u8 x.hold)) (⟨0,0⟩:usb7) jec7 k1 ok.wf.sats
 have e2:=bs (h0:=by decide) (e:=fun (x:isb7)=>ix4 (.int .u8 x.load) (.int .u8 x.opn) (.int .u8 x.wide) (.int .u8 x.stay)) (⟨0,0,0,0⟩:isb7) udc7 k2 ok.wf.custs
 exact⟨s,c,co,ti,rfl,⟨ok.wf.fin,ok.wf.trucks,ok.wf.troom,ok.wf.bikes,ok.wf.broom⟩,e1,e2,qv7 k3 ok.cost,qv7 k4 ok.time⟩
theorem nq7 {l:List Int}{cs:List Value}(h:xc7.rep w F l cs):B8 l:=by
 obtain⟨_,_,_,_,-,-,-,-,-,-,hw⟩:=se7 h
 exact hw
theorem ibc7 {x:vb7}{cs:List Value}(h:mr7.rep w F x cs):SmallK x:=by
 have:=gvb7 h
 obtain⟨s,c,co,ti,rfl,-,k1,k2,k3,k4⟩:=h
 exact⟨this,nq7 k3,nq7 k4⟩
theorem scc7 {x:hf7}{cs:List Value}(h:egb7.rep w F x cs):ke7 F w (dhb7 x) cs:=by
 obtain⟨a,b,c,rfl,k1,k2,k3⟩:=h
 exact⟨_,_,rfl,vx7 k1,_,_,rfl,vx7 k2,_,_,rfl,vx7 k3,rfl⟩
theorem qbc7 {x:hf7}{cs:List Value}(h:ke7 F w (dhb7 x) cs) (ok:mqb7 x):egb7.rep w F x cs:=by
 obtain⟨a,_,rfl,k1,b,_,rfl,k2,c,_,rfl,k3,rfl⟩:=h
 exact⟨a,b,c,rfl,qv7 k1 ok.sats,qv7 k2 ok.order,qv7 k3 ok.cuts⟩
theorem zfc7 {x:hf7}{cs:List Value}(h:egb7.rep w F x cs):mqb7 x:=by
 obtain⟨a,b,c,rfl,k1,k2,k3⟩:=h
 exact⟨nq7 k1,nq7 k2,nq7 k3⟩
end
structure YOk (y:ba7):Prop where
 chk:check y=0
 k:myb7 y
 ns:1≤y.sats.length∧y.sats.length≤3
 nc:1≤y.custs.length∧y.custs.length≤6
 ld:∀c∈y.custs,1≤c.load∧c.load≤1000
 troom:1≤y.troom
theorem uub7 {x:ba7}(g:Good x) (h:aq7 x):myb7 x :=
 ⟨h.1,h.2.1,h.2.2.1,fun r hr=>(h.2.2.2.1 r hr).2,fun r hr=>(h.2.2.2.2 r hr).2,⟨g.costL,g.costR⟩,⟨g.timeL,g.timeR⟩⟩
theorem jnb7 {s:vb7}(h:SmallK s):YOk (dh7 s) :=
 ⟨ls7 h.wf,uub7 (vf7 (ls7 h.wf)) (asb7 h.wf),go7 s,ol7 s,fun c hc=>(yjb7 h.wf c hc).1,tlb7 h.wf⟩
theorem icc7 {s:vb7}(h:SmallK s):PCall Tryz.prog 20 [.agg (tx7 s)] (fun r=>r = .agg (ni7 (dh7 s))) :=
 tn7 ⟨_,_,Tryz.func20,by kernel_rfl,rfl⟩ fun rho w vs hc=>by
  obtain⟨_,_,rfl,⟨cs,rfl,h1⟩,rfl⟩:=hc
  refine (wwb7 (wxb7 h1 h)).mono ?_
  rintro e w' ⟨ds,rfl,hi,hb⟩
  have k:=(jnb7 h).k
  exact⟨_,_,rfl,rfl,⟨_,rfl,hfc7 (eb7.lt (hi.rep (asb7 h.wf))) k.sqc k.sqt⟩,hb⟩
theorem ckb7 {p:sa7}{w':World}{n:Nat}{tv bv:Value}{ts vs:List Value}{TT TS TB TI:Nat}(hT:ji7 TT TS w' n tv p.trucks ts) (hB:li7 TB TI w' n bv p.bikes vs) (h:ujb7 p):ck7 (fun b=>n≤b∧b<w'.heap.size) w' (.agg (ee7 p)) (.agg #[tv,bv]) :=
 ⟨[tv,bv],rfl,xwb7 (ud7.lt ⟨tv,bv,rfl,hT.rep h.trucks,hB.rep h.bikes⟩)⟩
theorem pnb7 {p:sa7}(h:fab7 p):ujb7 p :=
 ⟨fun t ht s hs=>by have:=(h.ts t ht).2 s hs;unfold lh7 pa7;omega,fun b hb=>by
  have:=h.bs b hb
  exact⟨by unfold pa7;omega,fun c hc=>by have:=this.2.2 c hc;unfold pa7;omega⟩⟩
theorem yac7 {y:ba7}{wi:hf7}(h:YOk y) (hw:mqb7 wi):PCall Tryz.prog 21 [.agg (ni7 y),.agg (dhb7 wi)] (fun r=>r = .agg (ee7 (sf7 y wi))) :=
 tn7 ⟨_,_,Tryz.func21,by kernel_rfl,rfl⟩ fun rho w vs hc=>by
  obtain⟨_,_,rfl,⟨cs,rfl,h1⟩,_,_,rfl,⟨ds,rfl,h2⟩,rfl⟩:=hc
  have gd:=vf7 h.chk
  refine (hzb7 (nxb7 h1 h.k) (qbc7 h2 hw) h.ns h.nc h.ld ⟨h.troom,gd.troom.2⟩ gd.broom).mono ?_
  rintro e w' ⟨tv,bv,ts,vs,rfl,hT,hB,hb⟩
  exact⟨_,_,rfl,rfl,ckb7 hT hB (pnb7 (yh7 wi h.ns h.nc h.ld h.troom)),hb⟩
end Go.Proofs.YtabadfkikdefeaaGreat.Ab
