/- Texts of the proof, joined: AX, Enc, Ad, Pc1. -/
import Derived.Test.YtahffcepagopmaaQ4
import Derived.Test.YtahffcepagopmaaP9
set_option linter.all false
set_option maxRecDepth 100000
set_option maxHeartbeats 6400000
namespace Go.Proofs.Ytahffcepagopmaa.Ab
open Go.RowKit
def dep:Nat → CK → Bool
 | _, .i _=>true
 | 0, .s .. => false
 | d + 1, .s _ ck _=>ck.all (dep d)
def Rd:Nat → CK → AV → Prop
 | _, .i k,x => ∃ n,x = .int k n ∧ inK k n
 | 0, .s ..,_=>False
 | d + 1, .s _ ck b,x => ∃ n f,x = .sl n ck.length f ∧ n ≤ b ∧ ∀ i,i < n → ∀ (j:Nat) (q:CK),ck[j]? = some q → Rd d q (f i j)
def RdS (d:Nat) (ck:List CK) (n:Nat) (x:AV):Prop := ∃ f,x = .sl n ck.length f ∧ ∀ i,i < n → ∀ (j:Nat) (q:CK),ck[j]? = some q → Rd d q (f i j)
def RdC (d:Nat):AV → AV → Prop
 | .ws _ ck n,x=>RdS d ck n x
 | y,x=>x = y
def RdL (d:Nat):List AV → List AV → Prop
 | [],l=>l = []
 | a :: r,l => ∃ b m,l = b :: m ∧ RdC d a b ∧ RdL d r m
def okW (d:Nat):List AV → Bool
 | []=>true
 | .ws _ ck _ :: l=>ck.all (dep d) && okW d l
 | .int .. :: l=>okW d l
 | .bool _ :: l=>okW d l
 | .nils :: l=>okW d l
 | _=>false
section
variable {P:Program} {ty:Ty} {E:Env} {M:Mp} {H:List Root} {w:World} {rho:Nat → Prop} {E0:Nat}
theorem ihb7 {d:Nat} (hT:zz7 E0 M H w) (hr:∀ b q,M.tau b = some q → rho b) (ih:∀ (q:CK) (v:Value),dep d q = true → bx7 M w q v → ∃ x,Rd d q x ∧ jf7 rho w x v) {t:TypeId} {ck:List CK} {n:Nat} {v:Value} (hd:ck.all (dep d) = true) (h:WSl M w t ck n v):∃ x,RdS d ck n x ∧ jf7 rho w x v:=by
 obtain ⟨a,c,rfl,h1,h2,h3,h4⟩:=h
 cases a with
 | none =>
  have:=h3 rfl
  obtain rfl:n = 0:=by omega
  exact ⟨_,⟨fun _ _ => .junk,rfl,fun i hi=>by omega⟩,none,0,0,c,rfl,h1,h2,fun h=>by omega,fun i hi=>by omega⟩
 | some ad =>
  obtain ⟨b,cur,rfl,g1,g2,g3⟩:=h4 _ rfl
  obtain ⟨cur2,c1,c2,c3,c4⟩:=hT.cells b t ck g1
  rw [g2] at c1
  cases c1
  have key:∀ i j,i < n → j < ck.length → ∃ x u,(∀ q,ck[j]? = some q → Rd d q x) ∧ w.cell? ⟨b,0 + i * ck.length + j,none⟩ = some u ∧ jf7 rho w x u:=fun i j hi hj=>by
   have hlt:i * ck.length + j < cur.size:=by
    have:(i + 1) * ck.length ≤ c * ck.length:=Nat.mul_le_mul_right _ (by omega)
    rw [Nat.add_mul] at this; omega
   obtain ⟨u,u1,u2⟩:=c4 (i * ck.length + j) hlt
   have hq:=List.getElem?_eq_getElem hj
   have hm:(i * ck.length + j) % ck.length = j:=by rw [Nat.add_comm,Nat.add_mul_mod_self_right,Nat.mod_eq_of_lt hj]
   obtain ⟨x,x1,x2⟩:=ih _ u (List.all_eq_true.1 hd _ (List.getElem_mem hj)) (u2 _ (by rw [hm]; exact hq))
   exact ⟨x,u,fun q hq2=>by rw [hq] at hq2; cases hq2; exact x1,by simp [World.cell?,g2,u1],x2⟩
  refine ⟨_,⟨fun i j=>if h:i < n ∧ j < ck.length then (key i j h.1 h.2).choose else .junk,rfl,fun i hi j q hq => ?_⟩,some ⟨b,0,none⟩,b,0,c,rfl,h1,h2,fun _=>⟨rfl,hr _ _ g1⟩,fun i hi j hj => ?_⟩
  ·have hj:=(List.getElem?_eq_some_iff.1 hq).1
   simp only [dif_pos (And.intro hi hj)]
   exact (key i j hi hj).choose_spec.choose_spec.1 q hq
  ·simp only [dif_pos (And.intro hi hj)]
   exact ⟨_,(key i j hi hj).choose_spec.choose_spec.2.1,(key i j hi hj).choose_spec.choose_spec.2.2⟩
theorem qyb7 (hT:zz7 E0 M H w) (hr:∀ b q,M.tau b = some q → rho b):∀ (d:Nat) (q:CK) (v:Value),dep d q = true → bx7 M w q v → ∃ x,Rd d q x ∧ jf7 rho w x v
 | d, .i k,v,_,h=>by
  obtain ⟨n,rfl,h⟩:=h
  cases d <;> exact ⟨.int k n,⟨n,rfl,h⟩,rfl⟩
 | 0, .s ..,_,h,_=>by simp [dep] at h
 | d + 1, .s t ck b,v,hd,h=>by
  obtain ⟨n,hn,h⟩:=h
  obtain ⟨x,⟨f,rfl,h1⟩,h2⟩:=ihb7 hT hr (fun q v=>qyb7 hT hr d q v) (by simpa [dep] using hd) h
  exact ⟨_,⟨n,f,rfl,hn,h1⟩,h2⟩
theorem ccb7 {d:Nat} (hT:zz7 E0 M H w) (hr:∀ b q,M.tau b = some q → rho b):∀ {l:List AV} {vs:List Value},okW d l = true → ag7 M H w l vs → ∃ l',RdL d l l' ∧ ue7 rho w l' vs
 | [],_,_,h=>by cases h; exact ⟨[],rfl,rfl⟩
 | .ws t ck n :: l,_,ho,⟨v,r,e,c1,c2⟩=>by
  subst e
  simp only [okW,Bool.and_eq_true] at ho
  obtain ⟨x,x1,x2⟩:=ihb7 hT hr (fun q v=>qyb7 hT hr d q v) ho.1 c1
  obtain ⟨l',l1,l2⟩:=ccb7 hT hr ho.2 c2
  exact ⟨x :: l',⟨_,_,rfl,x1,l1⟩,_,_,rfl,x2,l2⟩
 | .int k n :: l,_,ho,⟨v,r,e,c1,c2⟩=>by
  subst e
  obtain ⟨l',l1,l2⟩:=ccb7 (l:=l) hT hr ho c2
  exact ⟨_ :: l',⟨_,_,rfl,rfl,l1⟩,_,_,rfl,c1,l2⟩
 | .bool b :: l,_,ho,⟨v,r,e,c1,c2⟩=>by
  subst e
  obtain ⟨l',l1,l2⟩:=ccb7 (l:=l) hT hr ho c2
  exact ⟨_ :: l',⟨_,_,rfl,rfl,l1⟩,_,_,rfl,c1,l2⟩
 | .nils :: l,_,ho,⟨v,r,e,c1,c2⟩=>by
  subst e
  obtain ⟨l',l1,l2⟩:=ccb7 (l:=l) hT hr ho c2
  exact ⟨_ :: l',⟨_,_,rfl,rfl,l1⟩,_,_,rfl,c1,l2⟩
def hcc7 (d:Nat) (post:RV → Prop) (r:RV) (_:List Root):Prop := ∃ l,r = .agg l ∧ okW d l = true ∧ ∀ l',RdL d l l' → ∃ l2,cyb7 l' l2 ∧ post (.agg l2)
end
abbrev I6 (n:Int):AV := .int .i64 n
def ix2 (a b:AV):Nat → AV
 | 0=>a
 | _=>b
def ix3 (a b c:AV):Nat → AV
 | 0=>a
 | 1=>b
 | _=>c
def ix4 (a b c d:AV):Nat → AV
 | 0=>a
 | 1=>b
 | 2=>c
 | _=>d
abbrev bi7 (l:List Int):AV := .sl l.length 1 (fun i _=>I6 (l.getD i 0))
def jdc7 (x:ba7) (i:Nat):jjb7:=x.sats.getD i ⟨0,0⟩
def lac7 (x:ba7) (i:Nat):eo7:=x.custs.getD i ⟨0,0,0,0⟩
abbrev nbc7 (x:ba7):AV := .sl x.sats.length 2 (fun i=>ix2 (I6 (jdc7 x i).room) (I6 (jdc7 x i).hold))
abbrev rxb7 (x:ba7):AV := .sl x.custs.length 4 (fun i=>ix4 (I6 (lac7 x i).load) (I6 (lac7 x i).opn) (I6 (lac7 x i).cls) (I6 (lac7 x i).stay))
abbrev ebc7 (n:Nat) (f:Nat → Nat → Int):AV := .sl n 1 (fun i _ => .sl n 1 (fun j _=>I6 (f i j)))
def oqb7 (x:ba7) (i j:Nat):Int:=(x.cost.getD i []).getD j 0
def kob7 (x:ba7) (i j:Nat):Int:=(x.time.getD i []).getD j 0
theorem uub7 (x:ba7) (a b:Int):kob7 x a.toNat b.toNat = va7 x a b:=rfl
theorem npb7 (x:ba7) (a:Int):kob7 x a.toNat 0 = va7 x a 0:=rfl
theorem vrb7 (x:ba7) (b:Int):kob7 x 0 b.toNat = va7 x 0 b:=rfl
theorem asb7 (x:ba7):kob7 x 0 0 = va7 x 0 0:=rfl
def qf7 (x:ba7):List AV:=[I6 x.fin,I6 x.tmany,I6 x.troom,I6 x.bmany,I6 x.broom,nbc7 x,rxb7 x,ebc7 (nodes x) (oqb7 x),ebc7 (nodes x) (kob7 x)]
def tc7 (p:sa7) (i:Nat):List da7:=p.trucks.getD i []
def sc7 (p:sa7) (i:Nat):pa7:=p.bikes.getD i ⟨0,[]⟩
def stN (l:List da7) (i:Nat):da7:=l.getD i ⟨0,0⟩
abbrev cu7 (l:List da7):AV := .sl l.length 2 (fun i=>ix2 (I6 (stN l i).sat) (I6 (stN l i).load))
def if7 (p:sa7):List AV:=[.sl p.trucks.length 1 (fun i _=>cu7 (tc7 p i)), .sl p.bikes.length 2 (fun i=>ix2 (I6 (sc7 p i).sat) (bi7 (sc7 p i).stops))]
def yo7 (t:qb7) (i:Nat):List Int:=t.trucks.getD i []
def yk7 (t:qb7) (i:Nat):zc7:=t.bikes.getD i ⟨0,[],0⟩
def dd7 (t:qb7):List AV:=[.sl t.trucks.length 1 (fun i _=>bi7 (yo7 t i)), .sl t.bikes.length 3 (fun i=>ix3 (I6 (yk7 t i).out) (bi7 (yk7 t i).starts) (I6 (yk7 t i).back))]
theorem zjb7 (x:ba7) (a:Int):(jdc7 x a.toNat).hold = od7 x a:=rfl
theorem gqb7 (x:ba7) (a:Int):lac7 x a.toNat = tb7 x a:=rfl
theorem tdc7 (p:Prop) [Decidable p]:(decide p = true) = p:=by simp
theorem ldc7 (p:Prop) [Decidable p]:(decide p = false) = ¬ p:=by simp
attribute [go_sem ↓ low] tec7
attribute [go_sem ↓] ndc7 jfc7 xzb7 pbc7 hxb7 tcc7 ayb7 fvb7 qac7 mbc7 rec7 eec7 kdc7 iac7 kec7
attribute [go_sem] tbc7 jbc7 ncc7 hdc7 qcc7 cbc7 aec7 yac7 appW zW ckE adc7 bac7 acc7 edc7 svb7 iyb7 rdc7 List.drop_nil Option.toList_none Option.toList_some mcc7 qxb7 kfc7 sbc7 ljb7 Option.map_some Option.map_none List.drop_zero List.drop_succ_cons zdc7 renG leb7 sfb7 cr7 vvb7 qzb7 gvb7 opb7 oac7 hpb7 ryb7 jec7 pzb7 xvb7 pwb7 vzb7 uvb7 nvb7 wub7 bcc7 odc7 wcc7 ycc7 ubc7 cdc7 ojb7 fwb7 vqb7 pos okI List.cons_append List.replicate_succ List.replicate_zero lpK ydc7 Int.toNat_zero uub7 npb7 vrb7 asb7 zjb7 gqb7 tdc7 ldc7 Bool.and_eq_true Bool.not_eq_true' and_imp setT fxT gets ul7 sw7 gxb7 qfb7 whb7 AV.scp List.take_succ_cons List.take_zero List.take_nil bdc7 jac7 yxb7 zzb7 kwb7 ybc7 itb7 utb7 lbc7 pac7 exb7 dcc7 hyb7 udc7 t_n t_e t_r b_n b_e b_r c_t r_r r_n isV guardOf hib7 pgs rgs rds opV idc7 AS.rd lk awb7 zcc7 ecc7 gdc7 xcc7 bd7 sdb7 ibc7 vld at2 efb7 ea7 tab Row.get Row.len Row.isBox nth ycb7 gyb7 nyb7 wa7 ddc7 unV jlb7 mmV gh7 mmb7 zac7 bxb7 sy7 qmb7 Row.put pat jkb7 eb7 gbc7 chunk takeN ajb7 rep nr7 qu7 rp7 xrb7 zOk zeros iwb7 wh7 Row.app Row.drop lh7 uqb7 ss7 frz frzH Root.mark rw7 eac7 one rcc7 wyb7 okT okR gnb7 abc7 wxb7 bt7 nl7 seb7 bpb7 nwb7 mvb7 opD nxb7 ix2 ix3 ix4 Int.toNat_natCast tyM fdc7 njL AV.nj kN inK wbc7 kbc7 if_true if_false true_and and_true forall_const implies_true false_implies imp_self List.length_cons List.length_nil List.map_cons List.map_nil List.nil_append List.cons_append Bool.false_eq_true Bool.true_and ne_eq not_false_eq_true decide_true decide_false Decidable.not_not Nat.add_zero Nat.zero_add Nat.zero_mul
def Fwd {α:Type} (S:Shape α) (e:α → Nat → AV):Prop := ∀ {w:World} {F:Nat → Prop} {x:α} {cs:List Value},S.rep w F x cs → ∀ j,j < S.sz → ∃ u,cs[j]? = some u ∧ jf7 F w (e x j) u
def Bwd {α:Type} (S:Shape α) (e:α → Nat → AV) (ok:α → Prop):Prop := ∀ {w:World} {F:Nat → Prop} {x:α} {cs:List Value},cs.length = S.sz → (∀ j,j < S.sz → ∃ u,cs[j]? = some u ∧ jf7 F w (e x j) u) → ok x → S.rep w F x cs
theorem ht7 {α:Type} {l:List α} {i:Nat} (h:i < l.length) (z:α):l.getD i z = l[i]:=by
 rw [List.getD_eq_getElem?_getD,List.getElem?_eq_getElem h]; rfl
section
variable {α:Type} {S:Shape α} {h0:0 < S.sz} {e:α → Nat → AV} {ok:α → Prop} {w:World} {F:Nat → Prop}
theorem fs (z:α) (hS:Fwd S e) {l:List α} {v:Value} (h:(la7 S h0).rep w F l [v]):jf7 F w (.sl l.length S.sz (fun i=>e (l.getD i z))) v:=by
 obtain ⟨a,b,off,c,e1,h1,h2,h3,h4⟩:=h
 cases e1
 refine ⟨a,b,off,c,rfl,h1,h2,h3,fun i hi j hj => ?_⟩
 obtain ⟨es,k1,k2⟩:=h4 i hi
 obtain ⟨u,k3,k4⟩:=hS k1 j hj
 show ∃ u,_ = some u ∧ jf7 F w (e (l.getD i z) j) u
 rw [ht7 hi]
 exact ⟨u,by rw [k2 j hj,k3],k4⟩
theorem qdb7:∀ (n:Nat) {p:Nat → Value → Prop},(∀ j,j < n → ∃ u,p j u) → ∃ es:List Value,es.length = n ∧ ∀ j u,es[j]? = some u → p j u
 | 0,_,_=>⟨[],rfl,fun _ _ h=>by simp at h⟩
 | n + 1,p,h=>by
  obtain ⟨u,hu⟩:=h 0 (Nat.succ_pos _)
  obtain ⟨es,h1,h2⟩:=qdb7 n (p:=fun j=>p (j + 1)) (fun j hj=>h (j + 1) (by omega))
  refine ⟨u :: es,by simp [h1],fun j v hj => ?_⟩
  cases j with
  | zero=>simp at hj; subst hj; exact hu
  | succ j=>exact h2 j v (by simpa using hj)
theorem bs (z:α) (hS:Bwd S e ok) {l:List α} {v:Value} (h:jf7 F w (.sl l.length S.sz (fun i=>e (l.getD i z))) v) (ho:∀ x ∈ l,ok x):(la7 S h0).rep w F l [v]:=by
 obtain ⟨a,b,off,c,rfl,h1,h2,h3,h4⟩:=h
 refine ⟨a,b,off,c,rfl,h1,h2,h3,fun i hi => ?_⟩
 obtain ⟨es,k1,k2⟩:=qdb7 S.sz (h4 i hi)
 have k3:∀ j,j < S.sz → w.cell? ⟨b,off + i * S.sz + j,none⟩ = es[j]? ∧ ∃ u,es[j]? = some u ∧ jf7 F w (e l[i] j) u:=fun j hj=>by
  have hg:es[j]? = some es[j]:=List.getElem?_eq_getElem (by omega)
  obtain ⟨k4,k5⟩:=k2 j _ hg
  have k5:jf7 F w (e (l.getD i z) j) es[j]:=k5
  rw [ht7 hi] at k5
  exact ⟨by rw [k4,hg],_,hg,k5⟩
 exact ⟨es,hS k1 (fun j hj=>(k3 j hj).2) (ho _ (List.getElem_mem hi)),fun j hj=>(k3 j hj).1⟩
theorem oyb7 (z:α) (hS:Fwd S e):Fwd (la7 S h0) (fun l _ => .sl l.length S.sz (fun i=>e (l.getD i z))):=by
 intro w F x cs h j hj
 have hl:=(la7 S h0).len h
 match cs,hl with
 | [v],_ =>
  have hj:j < 1:=hj
  obtain rfl:j = 0:=by omega
  exact ⟨v,rfl,fs z hS h⟩
theorem lsb7 (z:α) (hS:Bwd S e ok):Bwd (la7 S h0) (fun l _ => .sl l.length S.sz (fun i=>e (l.getD i z))) (fun l => ∀ x ∈ l,ok x):=by
 intro w F x cs hl h ho
 match cs,hl with
 | [v],_ =>
  obtain ⟨u,h1,h2⟩:=h 0 Nat.one_pos
  cases h1
  exact bs z hS h2 ho
end
theorem cac7:Fwd ig7 (fun x _=>I6 x):=by
 rintro w F x cs ⟨rfl, -⟩ j hj
 have hj:j < 1:=hj
 obtain rfl:j = 0:=by omega
 exact ⟨_,rfl,rfl⟩
theorem nrb7:Bwd ig7 (fun x _=>I6 x) ua7:=by
 intro w F x cs hl h ho
 obtain ⟨u,h1,h2⟩:=h 0 Nat.one_pos
 match cs,hl with
 | [v],_=>cases h1; exact ⟨by rw [show u = .int .i64 x from h2],ho⟩
theorem gec7:Fwd u8S (fun x _ => .int .u8 x):=by
 rintro w F x cs ⟨rfl, -⟩ j hj
 have hj:j < 1:=hj
 obtain rfl:j = 0:=by omega
 exact ⟨_,rfl,rfl⟩
theorem xec7:Bwd u8S (fun x _ => .int .u8 x) (fun x=>0 ≤ x ∧ x ≤ 255):=by
 intro w F x cs hl h ho
 obtain ⟨u,h1,h2⟩:=h 0 Nat.one_pos
 match cs,hl with
 | [v],_=>cases h1; exact ⟨by rw [show u = .int .u8 x from h2],ho⟩
theorem occ7:Fwd cxb7 (fun x=>ix2 (I6 x.room) (I6 x.hold)):=by
 rintro w F x cs ⟨rfl, -⟩ j hj
 have hj:j < 2:=hj
 match j,hj with
 | 0,_=>exact ⟨_,rfl,rfl⟩
 | 1,_=>exact ⟨_,rfl,rfl⟩
theorem hac7:Fwd ci7 (fun x=>ix2 (I6 x.sat) (I6 x.load)):=by
 rintro w F x cs ⟨rfl, -⟩ j hj
 have hj:j < 2:=hj
 match j,hj with
 | 0,_=>exact ⟨_,rfl,rfl⟩
 | 1,_=>exact ⟨_,rfl,rfl⟩
theorem azb7:Fwd vfb7 (fun x=>ix4 (I6 x.load) (I6 x.opn) (I6 x.cls) (I6 x.stay)):=by
 rintro w F x cs ⟨rfl, -⟩ j hj
 have hj:j < 4:=hj
 match j,hj with
 | 0,_=>exact ⟨_,rfl,rfl⟩
 | 1,_=>exact ⟨_,rfl,rfl⟩
 | 2,_=>exact ⟨_,rfl,rfl⟩
 | 3,_=>exact ⟨_,rfl,rfl⟩
theorem jxb7:Fwd tp7 (fun x=>ix2 (I6 x.sat) (bi7 x.stops)):=by
 rintro w F x cs ⟨v,rfl, -,h⟩ j hj
 have hj:j < 2:=hj
 match j,hj with
 | 0,_=>exact ⟨_,rfl,rfl⟩
 | 1,_=>exact ⟨_,rfl,fs 0 cac7 h⟩
theorem aqb7 {a b:AV} {w:World} {F:Nat → Prop} {cs:List Value} (hl:cs.length = 2) (h:∀ j,j < 2 → ∃ u,cs[j]? = some u ∧ jf7 F w (ix2 a b j) u):∃ u v,cs = [u,v] ∧ jf7 F w a u ∧ jf7 F w b v:=by
 match cs,hl with
 | [u,v],_ =>
  obtain ⟨u',h1,h2⟩:=h 0 (by decide)
  obtain ⟨v',h3,h4⟩:=h 1 (by decide)
  cases h1; cases h3
  exact ⟨_,_,rfl,h2,h4⟩
def jzb7 (x:jjb7):Prop:=ua7 x.room ∧ ua7 x.hold
def yg7 (x:da7):Prop:=ua7 x.sat ∧ ua7 x.load
def hsb7 (x:eo7):Prop:=ua7 x.load ∧ ua7 x.opn ∧ ua7 x.cls ∧ ua7 x.stay
def ctb7 (x:pa7):Prop:=ua7 x.sat ∧ ∀ c ∈ x.stops,ua7 c
def eob7 (x:zc7):Prop:=ua7 x.out ∧ ua7 x.back ∧ ∀ c ∈ x.starts,ua7 c
theorem vbc7:Bwd cxb7 (fun x=>ix2 (I6 x.room) (I6 x.hold)) jzb7:=by
 intro w F x cs hl h ho
 obtain ⟨u,v,rfl,h1,h2⟩:=aqb7 hl h
 exact ⟨by rw [show u = .int .i64 x.room from h1,show v = .int .i64 x.hold from h2],ho⟩
theorem gac7:Bwd ci7 (fun x=>ix2 (I6 x.sat) (I6 x.load)) yg7:=by
 intro w F x cs hl h ho
 obtain ⟨u,v,rfl,h1,h2⟩:=aqb7 hl h
 exact ⟨by rw [show u = .int .i64 x.sat from h1,show v = .int .i64 x.load from h2],ho⟩
theorem hzb7:Bwd vfb7 (fun x=>ix4 (I6 x.load) (I6 x.opn) (I6 x.cls) (I6 x.stay)) hsb7:=by
 intro w F x cs hl h ho
 match cs,hl with
 | [a,b,c,d],_ =>
  obtain ⟨a',h1,h2⟩:=h 0 (by decide)
  obtain ⟨b',h3,h4⟩:=h 1 (by decide)
  obtain ⟨c',h5,h6⟩:=h 2 (by decide)
  obtain ⟨d',h7,h8⟩:=h 3 (by decide)
  cases h1; cases h3; cases h5; cases h7
  exact ⟨by rw [show a = .int .i64 x.load from h2,show b = .int .i64 x.opn from h4,show c = .int .i64 x.cls from h6,show d = .int .i64 x.stay from h8],ho⟩
theorem mwb7:Bwd tp7 (fun x=>ix2 (I6 x.sat) (bi7 x.stops)) ctb7:=by
 intro w F x cs hl h ho
 obtain ⟨u,v,rfl,h1,h2⟩:=aqb7 hl h
 exact ⟨v,by rw [show u = .int .i64 x.sat from h1],ho.1,bs 0 nrb7 h2 ho.2⟩
theorem rac7:Bwd vw7 (fun x=>ix3 (I6 x.out) (bi7 x.starts) (I6 x.back)) eob7:=by
 intro w F x cs hl h ho
 match cs,hl with
 | [a,b,c],_ =>
  obtain ⟨a',h1,h2⟩:=h 0 (by decide)
  obtain ⟨b',h3,h4⟩:=h 1 (by decide)
  obtain ⟨c',h5,h6⟩:=h 2 (by decide)
  cases h1; cases h3; cases h5
  exact ⟨b,by rw [show a = .int .i64 x.out from h2,show c = .int .i64 x.back from h6],ho.1,ho.2.1,bs 0 nrb7 h4 ho.2.2⟩
section
variable {w:World} {F:Nat → Prop}
def hwb7 (n:Nat) (l:List (List Int)):Prop:=l.length = n ∧ ∀ r ∈ l,r.length = n
theorem nac7 {n:Nat} {l:List (List Int)} {v:Value} (hq:hwb7 n l) (h:kh7.rep w F l [v]):jf7 F w (ebc7 n (fun i j=>(l.getD i []).getD j 0)) v:=by
 obtain ⟨a,b,off,c,e1,h1,h2,h3,h4⟩:=h
 cases e1
 refine ⟨a,b,off,c,by rw [hq.1],by rw [← hq.1]; exact h1,h2,by rw [← hq.1]; exact h3,fun i hi j hj => ?_⟩
 have hi':i < l.length:=by rw [hq.1]; exact hi
 obtain rfl:j = 0:=by omega
 obtain ⟨es,k1,k2⟩:=h4 i hi'
 have hl:=(la7 ig7).len k1
 match es,hl with
 | [u],_ =>
  refine ⟨u,by simpa [la7] using k2 0 Nat.one_pos, ?_⟩
  have:=fs 0 cac7 k1
  rw [hq.2 _ (List.getElem_mem hi')] at this
  show jf7 F w (.sl n 1 (fun j _=>I6 ((l.getD i []).getD j 0))) u
  rw [ht7 hi']
  exact this
theorem ixb7 {n:Nat} {l:List (List Int)} {v:Value} (hq:hwb7 n l) (hw:∀ r ∈ l, ∀ x ∈ r,ua7 x) (h:jf7 F w (ebc7 n (fun i j=>(l.getD i []).getD j 0)) v):kh7.rep w F l [v]:=by
 obtain ⟨a,b,off,c,rfl,h1,h2,h3,h4⟩:=h
 refine ⟨a,b,off,c,by rw [hq.1],by rw [hq.1]; exact h1,h2,by rw [hq.1]; exact h3,fun i hi => ?_⟩
 have hi':i < n:=by rw [← hq.1]; exact hi
 obtain ⟨u,k1,k2⟩:=h4 i hi' 0 Nat.one_pos
 have k2:jf7 F w (.sl n 1 (fun j _=>I6 ((l.getD i []).getD j 0))) u:=k2
 rw [ht7 hi, ← hq.2 _ (List.getElem_mem hi)] at k2
 refine ⟨[u],bs 0 nrb7 k2 (hw _ (List.getElem_mem hi)),fun j hj => ?_⟩
 have hj:j < 1:=hj
 obtain rfl:j = 0:=by omega
 exact k1
structure etb7 (x:ba7):Prop where
 i5:ua7 x.fin ∧ ua7 x.tmany ∧ ua7 x.troom ∧ ua7 x.bmany ∧ ua7 x.broom
 sats:∀ s ∈ x.sats,jzb7 s
 custs:∀ c ∈ x.custs,hsb7 c
 cost:∀ r ∈ x.cost, ∀ v ∈ r,ua7 v
 time:∀ r ∈ x.time, ∀ v ∈ r,ua7 v
 sqc:hwb7 (nodes x) x.cost
 sqt:hwb7 (nodes x) x.time
theorem byb7 {x:ba7} {cs:List Value} (h:cb7.rep w F x cs) (h1:hwb7 (nodes x) x.cost) (h2:hwb7 (nodes x) x.time):ue7 F w (qf7 x) cs:=by
 obtain ⟨s,c,co,ti,rfl, -,k1,k2,k3,k4⟩:=h
 exact ⟨_,_,rfl,rfl,_,_,rfl,rfl,_,_,rfl,rfl,_,_,rfl,rfl,_,_,rfl,rfl,_,_,rfl,fs _ occ7 k1,_,_,rfl,fs _ azb7 k2,_,_,rfl,nac7 h1 k3,_,_,rfl,nac7 h2 k4,rfl⟩
theorem xlb7 {x:ba7} {cs:List Value} (h:ue7 F w (qf7 x) cs) (ok:etb7 x):cb7.rep w F x cs:=by
 obtain ⟨_,_,rfl,rfl,_,_,rfl,rfl,_,_,rfl,rfl,_,_,rfl,rfl,_,_,rfl,rfl,s,_,rfl,k1,c,_,rfl,k2,co,_,rfl,k3,ti,_,rfl,k4,rfl⟩:=h
 exact ⟨s,c,co,ti,rfl,ok.i5,bs _ vbc7 k1 ok.sats,bs _ hzb7 k2 ok.custs,ixb7 ok.sqc ok.cost k3,ixb7 ok.sqt ok.time k4⟩
theorem qtb7:Fwd (la7 ci7) (fun l _=>cu7 l):=oyb7 (e:=fun x=>ix2 (I6 x.sat) (I6 x.load)) (⟨0,0⟩:da7) hac7
theorem iub7:Bwd (la7 ci7) (fun l _=>cu7 l) (fun l => ∀ s ∈ l,yg7 s):=lsb7 (e:=fun x=>ix2 (I6 x.sat) (I6 x.load)) (⟨0,0⟩:da7) gac7
theorem lwb7:Bwd (la7 ig7) (fun l _=>bi7 l) (fun l => ∀ s ∈ l,ua7 s):=lsb7 (e:=fun x _=>I6 x) (0:Int) nrb7
structure dx7 (p:sa7):Prop where
 trucks:∀ t ∈ p.trucks, ∀ s ∈ t,yg7 s
 bikes:∀ b ∈ p.bikes,ctb7 b
theorem fzb7 {p:sa7} {cs:List Value} (h:vd7.rep w F p cs):ue7 F w (if7 p) cs:=by
 obtain ⟨t,b,rfl,h1,h2⟩:=h
 have k1:=fs (e:=fun l _=>cu7 l) [] qtb7 h1
 have k2:=fs (e:=fun x=>ix2 (I6 x.sat) (bi7 x.stops)) (⟨0,[]⟩:pa7) jxb7 h2
 exact ⟨_,_,rfl,k1,_,_,rfl,k2,rfl⟩
theorem tob7 {p:sa7} {cs:List Value} (h:ue7 F w (if7 p) cs) (ok:dx7 p):vd7.rep w F p cs:=by
 obtain ⟨t,_,rfl,h1,b,_,rfl,h2,rfl⟩:=h
 exact ⟨t,b,rfl,bs (e:=fun l _=>cu7 l) [] iub7 h1 ok.trucks,bs (e:=fun (x:pa7)=>ix2 (I6 x.sat) (bi7 x.stops)) (⟨0,[]⟩:pa7) mwb7 h2 ok.bikes⟩
structure bu7 (t:qb7):Prop where
 trucks:∀ l ∈ t.trucks, ∀ v ∈ l,ua7 v
 bikes:∀ r ∈ t.bikes,eob7 r
theorem wtb7 {t:qb7} {cs:List Value} (h:ue7 F w (dd7 t) cs) (ok:bu7 t):lg7.rep w F t cs:=by
 obtain ⟨a,_,rfl,h1,b,_,rfl,h2,rfl⟩:=h
 exact ⟨a,b,rfl,bs (e:=fun l _=>bi7 l) [] lwb7 h1 ok.trucks,bs (e:=fun (x:zc7)=>ix3 (I6 x.out) (bi7 x.starts) (I6 x.back)) (⟨0,[],0⟩:zc7) rac7 h2 ok.bikes⟩
end
abbrev zt7 (l:List Int):AV := .sl l.length 1 (fun i _ => .int .u8 (l.getD i 0))
def lsN (x:wb7) (i:Nat):lpb7:=x.sats.getD i ⟨0,0⟩
def lwN (x:wb7) (i:Nat):pnb7:=x.custs.getD i ⟨0,0,0,0⟩
def scb7 (x:wb7):List AV:=[.int .u8 x.fin, .int .u8 x.trucks, .int .u8 x.troom, .int .u8 x.bikes, .int .u8 x.broom, .sl x.sats.length 2 (fun i=>ix2 (.int .u8 (lsN x i).room) (.int .u8 (lsN x i).hold)),
 .sl x.custs.length 4 (fun i=>ix4 (.int .u8 (lwN x i).load) (.int .u8 (lwN x i).opn) (.int .u8 (lwN x i).wide) (.int .u8 (lwN x i).stay)),zt7 x.cost,zt7 x.time, .bool x.tight, .bool x.loose]
def hnb7 (x:uf7):List AV:=[zt7 x.sats,zt7 x.order,zt7 x.cuts]
def B8 (l:List Int):Prop := ∀ v ∈ l,0 ≤ v ∧ v ≤ 255
structure SmallK (x:wb7):Prop where
 wf:so7 x
 cost:B8 x.cost
 time:B8 x.time
structure xpb7 (x:uf7):Prop where
 sats:B8 x.sats
 order:B8 x.order
 cuts:B8 x.cuts
section
variable {w:World} {F:Nat → Prop}
theorem aac7:Fwd hfb7 (fun x=>ix2 (.int .u8 x.room) (.int .u8 x.hold)):=by
 rintro w F x cs ⟨rfl, -⟩ j hj
 have hj:j < 2:=hj
 match j,hj with
 | 0,_=>exact ⟨_,rfl,rfl⟩
 | 1,_=>exact ⟨_,rfl,rfl⟩
theorem uwb7:Bwd hfb7 (fun x=>ix2 (.int .u8 x.room) (.int .u8 x.hold)) (fun x=>wf8 x.room ∧ wf8 x.hold):=by
 intro w F x cs hl h ho
 obtain ⟨u,v,rfl,h1,h2⟩:=aqb7 hl h
 exact ⟨by rw [show u = .int .u8 x.room from h1,show v = .int .u8 x.hold from h2],ho⟩
theorem yyb7:Fwd tab7 (fun x=>ix4 (.int .u8 x.load) (.int .u8 x.opn) (.int .u8 x.wide) (.int .u8 x.stay)):=by
 rintro w F x cs ⟨rfl, -⟩ j hj
 have hj:j < 4:=hj
 match j,hj with
 | 0,_=>exact ⟨_,rfl,rfl⟩
 | 1,_=>exact ⟨_,rfl,rfl⟩
 | 2,_=>exact ⟨_,rfl,rfl⟩
 | 3,_=>exact ⟨_,rfl,rfl⟩
theorem yzb7:Bwd tab7 (fun x=>ix4 (.int .u8 x.load) (.int .u8 x.opn) (.int .u8 x.wide) (.int .u8 x.stay)) (fun x=>wf8 x.load ∧ wf8 x.opn ∧ wf8 x.wide ∧ wf8 x.stay):=by
 intro w F x cs hl h ho
 match cs,hl with
 | [a,b,c,d],_ =>
  obtain ⟨a',h1,h2⟩:=h 0 (by decide)
  obtain ⟨b',h3,h4⟩:=h 1 (by decide)
  obtain ⟨c',h5,h6⟩:=h 2 (by decide)
  obtain ⟨d',h7,h8⟩:=h 3 (by decide)
  cases h1; cases h3; cases h5; cases h7
  exact ⟨by rw [show a = .int .u8 x.load from h2,show b = .int .u8 x.opn from h4,show c = .int .u8 x.wide from h6,show d = .int .u8 x.stay from h8],ho⟩
theorem pu7 {l:List Int} {v:Value} (h:cd7.rep w F l [v]):jf7 F w (zt7 l) v:=fs (e:=fun x _ => .int .u8 x) (0:Int) gec7 h
theorem ru7 {l:List Int} {v:Value} (h:jf7 F w (zt7 l) v) (ho:B8 l):cd7.rep w F l [v]:=bs (e:=fun (x:Int) _ => .int .u8 x) (0:Int) xec7 h ho
theorem ivb7 {x:wb7} {cs:List Value} (h:bp7.rep w F x cs):ue7 F w (scb7 x) cs:=by
 obtain ⟨s,c,co,ti,rfl, -,k1,k2,k3,k4⟩:=h
 have e1:=fs (e:=fun (x:lpb7)=>ix2 (.int .u8 x.room) (.int .u8 x.hold)) (⟨0,0⟩:lpb7) aac7 k1
 have e2:=fs (e:=fun (x:pnb7)=>ix4 (.int .u8 x.load) (.int .u8 x.opn) (.int .u8 x.wide) (.int .u8 x.stay)) (⟨0,0,0,0⟩:pnb7) yyb7 k2
 exact ⟨_,_,rfl,rfl,_,_,rfl,rfl,_,_,rfl,rfl,_,_,rfl,rfl,_,_,rfl,rfl,_,_,rfl,e1,_,_,rfl,e2,_,_,rfl,pu7 k3,_,_,rfl,pu7 k4,_,_,rfl,rfl,_,_,rfl,rfl,rfl⟩
theorem ovb7 {x:wb7} {cs:List Value} (h:ue7 F w (scb7 x) cs) (ok:SmallK x):bp7.rep w F x cs:=by
 obtain ⟨_,_,rfl,rfl,_,_,rfl,rfl,_,_,rfl,rfl,_,_,rfl,rfl,_,_,rfl,rfl,s,_,rfl,k1,c,_,rfl,k2,co,_,rfl,k3,ti,_,rfl,k4,_,_,rfl,rfl,_,_,rfl,rfl,rfl⟩:=h
 have e1:=bs (h0:=by decide) (e:=fun (x:lpb7)=>ix2 (.int .u8 x.room) (.int .u8 x.hold)) (⟨0,0⟩:lpb7) uwb7 k1 ok.wf.sats
 have e2:=bs (h0:=by decide) (e:=fun (x:pnb7)=>ix4 (.int .u8 x.load) (.int .u8 x.opn) (.int .u8 x.wide) (.int .u8 x.stay)) (⟨0,0,0,0⟩:pnb7) yzb7 k2 ok.wf.custs
 exact ⟨s,c,co,ti,rfl,⟨ok.wf.fin,ok.wf.trucks,ok.wf.troom,ok.wf.bikes,ok.wf.broom⟩,e1,e2,ru7 k3 ok.cost,ru7 k4 ok.time⟩
theorem dp7 {l:List Int} {cs:List Value} (h:cd7.rep w F l cs):B8 l:=by
 obtain ⟨_,_,_,_, -, -, -, -, -, -,hw⟩:=qe7 h
 exact hw
theorem ewb7 {x:wb7} {cs:List Value} (h:bp7.rep w F x cs):SmallK x:=by
 have:=trb7 h
 obtain ⟨s,c,co,ti,rfl, -,k1,k2,k3,k4⟩:=h
 exact ⟨this,dp7 k3,dp7 k4⟩
theorem pxb7 {x:uf7} {cs:List Value} (h:veb7.rep w F x cs):ue7 F w (hnb7 x) cs:=by
 obtain ⟨a,b,c,rfl,k1,k2,k3⟩:=h
 exact ⟨_,_,rfl,pu7 k1,_,_,rfl,pu7 k2,_,_,rfl,pu7 k3,rfl⟩
theorem sxb7 {x:uf7} {cs:List Value} (h:ue7 F w (hnb7 x) cs) (ok:xpb7 x):veb7.rep w F x cs:=by
 obtain ⟨a,_,rfl,k1,b,_,rfl,k2,c,_,rfl,k3,rfl⟩:=h
 exact ⟨a,b,c,rfl,ru7 k1 ok.sats,ru7 k2 ok.order,ru7 k3 ok.cuts⟩
theorem dac7 {x:uf7} {cs:List Value} (h:veb7.rep w F x cs):xpb7 x:=by
 obtain ⟨a,b,c,rfl,k1,k2,k3⟩:=h
 exact ⟨dp7 k1,dp7 k2,dp7 k3⟩
end
structure YOk (y:ba7):Prop where
 chk:check y = 0
 k:etb7 y
 ns:1 ≤ y.sats.length ∧ y.sats.length ≤ 3
 nc:1 ≤ y.custs.length ∧ y.custs.length ≤ 6
 ld:∀ c ∈ y.custs,1 ≤ c.load ∧ c.load ≤ 1000
 troom:1 ≤ y.troom
theorem tpb7 {x:ba7} (g:Good x) (h:xq7 x):etb7 x :=
 ⟨h.1,h.2.1,h.2.2.1,fun r hr=>(h.2.2.2.1 r hr).2,fun r hr=>(h.2.2.2.2 r hr).2,⟨g.costL,g.costR⟩,⟨g.timeL,g.timeR⟩⟩
theorem usb7 {s:wb7} (h:SmallK s):YOk (th7 s) :=
 ⟨ar7 h.wf,tpb7 (te7 (ar7 h.wf)) (keb7 h.wf),wm7 s,ll7 s,fun c hc=>(fhb7 h.wf c hc).1,aib7 h.wf⟩
section
variable {f:FuncId}
theorem en7 {P:Program} {args:List RV} {post:RV → Prop} (hE:Enters P f) (h:∀ (rho:Nat → Prop) (w:World) (vs:List Value),sf7 rho w args vs →
  Calls P f vs.toArray w fun e w' => ∃ r v,e = .returned v ∧ post r ∧ mk7 (fun b=>w.heap.size ≤ b ∧ b < w'.heap.size) w' r v ∧ Below w.heap.size w w'):zi7 P f args post :=
 ⟨hE,fun rho w vs _ hc=>(h rho w vs hc).mono fun e w' ⟨r,v,h1,h2,h3,h4⟩=>⟨r,v,_,h1,h2,h3,fun b hb => .inr hb,h4⟩⟩
end
theorem tzb7 {s:wb7} (h:SmallK s):zi7 Try.prog 7 [.agg (scb7 s)] (fun r=>r = .agg (qf7 (th7 s))) :=
 en7 ⟨_,_,Try.func7,by kernel_rfl,rfl⟩ fun rho w vs hc=>by
  obtain ⟨_,_,rfl,⟨cs,rfl,h1⟩,rfl⟩:=hc
  refine (ssb7 (ovb7 h1 h)).mono ?_
  rintro e w' ⟨ds,rfl,hi,hb⟩
  have k:=(usb7 h).k
  exact ⟨_,_,rfl,rfl,⟨_,rfl,byb7 (cb7.lt (hi.rep (keb7 h.wf))) k.sqc k.sqt⟩,hb⟩
theorem ngb7 {p:sa7} {w':World} {n:Nat} {tv bv:Value} {ts vs:List Value} {TT TS TB TI:Nat} (hT:ai7 TT TS w' n tv p.trucks ts) (hB:ji7 TB TI w' n bv p.bikes vs) (h:dx7 p):mk7 (fun b=>n ≤ b ∧ b < w'.heap.size) w' (.agg (if7 p)) (.agg #[tv,bv]) :=
 ⟨[tv,bv],rfl,fzb7 (vd7.lt ⟨tv,bv,rfl,hT.rep h.trucks,hB.rep h.bikes⟩)⟩
theorem bob7 {p:sa7} (h:pz7 p):dx7 p :=
 ⟨fun t ht s hs=>by have:=(h.ts t ht).2 s hs; unfold yg7 ua7; omega,fun b hb=>by
  have:=h.bs b hb
  exact ⟨by unfold ua7; omega,fun c hc=>by have:=this.2.2 c hc; unfold ua7; omega⟩⟩
theorem wvb7 {y:ba7} {wi:uf7} (h:YOk y) (hw:xpb7 wi):zi7 Try.prog 8 [.agg (qf7 y), .agg (hnb7 wi)] (fun r=>r = .agg (if7 (yh7 y wi))) :=
 en7 ⟨_,_,Try.func8,by kernel_rfl,rfl⟩ fun rho w vs hc=>by
  obtain ⟨_,_,rfl,⟨cs,rfl,h1⟩,_,_,rfl,⟨ds,rfl,h2⟩,rfl⟩:=hc
  have gd:=te7 h.chk
  refine (ntb7 (xlb7 h1 h.k) (sxb7 h2 hw) h.ns h.nc h.ld ⟨h.troom,gd.troom.2⟩ gd.broom).mono ?_
  rintro e w' ⟨tv,bv,ts,vs,rfl,hT,hB,hb⟩
  exact ⟨_,_,rfl,rfl,ngb7 hT hB (bob7 (si7 wi h.ns h.nc h.ld h.troom)),hb⟩
end Go.Proofs.Ytahffcepagopmaa.Ab
