/- Texts of the proof, joined: StrM, Parse1, ParseP, Words, Next, Frame, Reader, TruckR, BikeR, Clos, Parse1R. -/
import Derived.Recover
import Derived.Test.YtedahhjopmkbbaaGreatR6
set_option linter.all false
set_option maxRecDepth 100000
set_option maxHeartbeats 6400000
namespace Go.Proofs.YtedahhjopmkbbaaGreat.Ab
open Go.RowKit Go.Lib
theorem ggc7 {d:Int}(h0:0≤d) (h1:d<10):(ByteArray.mk #[48,49,50,51,52,53,54,55,56,57]).extract d.toNat (d+1).toNat=S [UInt8.ofNat (48+d.toNat)]:=by
 obtain⟨k,rfl⟩:∃k:Nat,d=k:=⟨d.toNat,by omega⟩
 have hk:k<10:=by omega
 have h:∀k:Fin 10,(ByteArray.mk #[48,49,50,51,52,53,54,55,56,57]).extract k.val (k.val+1)=S [UInt8.ofNat (48+k.val)]:=by decide +kernel
 have:=h ⟨k,hk⟩
 simpa[show ((k:Int)+1).toNat=k+1 by omega]using this
theorem sdb7 {n:Int}(hn:oa7 n):be7 Tryz.prog 15 [.c (I6 n)] (fun r=>r = .c (.str (S (itoa n)))):=by
 unfold oa7 at hn
 refine vc7 zb7 (by kernel_rfl) (fun _=>([],0,none)) Tryz.func15 rfl (by kernel_rfl) Tryz.ntmps15 (congrArg Array.toList Tryz.results15) (by kernel_rfl) (by simp) ?_
 simp -implicitDefEqProofs only [go_sem]
 refine ec7 (ι:=List UInt8×Int) [0] [3,4] (fun s=>decDigits n.natAbs=decDigits s.2.natAbs++s.1∧s.2.natAbs≤n.natAbs∧s.1.length≤30∧(n<0→s.2≤0)∧(0≤n→0≤s.2)) (fun s=>[.c (.str (S s.1)),.c (I6 s.2)]) (fun _=>_) (fun s=>s.2.natAbs) (by kernel_rfl) ⟨([],n),⟨by simp,by simp,by simp,fun h=>Int.le_of_lt h,fun h=>h⟩,rfl,rfl⟩ (fun s _=>⟨rfl,rfl,rfl,rfl⟩) ?_
 rintro⟨ds,k⟩ ⟨hd,hk,hl,hs1,hs2⟩
 simp only at hd hk hl hs1 hs2
 have hq1:(k.tmod 10).natAbs=k.natAbs % 10:=by rw[Int.natAbs_tmod];rfl
 have hq2:(k.tdiv 10).natAbs=k.natAbs / 10:=by rw[Int.natAbs_tdiv];rfl
 have hq3:k≤0→k.tdiv 10≤0:=fun h=>by
  have:=Int.tdiv_nonneg (a:=-k) (b:=10) (by omega) (by decide)
  rw[Int.neg_tdiv]at this;omega
 have hq4:0≤k→0≤k.tdiv 10:=fun h=>Int.tdiv_nonneg h (by decide)
 have hdl:(decDigits n.natAbs).length≤20:=by rw[decDigits_length];exact nDigits_le20 _ (by omega)
 have hdk:=es7 k.natAbs
 have hlen:=congrArg List.length hd
 rw[List.length_append]at hlen
 have hsm:k.natAbs<10→decDigits n.natAbs=UInt8.ofNat (48+k.natAbs % 10)::ds:=fun h=>by rw[hd,bk7 h];rfl
 have hbg:¬k.natAbs<10→decDigits n.natAbs=decDigits (k.natAbs / 10)++(UInt8.ofNat (48+k.natAbs % 10)::ds):=fun h=>by rw[hd,xx7 h,List.append_assoc];rfl
 have hit:itoa n=if n<0 then 45::decDigits n.natAbs else decDigits n.natAbs:=by
  unfold itoa
  split
  ·rfl
  ·rw[show n.toNat=n.natAbs by omega]
 have key:∀d:Int,0≤d→d.natAbs=k.natAbs % 10→(ByteArray.mk #[48,49,50,51,52,53,54,55,56,57]).extract d.toNat (d+1).toNat=S [UInt8.ofNat (48+k.natAbs % 10)]:=fun d h0 h1=>by
  rw[ggc7 h0 (by omega),show d.toNat=k.natAbs % 10 by omega]
 generalize hb:UInt8.ofNat (48+k.natAbs % 10)=b at hsm hbg key
 simp -implicitDefEqProofs only [go_sem]
 generalize k.tmod 10=r at hq1
 generalize k.tdiv 10=q at hq2 hq3 hq4
 refine⟨by decide,fun h=>?_,fun h=>?_⟩
 ·rw[key (-r) (by omega) (by omega),em7,show (S [b]).size=1 from rfl]
  refine⟨⟨by omega,by omega⟩,⟨by omega,by omega⟩,⟨by omega,by omega,by simp;omega⟩,by simp;omega,⟨by decide,by omega,by omega⟩,fun h2=>⟨fun h3=>⟨by simp;omega, ?_⟩,fun h3=>?_⟩,fun h2=>⟨⟨by decide,by omega,by omega⟩,(b::ds,q),⟨?_,by simp only;omega,by simp;omega,fun h=>hq3 (hs1 h),fun h=>hq4 (hs2 h)⟩,rfl,by simp only;omega⟩⟩
  ·rw[hit,if_pos h3,hsm (by omega)]
   simp[em7]
  ·rw[hit,if_neg h3,hsm (by omega)];rfl
  ·simp only;rw[hq2];exact hbg (by omega)
 ·rw[key r (by omega) (by omega),em7,show (S [b]).size=1 from rfl]
  refine⟨⟨by omega,by omega⟩,⟨by omega,by omega,by simp;omega⟩,by simp;omega,⟨by decide,by omega,by omega⟩,fun h2=>⟨fun h3=>⟨by simp;omega, ?_⟩,fun h3=>?_⟩,fun h2=>⟨⟨by decide,by omega,by omega⟩,(b::ds,q),⟨?_,by simp only;omega,by simp;omega,fun h=>hq3 (hs1 h),fun h=>hq4 (hs2 h)⟩,rfl,by simp only;omega⟩⟩
  ·rw[hit,if_pos h3,hsm (by omega)]
   simp[em7]
  ·rw[hit,if_neg h3,hsm (by omega)];rfl
  ·simp only;rw[hq2];exact hbg (by omega)
theorem bbb7 {nm:List UInt8}{l:List Int}(hn:nm.length≤1000) (hl:l.length≤100000) (hw:∀n∈l,oa7 n):be7 Tryz.prog 35 [.c (.str (S nm)),.c (ld7 l)] (fun r=>r = .c (.str (S (xf7 nm l)))) :=
 qj7 ⟨_,_,Tryz.func35,by kernel_rfl,rfl⟩ fun rho w vs hc=>by
  obtain⟨_,_,rfl,rfl,v,_,rfl,h1,rfl⟩:=hc
  refine (yqc7 (bs 0 ryb7 h1 hw) hn hl).mono ?_
  rintro e w' ⟨rfl,hb⟩
  exact⟨_,_,rfl,rfl,rfl,hb⟩
theorem jpb7 {l:List Int}(h:∀n∈l,oa7 n) (i:Nat):oa7 (l.getD i 0):=ih7 (P:=oa7) h w0 i
theorem zr7 {l:List Int}(hl:l.length≤100000) (hw:∀n∈l,oa7 n):be7 Tryz.prog 16 [.c (ld7 l)] (fun r=>r = .c (.str (S (xf7 [] l)))):=by
 refine vc7 zb7 (by kernel_rfl) (fun _=>([],0,none)) Tryz.func16 rfl (by kernel_rfl) Tryz.ntmps16 (congrArg Array.toList Tryz.results16) (by kernel_rfl) (by simp) ?_
 simp -implicitDefEqProofs only [go_sem]
 refine ec7 (ι:=Nat) [6,7] [3,8] (fun k=>k≤l.length) (fun k=>[.c (.str (S (lnS [] (l.take k)))),.c (I6 k)]) (fun _=>_) (fun k=>l.length-k) (by kernel_rfl) ⟨0,Nat.zero_le _,rfl,rfl⟩ (fun s _=>⟨rfl,rfl,rfl,rfl⟩) ?_
 intro k hk
 have hln:(lnS [] (l.take k)).length≤3000000:=by
  have:=edb7 (l.take k) [] fun n hn=>hw n (List.mem_of_mem_take hn)
  rw[List.length_take]at this
  simp only[List.length_nil]at this
  omega
 have hil:=uu7 (jpb7 hw k)
 simp -implicitDefEqProofs only [go_sem]
 refine⟨fun h=>?_,fun h=>?_⟩
 ·have hlt:k<l.length:=by omega
  have hs:=ceb7 [] l hlt
  have hp:=fun h0:0<k=>mic7 [] l h0 hk
  have h0:k=0→lnS [] (l.take k)=[]:=fun e=>by subst e;rfl
  have hgw:=jpb7 hw k
  generalize lnS [] (l.take k)=b at *
  generalize l.getD k 0=n at *
  refine⟨⟨by omega,by omega⟩,fun h1=>?_,fun h1=>?_⟩
  ·refine⟨by simp;omega,pb7 (sdb7 hgw) (by simp -implicitDefEqProofs only [go_sem]) rfl (fun r h=>by subst h;rfl) ?_⟩
   rintro r rfl
   simp -implicitDefEqProofs only [go_sem,em7]
   refine⟨by simp;omega,⟨by omega,by omega⟩,k+1,by omega, ?_,by omega⟩
   rw[hs];unfold tf7;rw[if_pos (hp (by omega))];rfl
  ·refine pb7 (sdb7 hgw) (by simp -implicitDefEqProofs only [go_sem]) rfl (fun r h=>by subst h;rfl) ?_
   rintro r rfl
   simp -implicitDefEqProofs only [go_sem,em7]
   refine⟨by simp;omega,⟨by omega,by omega⟩,k+1,by omega, ?_,by omega⟩
   rw[hs];unfold tf7;rw[h0 (by omega)];rfl
 ·obtain rfl:k=l.length:=by omega
  rw[List.take_length]at hln ⊢
  exact⟨by simp;omega,by rw[em7];rfl⟩
end Go.Proofs.YtedahhjopmkbbaaGreat.Ab
namespace Go.Proofs.YtedahhjopmkbbaaGreat.Ab
open Go.RowKit Go.Lib
def aab7 (o:Option Nat):RV:=match o with
 | some n=>.tup [.c (I6 n),.c (.bool true)]
 | none=>.tup [.c (I6 0),.c (.bool false)]
theorem tzb7 (s:List UInt8) (hl:s.length≤1000000000000):be7 Tryz.prog 60 [.c (.str (S s))] (fun r=>r=aab7 (se7 s)):=by
 refine vc7 zb7 (by kernel_rfl) (fun _=>([],0,none)) Tryz.func60 rfl (by kernel_rfl) Tryz.ntmps60 (congrArg Array.toList Tryz.results60) (by kernel_rfl) (by simp) ?_
 have hsz:(S s).size=s.length:=rfl
 simp -implicitDefEqProofs only [go_sem,hsz]
 refine⟨fun h1=>?_,fun h1=>?_⟩
 ·have e:se7 s=none:=by unfold se7;rw[if_neg (fun h=>by omega)]
  rw[e]
  exact⟨_,⟨_,rfl,⟨_,_,rfl,.inl rfl,_,_,rfl,.inl rfl,rfl⟩⟩,rfl⟩
 ·have hl16:s.length≤16:=by omega
  refine ec7 (ι:=Nat) [0] [4,5] (fun k=>k≤s.length∧zib7 s k) (fun k=>[.c (I6 (gm7 (s.take k))),.c (I6 k)]) (fun _=>_) (fun k=>s.length-k) (by kernel_rfl) ⟨0,⟨Nat.zero_le _,fun _ h=>absurd h (Nat.not_lt_zero _)⟩,rfl,rfl⟩ (fun k _=>⟨rfl,rfl,rfl,rfl⟩) ?_
  rintro k ⟨hk,hd⟩
  have hv:=ynb7 k hk hd
  have hv2:10 ^ k≤10 ^ 16:=Nat.pow_le_pow_right (by omega) (by omega)
  have h16:10 ^ 16=10000000000000000:=by decide
  have hvn:=fun h:k<s.length=>du7 h
  have hval:k=s.length→gm7 s=gm7 (s.take k):=fun e=>by rw[e,List.take_length]
  generalize gm7 (s.take k)=n at hv hvn hval
  simp -implicitDefEqProofs only [go_sem,hsz]
  refine⟨fun h2=>?_,fun h2=>?_⟩
  ·have hlt:k<s.length:=by omega
   have hb:ljc7 (S s) (k:Int)=((s.getD k 0).toNat:Int):=tvb7 s k
   have hno:¬dh7 (s.getD k 0)→se7 s=none:=fun h=>by
    unfold se7
    refine if_neg fun h3=>h (h3.2.1 _ ?_)
    rw[List.getD_eq_getElem?_getD,List.getElem?_eq_getElem hlt]
    exact List.getElem_mem hlt
   have hyes:=fun h:dh7 (s.getD k 0)=>nr7 hd h
   have hvk:=hvn hlt
   have hcl:=(s.getD k 0).toNat_lt
   rw[hb]
   unfold dh7 at hno hyes
   unfold vbc7 at hvk
   generalize (s.getD k 0).toNat=c at hno hyes hvk hcl
   refine⟨⟨by omega,h2⟩,fun _=>⟨by omega,h2⟩,fun h3=>?_,fun h3=>?_⟩
   ·simp only[Bool.or_eq_true,decide_eq_true_eq]at h3
    rw[hno (by omega)]
    exact⟨_,⟨_,rfl,⟨_,_,rfl,.inl rfl,_,_,rfl,.inl rfl,rfl⟩⟩,rfl⟩
   ·simp only[Bool.or_eq_false_iff,decide_eq_false_iff_not]at h3
    refine⟨⟨by omega,by omega⟩,⟨by omega,h2⟩,⟨by omega,by omega⟩,⟨by omega,by omega⟩,⟨by omega,by omega⟩,⟨by omega,by omega⟩,k+1,⟨by omega,hyes (by omega)⟩, ?_,by omega⟩
    rw[hvk,show ((n*10+(c-48):Nat):Int)=(n:Int)*10+((c:Int)-48) by omega];rfl
  ·obtain rfl:k=s.length:=by omega
   clear hvn
   have hall:=xw7 hd
   have hpd:se7 s=if decDigits n=s∧n≤1000000000000000 then some n else none:=by
    unfold se7
    rw[hval rfl]
    by_cases h:decDigits n=s∧n≤1000000000000000
    ·rw[if_pos ⟨hl16,hall,h⟩,if_pos h]
    ·rw[if_neg (fun h3=>h h3.2.2),if_neg h]
   have hit:itoa (n:Int)=decDigits n:=by unfold itoa;rw[if_neg (by omega)];rfl
   rw[hpd]
   have hwn:oa7 (n:Int):=by unfold oa7;omega
   refine⟨fun h3=>?_,fun h3=>?_⟩
   ·refine pb7 (sdb7 hwn) (by simp -implicitDefEqProofs only [go_sem]) rfl (fun r h=>by subst h;rfl) ?_
    rintro r rfl
    simp -implicitDefEqProofs only [go_sem,hit]
    have hq:eqS (S (decDigits n)) (S s)=decide (decDigits n=s):=rfl
    rw[hq,decide_eq_false h3,Bool.false_or]
    refine⟨fun h4=>?_,fun h4=>?_⟩
    ·have h5:¬decDigits n=s:=by simpa using h4
     rw[if_neg (fun h=>h5 h.1)]
     exact⟨_,⟨_,rfl,⟨_,_,rfl,.inl rfl,_,_,rfl,.inl rfl,rfl⟩⟩,rfl⟩
    ·have h5:decDigits n=s:=by simpa using h4
     rw[if_pos ⟨h5,by omega⟩]
     exact⟨_,⟨_,rfl,⟨_,_,rfl,.inl rfl,_,_,rfl,.inl rfl,rfl⟩⟩,rfl⟩
   ·have h4:(1000000000000000:Int)<(n:Int):=by simpa using h3
    rw[if_neg (fun h=>by omega)]
    exact⟨fun h=>h h4,h4,_,⟨_,rfl,⟨_,_,rfl,.inl rfl,_,_,rfl,.inl rfl,rfl⟩⟩,rfl⟩
end Go.Proofs.YtedahhjopmkbbaaGreat.Ab
namespace Go.Proofs.YtedahhjopmkbbaaGreat.Ab
open Go.RowKit
theorem lac7 (s:List UInt8) (ha:∀c∈s,c.toNat<128):be7 Tryz.prog 59 [.c (.str (S s))] (fun r=>r=aab7 (se7 s)) :=
 qj7 ⟨_,_,Tryz.func59,by kernel_rfl,rfl⟩ fun rho w vs hcv=>by
  obtain⟨_,_,rfl,rfl,rfl⟩:=hcv
  refine (kdc7 ha w).mono ?_
  rintro e w' ⟨rfl,hb⟩
  refine⟨_,_,rfl,rfl, ?_,hb⟩
  cases se7 s with
  | none=>exact⟨[.int .i64 0,.bool false],rfl,_,_,rfl,rfl,_,_,rfl,rfl,rfl⟩
  | some n=>exact⟨[.int .i64 n,.bool true],rfl,_,_,rfl,rfl,_,_,rfl,rfl,rfl⟩
def wR5:List (List UInt8×Nat)→Root
 | []=>.dead
 | l=>.live false 51 2 (.gen (l.map fun r=>[.str (S r.1),I6 r.2]))
theorem odc7 (l:List (List UInt8×Nat)):fu7 0 [0] (wH 0 l)=wH 0 l:=by cases l <;> rfl
theorem tdc7 (l:List (List UInt8×Nat)):abb7 1 [wR5 l]=true:=by cases l <;> rfl
theorem grc7 (l:List (List UInt8×Nat)):(wH 0 l).scp 1=true:=by cases l <;> rfl
theorem imb7 (l:List (List UInt8×Nat)):fo7 0 [0] [wR5 l] [0]=[wR5 l]:=by cases l <;> rfl
def ws7 (s:List UInt8):RV :=
 if iq7 s<s.length then .tup [.c .nils,.c (I6 (iq7 s))] else .tup [.c (ri7 (ta7 s)),.c (I6 (-1))]
theorem tub7 {s:List UInt8}{j:Nat}(h:s.length≤j):s.getD j 10=10:=by rw[List.getD_eq_getElem?_getD,List.getElem?_eq_none h];rfl
theorem stb7 (s:List UInt8) (hl:s.length≤1000000000000):be7 Tryz.prog 6 [.c (.str (S s))] (fun r=>r=ws7 s):=by
 refine vc7 zb7 (by kernel_rfl) (fun _=>([],0,none)) Tryz.func6 rfl (by kernel_rfl) Tryz.ntmps6 (congrArg Array.toList Tryz.results6) (by kernel_rfl) (by simp) ?_
 have hsz:(S s).size=s.length:=rfl
 have hbv:∀k,k<s.length→ljc7 (S s) (k:Int)=((s.getD k 10).toNat:Int):=fun k h=>by
  rw[tvb7,List.getD_eq_getElem?_getD,List.getD_eq_getElem?_getD,List.getElem?_eq_getElem h];rfl
 simp -implicitDefEqProofs only [go_sem,hsz]
 refine ec7 (ι:=Nat) [0,4] [5] (fun k=>k≤s.length∧xkb7 s k) (fun k=>[.c (I6 k)]) (fun _=>_) (fun k=>s.length-k) (by kernel_rfl) ⟨0,⟨Nat.zero_le _,rhb7 s⟩,rfl,rfl⟩ (fun k _=>⟨rfl,rfl,rfl,rfl⟩) ?_
 rintro k ⟨hk,hok⟩
 simp -implicitDefEqProofs only [go_sem,hsz]
 have hb0:=dnb7 (s.getD k 10)
 refine⟨fun h1=>?_,fun h1=>?_⟩
 ·have hlt:k<s.length:=by omega
  have hbad:bac7 ((s.getD k 10).toNat:Int)=true→ws7 s = .tup [.c .nils,.c (I6 k)]:=fun hb=>by
   have e:=wib7 hok hlt (by rw[hb0];exact hb)
   unfold ws7
   rw[if_pos (by omega),e]
  rw[hbv k hlt]
  refine⟨⟨by omega,h1⟩,fun _=>⟨by omega,h1⟩,fun _ _=>⟨by omega,h1⟩,fun h6 h7=>?_,fun hnb=>⟨⟨by omega,by omega⟩,k+1,⟨by omega,lfb7 hok (by rw[hb0];exact hnb)⟩,rfl,by omega⟩⟩
  rw[hbad (by unfold bac7;rw[h7,decide_eq_true h6];rfl)]
  exact⟨_,⟨_,rfl,⟨_,_,rfl,.inl rfl,_,_,rfl,.inl rfl,rfl⟩⟩,rfl⟩
 ·obtain rfl:k=s.length:=by omega
  have hfin:ws7 s = .tup [.c (ri7 (ta7 s)),.c (I6 (-1))]:=by
   have e:=pu7 hok
   unfold ws7
   rw[if_neg (by omega)]
  clear hok hb0 hk h1
  have key:∀j,j<s.length→∀d:UInt8,((s.getD j 10).toNat:Int)=(d.toNat:Int)→s.getD j 10=d:=fun j _ d h=>by rw[msb7];exact h
  refine qc7 (ι:=Nat) 1 [0] [4,6] (fun k=>k≤s.length∧yy7 s k) (fun k=>[.c (wH 0 (ae7 s k)),.c (I6 k)]) (fun k=>[wR5 (ae7 s k)]) (fun k=>s.length-k) (by kernel_rfl) ⟨0,⟨Nat.zero_le _,psb7 s⟩,rfl,rfl⟩ (fun k _=>rfl) ?_
  rintro k ⟨hk,hg⟩
  simp -implicitDefEqProofs only [go_sem,hsz]
  refine⟨fun h1=>?_,fun h1=>?_⟩
  ·have hlt:k<s.length:=by omega
   rw[hbv k hlt]
   refine⟨⟨by omega,h1⟩,fun h2=>?_,fun h2=>⟨⟨by omega,h1⟩,fun _=>⟨by omega,h1⟩,fun h3=>?_,fun h3=>?_⟩⟩
   ·have hc:=key k hlt 35 h2
    refine ec7 (ι:=Nat) [0,4] [6] (fun j=>k≤j∧j≤s.length∧(k<j→scan s j=⟨ae7 s k,none,true⟩)) (fun j=>[.c (I6 j)]) (fun _=>_) (fun j=>s.length-j) (by kernel_rfl) ⟨k,⟨Nat.le_refl _,hk,fun h=>absurd h (Nat.lt_irrefl _)⟩,rfl,rfl⟩ (fun k _=>by refine⟨?_, ?_, ?_, ?_⟩ <;> first | rfl | exact tdc7 _ | exact grc7 _) ?_
    rintro j ⟨hkj,hj,hsj⟩
    simp -implicitDefEqProofs only [go_sem,hsz]
    refine⟨fun h=>⟨by omega,h⟩,fun h h6=>⟨⟨by omega,by omega⟩,j+1,⟨by omega,by omega,fun _=>?_⟩,rfl,by omega⟩,fun h=>?_⟩
    ·rw[hbv j (by omega)]at h6
     by_cases e:k=j
     ·subst e;exact zxb7 hg hc
     ·exact owb7 (hsj (by omega)) (fun e=>h6 (by rw[e];rfl))
    ·simp only[Bool.and_eq_false_iff,decide_eq_false_iff_not,Decidable.not_not]at h
     have hcc:s.getD j 10=10:=by
      by_cases hjl:j<s.length
      ·rw[hbv j hjl]at h
       exact key j hjl 10 (h.elim (fun h=>absurd (by omega) h) id)
      ·exact tub7 (by omega)
     have hkj2:k<j:=by
      by_cases e:k=j
      ·subst e;rw[hc]at hcc;exact absurd hcc (by decide)
      ·omega
     obtain⟨g1,g2⟩:=dcc7 (hsj hkj2) hcc
     exact⟨j,[0],⟨hj,g1⟩,⟨rfl,rfl⟩,by rw[g2,odc7],by rw[g2,imb7],by omega⟩
   ·obtain⟨g1,g2⟩:=as7 hg (by
     simp only[Bool.or_eq_true,decide_eq_true_eq]at h3
     exact h3.elim (fun h=>.inl (key k hlt 32 h)) (fun h=>.inr (key k hlt 10 h)))
    refine⟨⟨by omega,by omega⟩,k+1,[0],⟨by omega,g1⟩,⟨rfl,rfl⟩,by rw[g2,odc7];rfl,by rw[g2,imb7],by omega⟩
   ·have hd:gib7 (s.getD k 10)=false:=by
     rw[vgb7]
     unfold fsb7
     rw[h3,decide_eq_false h2];rfl
    have hw:=wfb7 hg hd
    refine ec7 (ι:=Nat) [0,4,7] [6] (fun j=>k≤j∧j≤s.length∧(k<j→scan s j=⟨ae7 s k,some k,false⟩)) (fun j=>[.c (I6 j)]) (fun _=>_) (fun j=>s.length-j) (by kernel_rfl) ⟨k,⟨Nat.le_refl _,hk,fun h=>absurd h (Nat.lt_irrefl _)⟩,rfl,rfl⟩ (fun k _=>by refine⟨?_, ?_, ?_, ?_⟩ <;> first | rfl | exact tdc7 _ | exact grc7 _) ?_
    rintro j ⟨hkj,hj,hsj⟩
    simp -implicitDefEqProofs only [go_sem,hsz]
    refine⟨fun h=>⟨by omega,h⟩,fun h _=>⟨by omega,h⟩,fun h _ _=>⟨by omega,h⟩,fun h a1 a2 a3=>⟨⟨by omega,by omega⟩,j+1,⟨by omega,by omega,fun _=>?_⟩,rfl,by omega⟩,fun h=>?_⟩
    ·rw[hbv j (by omega)]at a1 a2 a3
     by_cases e:k=j
     ·subst e;exact hw
     ·exact dib7 (hsj (by omega)) (by rw[vgb7];unfold fsb7;rw[decide_eq_false a1,decide_eq_false a2,decide_eq_false a3];rfl)
    ·simp only[Bool.and_eq_false_iff,decide_eq_false_iff_not,Decidable.not_not]at h
     have hcc:gib7 (s.getD j 10)=true:=by
      by_cases hjl:j<s.length
      ·rw[hbv j hjl]at h
       rw[vgb7]
       unfold fsb7
       simp only[Bool.or_eq_true,decide_eq_true_eq]
       rcases h with ((h | h) | h) | h
       ·exact absurd (by omega) h
       ·exact .inl (.inl h)
       ·exact .inl (.inr h)
       ·exact .inr h
      ·rw[tub7 (by omega)];rfl
     have hkj2:k<j:=by
      by_cases e:k=j
      ·subst e;rw[hd]at hcc;cases hcc
      ·omega
     obtain⟨g1,g2⟩:=omb7 (hsj hkj2) hcc
     have hll:=lrb7 s k
     rw[xqc7]
     refine⟨⟨by omega,by omega,by omega⟩, ?_⟩
     clear hsj hw
     generalize ae7 s k=l at g2 hll
     rcases l with _ | ⟨o,l⟩
     ·exact⟨j,[2],⟨hj,g1⟩,⟨rfl,rfl⟩,by rw[g2];rfl,by rw[g2];rfl,by omega⟩
     ·rw[List.length_cons]at hll
      simp -implicitDefEqProofs only [go_sem,wH,wR5]
      refine⟨⟨by simp,by omega⟩,j,[0],⟨hj,g1⟩,⟨rfl,rfl⟩,by rw[g2];simp[mkH,pos],by rw[g2];simp[fo7,aa7,ne7,km7],by omega⟩
  ·obtain rfl:k=s.length:=by omega
   rw[hfin,← fmb7 hg]
   generalize ae7 s s.length=l
   rcases l with _ | ⟨o,l⟩
   ·exact⟨trivial,_,⟨_,rfl,⟨_,_,rfl,.inr ⟨_,rfl,.inr (.inr ⟨_,_,rfl⟩)⟩,_,_,rfl,.inl rfl,rfl⟩⟩,rfl⟩
   ·simp -implicitDefEqProofs only [go_sem,wH,wR5]
    exact⟨by simp,_,⟨_,rfl,⟨_,_,rfl,.inr ⟨_,rfl,.inr (vfb7 (o::l))⟩,_,_,rfl,.inl rfl,rfl⟩⟩,rfl⟩
def bc7 (ws:List (List UInt8×Nat)) (i len:Nat) (code:Int):Root:=.live false 100 4 (.box [ri7 ws,I6 i,I6 len,I6 code])
theorem hob7 {A:Root}{R:List Root}{ws:List (List UInt8×Nat)}{i len:Nat}{code most:Int}{K:RV→List Root→Prop}(hi:i≤1000000000000) (hw:∀w∈ws,w.1.length≤1000000000000)
  (hK:K (.c (I6 (jbb7 ws i code most).1)) (A::bc7 ws (jbb7 ws i code most).2.1 len (jbb7 ws i code most).2.2::R)) :
  lb7 Tryz.prog none 31 [.c (.ptr 1 1 0 0),.c (I6 most)] (A::bc7 ws i len code::R) K:=by
 refine hf7 zb7 (by kernel_rfl) (fun n=>match n with | 3=>([0,4,1,2,3,5,6,7,8,9],0,none) | 6=>([0,4,1,2,3,5,6,7,8,9,10,11,12,13,14,15,16],0,none) | _=>([],0,none)) Tryz.func31 rfl (by kernel_rfl) Tryz.ntmps31 (congrArg Array.toList Tryz.results31) (by kernel_rfl) (by simp) ?_
 simp -implicitDefEqProofs only [go_sem,bc7]
 have hwl:(wdN ws i).length≤1000000000000:=by
  unfold wdN
  rw[List.getD_eq_getElem?_getD]
  by_cases h:i<ws.length
  ·rw[List.getElem?_eq_getElem h];exact hw _ (List.getElem_mem h)
  ·rw[List.getElem?_eq_none (by omega)];simp
 have hp:=tzb7 (wdN ws i) hwl
 refine⟨fun hc=>?_,fun hc=>⟨fun h1=>?_,fun h1=>⟨⟨by omega,by omega⟩, ?_⟩⟩⟩
 ·rw[show jbb7 ws i code most=(0,i,code) from if_pos hc]at hK
  exact hK
 ·rw[show jbb7 ws i code most=(0,i,3) by unfold jbb7;rw[if_neg (by simpa using hc),if_pos (by omega)]]at hK
  exact hK
 ·have hn:jbb7 ws i code most=match se7 (wdN ws i) with
    | none=>(0,i,3)
    | some x=>if most<(x:Int) then (0,i,2) else (x,i+1,0):=by unfold jbb7;rw[if_neg (by simpa using hc),if_neg (by omega)];cases se7 (wdN ws i) <;> rfl
  rw[hn]at hK
  subst hc
  clear hn
  generalize se7 (wdN ws i)=o at hp hK
  rcases o with _ | x
  ·refine pb7 hp (by simp -implicitDefEqProofs only [go_sem]) rfl (fun r h=>by subst h;rfl) ?_
   rintro r rfl
   simp -implicitDefEqProofs only [go_sem,aab7]
   exact⟨hK,fun h=>by cases h⟩
  ·refine pb7 hp (by simp -implicitDefEqProofs only [go_sem]) rfl (fun r h=>by subst h;rfl) ?_
   rintro r rfl
   simp -implicitDefEqProofs only [go_sem,aab7]
   refine fun _=>⟨fun h2=>?_,fun h2=>⟨⟨by omega,by omega⟩, ?_⟩⟩
   ·simp only[if_pos h2]at hK
    exact hK
   ·simp only[if_neg h2]at hK
    exact hK
theorem rnc7 {A:Root}{R:List Root}{ws:List (List UInt8×Nat)}{i len:Nat}{code:Int}{w:List UInt8}{K:RV→List Root→Prop}(hi:i≤1000000000000)
  (hK:∀r,K r (A::bc7 ws (tr7 ws i code w).1 len (tr7 ws i code w).2::R)) :
  lb7 Tryz.prog none 30 [.c (.ptr 1 1 0 0),.c (.str (S w))] (A::bc7 ws i len code::R) K:=by
 refine hf7 zb7 (by kernel_rfl) (fun n=>match n with | 1=>([0,4,1,2,3,5,6,7,8,9,10,11,15,22,12,13,14,16,17,18,19,20,21,23,24],0,none) | _=>([],0,none)) Tryz.func30 rfl (by kernel_rfl) Tryz.ntmps30 (congrArg Array.toList Tryz.results30) (by kernel_rfl) (by simp) ?_
 simp -implicitDefEqProofs only [go_sem,bc7]
 refine⟨fun hc=>?_,fun hc=>⟨fun h=>⟨by omega,by omega⟩,fun h=>?_,fun h=>?_⟩⟩
 ·rw[show tr7 ws i code w=(i,code) from if_pos hc]at hK
  exact hK _
 ·simp only[Bool.or_eq_true,decide_eq_true_eq,Bool.not_eq_true']at h
  have hm:tr7 ws i code w=(i,5):=by
   unfold tr7
   rw[if_neg (by simpa using hc),if_pos]
   exact h.elim (fun h=>.inl (by omega)) (fun h=>.inr (of_decide_eq_false h))
  rw[hm]at hK
  exact hK _
 ·simp only[Bool.or_eq_false_iff,decide_eq_false_iff_not,Bool.not_eq_false']at h
  obtain⟨h1,h2⟩:=h
  have h3:wdN ws i=w:=of_decide_eq_true h2
  have hm:tr7 ws i code w=(i+1,0):=by
   unfold tr7
   rw[if_neg (by simpa using hc),if_neg (fun h=>h.elim (fun h=>by omega) (fun h=>h h3))]
  rw[hm]at hK
  subst hc
  exact⟨⟨by omega,by omega⟩,hK _⟩
variable {P:Program}
def only:Nat→List Root→List Root
 | _,[]=>[]
 | 0,r::l=>r::l.map fun _=>.dead
 | k+1,_::l=>.dead::only k l
theorem dmb7:∀(k:Nat) (H:List Root),(only k H).length=H.length
 | _,[]=>by cases ‹Nat› <;> rfl
 | 0,_::_=>by simp[only]
 | k+1,_::l=>by simp[only,dmb7 k l]
theorem cmb7:∀(l:List Root) (i:Nat),aa7 (l.map fun _=>Root.dead) i = .dead
 | [],_=>rfl
 | _::_,0=>rfl
 | _::l,i+1=>cmb7 l i
theorem feb7:∀(k:Nat) (H:List Root) (i:Nat),aa7 (only k H) i=if i=k then aa7 H k else .dead
 | k,[],i=>by
  have e:only k []=[]:=by cases k <;> rfl
  rw[e]
  split <;> rfl
 | 0,r::l,i=>by
  cases i with
  | zero=>rfl
  | succ i=>rw[if_neg (by omega)];exact cmb7 l i
 | k+1,r::l,i=>by
  cases i with
  | zero=>rw[if_neg (by omega)];rfl
  | succ i =>
   show aa7 (only k l) i=_
   rw[feb7 k l i]
   by_cases e:i=k
   ·rw[if_pos e,if_pos (by omega)];rfl
   ·rw[if_neg e,if_neg (by omega)]
theorem svb7:∀(l:List AV) (o:Nat),l.all AV.fr=true→(nth l o).fr=true∨nth l o = .junk
 | [],_,_=>.inr rfl
 | a::l,o,h=>by
  simp only[List.all_cons,Bool.and_eq_true]at h
  cases o with
  | zero=>exact .inl h.1
  | succ o=>exact svb7 l o h.2
def Env.frm (w:World) (rho:Nat→Prop) (g:Nat) (hg:∀w,ko7 w):Env:=⟨w,rho,[],fun b=>b=g,.inr hg⟩
section
variable {E:Env} {M:Mp} {H:List Root} {w w':World}
theorem Rel.only (hgl:∀w,ko7 w) (h:Rel E M H w) {k:Nat}{t:TypeId}{sz:Nat}{l:List AV}(hk:aa7 H k = .live false t sz (.box l)) (hl:l.all AV.fr=true):Rel (Env.frm w M.rho (M.phi k) hgl) ⟨M.phi,M.off,M.rho,fun _=>none⟩ (only k H) w:=by
 have lift:∀{i:Nat} {fz:Bool} {t2:TypeId} {s2:Nat} {r2:Row},aa7 (Ab.only k H) i = .live fz t2 s2 r2→i=k∧aa7 H k = .live fz t2 s2 r2:=fun {i fz t2 s2 r2} hr=>by
  rw[feb7]at hr
  split at hr
  ·rename_i e;exact⟨e,hr⟩
  ·cases hr
 refine⟨⟨rfl,rfl,rfl,Nat.le_refl _,fun _ _ _=>rfl⟩,fun i fz t2 s2 r2 hr=>?_,fun i fz t2 s2 r2 hr=>?_,fun i t2 s2 r2 hr=>?_,fun i t2 s2 r2 hr=>?_,fun i j t1 s1 r1 t2 s2 r2 hi hj _=>by rw[(lift hi).1,(lift hj).1],h.rlt,⟨fun b hb=>.inl hb,h.glob⟩,⟨fun _ _ h=>(by cases h),fun _ _ _ _ _ _ _ h=>(by cases h),fun _ _ _ h=>(by cases h)⟩⟩
 ·obtain⟨rfl,-⟩:=lift hr;exact .inr rfl
 ·obtain⟨rfl,hr⟩:=lift hr
  obtain⟨cur,c1,c2,c3,c4,c5,c6⟩:=h.row _ _ _ _ _ hr
  refine⟨cur,c1,c2,c3,c4,c5,fun a ha o ho=>?_⟩
  obtain⟨v,v1,v2,v3⟩:=c6 a ha o ho
  refine⟨v,v1,v2, ?_⟩
  rw[hk]at hr
  cases hr
  unfold xj7 at v3 ⊢
  simp only[Row.isBox,if_true]at v3 ⊢
  have hf:(nth l o).fr=true∨nth l o = .junk:=svb7 l o hl
  rcases hf with hf | hf
  ·have v3:Con M H w (nth l o) v:=v3
   show Con _ _ w (nth l o) v
   cases hx:nth l o <;> rw[hx]at hf v3 <;> first | exact v3 | cases hf
  ·show Con _ _ w (nth l o) v
   rw[hf];trivial
 ·obtain⟨rfl,hr⟩:=lift hr;rw[hk]at hr;cases hr
 ·obtain⟨rfl,hr⟩:=lift hr;exact h.thaw _ _ _ _ hr
theorem Rel.back (hgl:∀w,ko7 w) (h:Rel E M H w) {k:Nat}{t:TypeId}{sz:Nat}{l l':List AV}(hk:aa7 H k = .live false t sz (.box l)) {M2:Mp}{H2:List Root}(q1:Rel (Env.frm w M.rho (M.phi k) hgl) M2 H2 w') (q2:Kp ⟨M.phi,M.off,M.rho,fun _=>none⟩ (Ab.only k H) w M2 H2 w')
  (hk':aa7 H2 k = .live false t sz (.box l')) (hl':l'.all AV.fr=true) :
  Rel E ⟨M.phi,M.off,M2.rho,M.tau⟩ (da7 H k (.live false t sz (.box l'))) w'∧Kp M H w ⟨M.phi,M.off,M2.rho,M.tau⟩ (da7 H k (.live false t sz (.box l'))) w'∧ef7 (some (M.phi k)) w w':=by
 have hlt:k<H.length:=yd7 hk
 have hsz:w.heap.size≤w'.heap.size:=q1.bel.size
 have hblk:∀b,b<w.heap.size→b≠M.phi k→w'.heap[b]? = w.heap[b]? := fun b hb hne=>q1.bel.block b hb hne
 have hrho:∀b,M.rho b→M2.rho b:=fun b hb=>by
  obtain⟨b',o',e,hb',-⟩:=q2 (.rp 0 fun _=>.junk) (.pointer (some ⟨b,0,none⟩)) ⟨b,0,rfl,hb,fun j hj=>absurd hj (Nat.not_lt_zero _)⟩
  simp only[Value.pointer.injEq,Option.some.injEq,Addr.mk.injEq]at e
  rw[e.1];exact hb'
 have hko:aa7 (Ab.only k H) k = .live false t sz (.box l):=by rw[feb7,if_pos rfl,hk]
 have hphi:M2.phi k=M.phi k:=onb7 (M:=⟨M.phi,M.off,M.rho,fun _=>none⟩) q2 (by unfold iob7;rw[hko];exact⟨rfl,rfl⟩) (by unfold iob7;rw[hk'];exact⟨rfl,rfl⟩)
 obtain⟨cur,a1,a2,a3,a4,a5,a6⟩:=h.row _ _ _ _ _ hk
 obtain⟨cur2,b1,b2,b3,b4,b5,b6⟩:=q1.row _ _ _ _ _ hk'
 obtain⟨o1,s1⟩:=a5 rfl
 obtain⟨o2,s2⟩:=b5 rfl
 rw[hphi]at b1
 rw[o2]at b3 b6
 have hbr:∀b,M.rho b→w'.heap[b]? = w.heap[b]? := fun b hb=>hblk b (h.rlt b hb) fun e=>h.thaw _ _ _ _ hk (e ▸ hb)
 have hbt:∀b q,M.tau b=some q→w'.heap[b]? = w.heap[b]? := fun b q hq=>hblk b (h.tau.lt hq) fun e=>h.tau.row _ _ _ _ _ _ _ hq hk e.symm
 have hn:∀b,M2.rho b→M.rho b∨w.heap.size≤b∨b=M.phi k:=fun b hb=>q1.src.1 b hb
 have at3:∀{i:Nat} {fz:Bool} {t2:TypeId} {sz2:Nat} {r2:Row},aa7 (da7 H k (.live false t sz (.box l'))) i = .live fz t2 sz2 r2→(i=k∧fz=false∧t2=t∧sz2=sz∧r2 = .box l')∨(i≠k∧aa7 H i = .live fz t2 sz2 r2):=fun {i fz t2 sz2 r2} hr=>by
  rw[cc7]at hr
  by_cases e:i=k
  ·rw[if_pos ⟨e,hlt⟩]at hr
   cases hr;exact .inl ⟨e,rfl,rfl,rfl,rfl⟩
  ·rw[if_neg (fun hh=>e hh.1)]at hr;exact .inr ⟨e,hr⟩
 have hne:∀{i:Nat} {fz:Bool} {t2:TypeId} {sz2:Nat} {r2:Row},i≠k→aa7 H i = .live fz t2 sz2 r2→M.phi i≠M.phi k:=fun {i fz t2 sz2 r2} e hr he=>by
  cases fz with
  | false=>exact e (h.inj _ _ _ _ _ _ _ _ hr hk he)
  | true=>exact h.thaw _ _ _ _ hk (he ▸ h.froz _ _ _ _ hr)
 have hkp:Kp M H w ⟨M.phi,M.off,M2.rho,M.tau⟩ (da7 H k (.live false t sz (.box l'))) w':=by
  intro a v c
  cases a with
  | ptr id n i o =>
   refine⟨⟨by rw[ha7];exact c.1.1,c.1.2⟩,fun fz t2 sz2 r2 hr=>?_⟩
   rcases at3 hr with ⟨rfl,rfl,rfl,rfl,rfl⟩ | ⟨-,hr⟩
   ·have:=c.2 _ _ _ _ hk;exact this
   ·exact c.2 _ _ _ _ hr
  | h id st len =>
   refine⟨⟨by rw[ha7];exact c.1.1,c.1.2⟩,fun fz t2 sz2 r2 hr=>?_⟩
   rcases at3 hr with ⟨rfl,rfl,rfl,rfl,rfl⟩ | ⟨e,hr⟩
   ·obtain⟨c1,c2⟩:=c.2 _ _ _ _ hk
    refine⟨c1,fun hh=>?_⟩
    obtain⟨cap,cu,ad,k1,k2,k3,k4,k5,k6⟩:=c2 hh
    rw[a1]at k4
    cases k4
    exact⟨cap,cur2,ad,k1,k2,k3,b1,by show M.off id+_=_;omega,k6⟩
   ·obtain⟨c1,c2⟩:=c.2 _ _ _ _ hr
    refine⟨c1,fun hh=>?_⟩
    obtain⟨cap,cu,ad,k1,k2,k3,k4,k5⟩:=c2 hh
    exact⟨cap,cu,ad,k1,k2,k3,by rw[show (Mp.phi ⟨M.phi,M.off,M2.rho,M.tau⟩ id)=M.phi id from rfl,hblk _ (h.lt hr) (hne e hr)];exact k4,k5⟩
  | ws=>exact WSl.keep (nl7.of rfl hbt) c
  | wu=>obtain⟨n,hb',c⟩:=c;exact⟨n,hb',WSl.keep (nl7.of rfl hbt) c⟩
  | wp=>exact WPt.keep (nl7.of rfl hbt) c
  | junk=>trivial
  | _=>exact ad7.keep hbr hrho c
 refine⟨⟨⟨q1.bel.os.trans h.bel.os,q1.bel.tape.trans h.bel.tape,q1.bel.output.trans h.bel.output,Nat.le_trans h.bel.size hsz,fun b hb hx=>?_⟩,fun i fz t2 s2 r2 hr=>?_,fun i fz t2 s2 r2 hr=>?_,fun i t2 s2 r2 hr=>?_,fun i t2 s2 r2 hr=>?_,fun i j t1 s1 r1 t2 s2 r2 hi hj he=>?_,fun b hb=>q1.rlt b hb,⟨fun b hb=>?_,h.src.2.mono hrho⟩, ?_⟩,hkp,hsz,fun b hb hx=>hblk b hb fun e=>hx (by rw[e])⟩
 ·have hb1:=h.bel.size
  refine (hblk b (by omega) fun e=>?_).trans (h.bel.block b hb hx)
  rcases h.low _ _ _ _ _ hk with h1 | h1
  ·omega
  ·exact hx (e ▸ h1)
 ·rcases at3 hr with ⟨rfl,rfl,rfl,rfl,rfl⟩ | ⟨-,hr⟩
  ·exact h.low _ _ _ _ _ hk
  ·exact h.low _ _ _ _ _ hr
 ·rcases at3 hr with ⟨rfl,rfl,rfl,rfl,rfl⟩ | ⟨e,hr⟩
  ·refine⟨cur2,b1,b2,by show M.off i+_≤_;rw[o1];exact b3,⟨1,by show M.off i+_=_;omega⟩,fun _=>⟨o1,s2⟩,fun a ha o ho=>?_⟩
   obtain⟨v,v1,v2,v3⟩:=b6 a ha o ho
   refine⟨v,by rw[show (Mp.off ⟨M.phi,M.off,M2.rho,M.tau⟩ i)=0 from o1];exact v1,v2, ?_⟩
   unfold xj7 at v3 ⊢
   simp only[Row.isBox,if_true]at v3 ⊢
   have v3:Con M2 H2 w' (nth l' o) v:=v3
   show Con _ _ w' (nth l' o) v
   have hf:(nth l' o).fr=true∨nth l' o = .junk:=svb7 l' o hl'
   rcases hf with hf | hf
   ·cases hx:nth l' o <;> rw[hx]at hf v3 <;> first | exact v3 | cases hf
   ·rw[hf];trivial
  ·exact (h.row _ _ _ _ _ hr).keep hkp hbr hrho (hblk _ (h.lt hr) (hne e hr))
 ·rcases at3 hr with ⟨-,h1,-⟩ | ⟨-,hr⟩
  ·cases h1
  ·exact hrho _ (h.froz _ _ _ _ hr)
 ·rcases at3 hr with ⟨rfl,-,rfl,rfl,rfl⟩ | ⟨e,hr⟩
  ·have:=q1.thaw _ _ _ _ hk'
   rwa [hphi]at this
  ·intro hb
   rcases hn _ hb with h1 | h1 | h1
   ·exact h.thaw _ _ _ _ hr h1
   ·have:=h.lt hr;have h1:w.heap.size≤M.phi i:=h1;omega
   ·exact hne e hr h1
 ·rcases at3 hi with ⟨e1,-⟩ | ⟨e1,hi2⟩ <;> rcases at3 hj with ⟨e2,-⟩ | ⟨e2,hj2⟩
  ·rw[e1,e2]
  ·subst e1;exact absurd he.symm (hne e2 hj2)
  ·subst e2;exact absurd he (hne e1 hi2)
  ·exact h.inj _ _ _ _ _ _ _ _ hi2 hj2 he
 ·rcases hn b hb with h1 | h1 | h1
  ·exact h.src.1 b h1
  ·exact .inr (.inl (Nat.le_trans h.bel.size h1))
  ·exact .inr (by rw[h1];exact h.low _ _ _ _ _ hk)
 ·refine h.tau.keep rfl hbt (fun b q hq hb=>?_) fun b q i fz t2 s2 r2 hq hr=>?_
  ·rcases hn b hb with h1 | h1 | h1
   ·exact (h.tau.new b q hq).2 h1
   ·have:=h.tau.lt hq;omega
   ·exact h.tau.row _ _ _ _ _ _ _ hq hk h1.symm
  ·rcases at3 hr with ⟨rfl,-,rfl,rfl,rfl⟩ | ⟨-,hr⟩
   ·exact h.tau.row _ _ _ _ _ _ _ hq hk
   ·exact h.tau.row _ _ _ _ _ _ _ hq hr
def AV.onl (k:Nat):AV→Bool
 | .ptr id .. => decide (id=k)
 | a=>a.fr
def ruc7 (k:Nat):RV→Bool
 | .c a=>a.onl k
 | _=>false
theorem vjc7 {M2:Mp}(hp:M2.phi=M.phi) (ho:M2.off=M.off) (hr:M2.rho=M.rho) {k:Nat}{x:RV}{v:Value}(hx:ruc7 k x=true) (h:ra7 M H w x v):ra7 M2 (only k H) w x v:=by
 cases x with
 | c a =>
  have h:Con M H w a v:=h
  have hx:a.onl k=true:=hx
  show Con M2 (only k H) w a v
  cases a with
  | ptr id n i o =>
   obtain rfl:id=k:=by simpa[AV.onl]using hx
   refine⟨⟨by rw[dmb7];exact h.1.1,h.1.2⟩,fun fz t sz r hr2=>?_⟩
   rw[feb7,if_pos rfl]at hr2
   have:=h.2 _ _ _ _ hr2
   rw[hp,ho];exact this
  | h=>cases hx
  | ws=>cases hx
  | wu=>cases hx
  | wp=>cases hx
  | junk=>trivial
  | _=>exact ad7.keep (fun _ _=>rfl) (fun b hb=>by rw[hr];exact hb) h
 | _=>cases hx
theorem gob7 {M2:Mp}(hp:M2.phi=M.phi) (ho:M2.off=M.off) (hr:M2.rho=M.rho) {k:Nat}:∀{l:List RV}{vs:List Value},l.all (ruc7 k)=true→sc7 M H w l vs→sc7 M2 (only k H) w l vs
 | [],_,_,h=>h
 | _::_,_,hx,⟨v,r,e,h1,h2⟩=>by
  simp only[List.all_cons,Bool.and_eq_true]at hx
  exact⟨v,r,e,vjc7 hp ho hr hx.1 h1,gob7 hp ho hr hx.2 h2⟩
def goc7:RV→Bool
 | .ifc _ x=>uy7 x
 | x=>uy7 x
theorem yac7 {M2:Mp}{H2:List Root}{x:RV}{v:Value}(hs:goc7 x=true) (h:ra7 M H w x v):ra7 M2 H2 w x v:=by
 cases x with
 | ifc t x =>
  obtain⟨u,rfl,h⟩:=h
  exact⟨u,rfl,xg7.up (ao7 (rho:=M2.rho) hs h)⟩
 | c a=>exact xg7.up (x:=.c a) (ao7 (rho:=M2.rho) hs h)
 | agg l=>exact xg7.up (x:=.agg l) (ao7 (rho:=M2.rho) hs h)
 | fn=>cases hs
 | tup l=>exact xg7.up (x:=.tup l) (ao7 (rho:=M2.rho) hs h)
def vwc7 (k:Nat) (t:TypeId) (sz:Nat) (H:List Root) (C:List Root→Prop) (H':List Root):Prop:=∃l',aa7 H' k = .live false t sz (.box l')∧l'.all AV.fr=true∧C (da7 H k (.live false t sz (.box l')))
abbrev xwc7 [Pan] (k:Nat) (t:TypeId) (sz:Nat) (H:List Root):Pan:=⟨fun r H'=>goc7 r=true∧vwc7 k t sz H (Pan.px r) H'⟩
theorem nfb7 [X:Pan] (hgl:∀w,ko7 w) {f:FuncId}{args:List RV}{k:Nat}{t:TypeId}{sz:Nat}{l:List AV}{K:RV→List Root→Prop}(hk:aa7 H k = .live false t sz (.box l)) (hl:l.all AV.fr=true) (ha:args.all (ruc7 k)=true)
  (hc : @lb7 P (xwc7 k t sz H) none f args (only k H) (fun r H'=>uy7 r=true∧vwc7 k t sz H (K r) H')):lb7 P (some (some k)) f args H K:=by
 refine⟨hc.1,fun E M w vs h hv=>?_⟩
 refine (hc.2 _ ⟨M.phi,M.off,M.rho,fun _=>none⟩ w vs (h.only hgl hk hl) (gob7 (M:=M) (M2:=⟨M.phi,M.off,M.rho,fun _=>none⟩) rfl rfl rfl ha hv)).mono ?_
 rintro e w' (⟨M2,H2,r,v,rfl,q1,q2,q3,q4,q5,q6,l',q7,q8,q9⟩ | ⟨ch,rfl,M2,H2,r,v,rfl,q1,q2,q5,q3,q6,l',q7,q8,q9⟩)
 ·obtain⟨r1,r2,r3⟩:=h.back hgl hk q1 q2 q7 q8
  exact .inl ⟨_,_,r,v,rfl,r1,r2,xg7.up (ao7 (rho:=M2.rho) q6 q3),fun g e=>(by cases e;exact r3),by rw[ha7];exact Nat.le_refl _,q9⟩
 ·obtain⟨r1,r2,r3⟩:=h.back hgl hk q1 q2 q7 q8
  exact .inr ⟨_,rfl,_,_,r,v,rfl,r1,r2,by rw[ha7];exact Nat.le_refl _,yac7 q6 q3,q9⟩
end
def hb7 (ws:List (List UInt8×Nat)) (i len:Nat):Root:=.live false 146 3 (.box [ri7 ws,I6 i,I6 len])
def isD (ws:List (List UInt8×Nat)) (i:Nat) (w:List UInt8):Bool:=decide (i<ws.length)&&decide (wdN ws i=w)
theorem zyc7 [Pan] {A B C D:Root}{R:List Root}{ws:List (List UInt8×Nat)}{i len:Nat}{w:List UInt8}{K:RV→List Root→Prop}(hi:i≤1000000000000)
  (hK:K (.c (.bool (isD ws i w))) (A::B::C::D::hb7 ws (if isD ws i w then i+1 else i) len::R)) :
  lb7 Tryz.prog none 58 [.c (.ptr 4 1 0 0),.c (.str (S w))] (A::B::C::D::hb7 ws i len::R) K:=by
 refine hf7 zb7 (by kernel_rfl) (fun n=>match n with | 1=>([0,4,1,2,3,5,6,7,8,9,10,11,15,22,12,13,14,16,17,18,19,20,21,23,24],0,none) | _=>([],0,none)) Tryz.func58 rfl (by kernel_rfl) Tryz.ntmps58 (congrArg Array.toList Tryz.results58) (by kernel_rfl) (by simp) ?_
 simp -implicitDefEqProofs only [go_sem,hb7]
 refine⟨fun h=>⟨by omega,h⟩,fun h1 h2=>⟨⟨by omega,by omega⟩, ?_⟩,fun h=>?_⟩
 ·have h3:wdN ws i=w:=of_decide_eq_true h2
  have hd:isD ws i w=true:=by unfold isD;rw[decide_eq_true (show i<ws.length by omega),decide_eq_true h3];rfl
  rw[hd,if_pos rfl]at hK
  exact hK
 ·have hd:isD ws i w=false:=by
   rw[Bool.and_eq_false_iff]at h
   unfold isD
   rcases h with h | h
   ·rw[decide_eq_false (show ¬i<ws.length by have:=of_decide_eq_false h;omega)];rfl
   ·rw[decide_eq_false (show ¬wdN ws i=w from of_decide_eq_false h),Bool.and_false]
  rw[hd,if_neg (by simp)]at hK
  exact hK
theorem thc7 [Pan] {A B C D:Root}{R:List Root}{ws:List (List UInt8×Nat)}{i len:Nat}{K:RV→List Root→Prop}
  (hK:K (.c (.bool (decide (i<ws.length)))) (A::B::C::D::hb7 ws i len::R)) :
  lb7 Tryz.prog none 56 [.c (.ptr 4 1 0 0)] (A::B::C::D::hb7 ws i len::R) K:=by
 refine hf7 zb7 (by kernel_rfl) (fun n=>match n with | 1=>([0,4,1,2,3,5,6,7,8,9,10],0,none) | _=>([],0,none)) Tryz.func56 rfl (by kernel_rfl) Tryz.ntmps56 (congrArg Array.toList Tryz.results56) (by kernel_rfl) (by simp) ?_
 simp -implicitDefEqProofs only [go_sem,hb7]
 rw[show decide ((i:Int)<(ws.length:Int))=decide (i<ws.length) from decide_eq_decide.2 (by omega)]
 exact hK
theorem kic7 [Pan] {A B C D:Root}{R:List Root}{ws:List (List UInt8×Nat)}{i len:Nat}{K:RV→List Root→Prop}
  (hK:K (.c (I6 (hg7 ws len i))) (A::B::C::D::hb7 ws i len::R)) :
  lb7 Tryz.prog none 73 [.c (.ptr 4 1 0 0)] (A::B::C::D::hb7 ws i len::R) K:=by
 refine hf7 zb7 (by kernel_rfl) (fun n=>match n with | 1=>([0,4,1,2,3,5,6,7,8,9],0,none) | 2=>([0,4,1,2,3,5,6,7,8,9,10,11],0,none) | _=>([],0,none)) Tryz.func73 rfl (by kernel_rfl) Tryz.ntmps73 (congrArg Array.toList Tryz.results73) (by kernel_rfl) (by simp) ?_
 simp -implicitDefEqProofs only [go_sem,hb7]
 refine⟨fun h=>⟨⟨by omega,h⟩, ?_⟩,fun h=>?_⟩
 ·rw[show hg7 ws len i=((ws.getD i ([],0)).2:Int) from if_pos (by omega)]at hK
  exact hK
 ·rw[show hg7 ws len i=(len:Int) from if_neg (by omega)]at hK
  exact hK
theorem qub7:mgc7 Tryz.prog 143=true:=by kernel_rfl
def tv7 (at_ code:Int):RV:=.ifc 143 (.agg [I6 at_,I6 code])
theorem kgb7 [Pan] {A B C D:Root}{R:List Root}{ws:List (List UInt8×Nat)}{i len:Nat}{code:Int}{K:RV→List Root→Prop}
  (hP:Pan.px (tv7 (hg7 ws len i) code) (A::B::C::D::hb7 ws i len::R)) :
  lb7 Tryz.prog none 57 [.c (.ptr 4 1 0 0),.c (I6 code)] (A::B::C::D::hb7 ws i len::R) K:=by
 refine hf7 zb7 (by kernel_rfl) (fun _=>([],0,none)) Tryz.func57 rfl (by kernel_rfl) Tryz.ntmps57 (congrArg Array.toList Tryz.results57) (by kernel_rfl) (by simp) ?_
 simp -implicitDefEqProofs only [go_sem]
 refine kic7 ?_
 simp -implicitDefEqProofs only [go_sem,qub7]
 exact hP
theorem ocb7 [Pan] {A B C D:Root}{R:List Root}{ws:List (List UInt8×Nat)}{i len:Nat}{w:List UInt8}{K:RV→List Root→Prop}(hi:i≤1000000000000)
  (hK:∀r j,hi7 ws w i = .ok j→K r (A::B::C::D::hb7 ws j len::R))
  (hP:∀j c,hi7 ws w i = .error (j,c)→Pan.px (tv7 (hg7 ws len j) c) (A::B::C::D::hb7 ws j len::R)) :
  lb7 Tryz.prog none 26 [.c (.ptr 4 1 0 0),.c (.str (S w))] (A::B::C::D::hb7 ws i len::R) K:=by
 refine hf7 zb7 (by kernel_rfl) (fun _=>([],0,none)) Tryz.func26 rfl (by kernel_rfl) Tryz.ntmps26 (congrArg Array.toList Tryz.results26) (by kernel_rfl) (by simp) ?_
 simp -implicitDefEqProofs only [go_sem]
 refine zyc7 hi ?_
 cases hd:isD ws i w with
 | true =>
  have hm:hi7 ws w i = .ok (i+1):=by
   unfold isD at hd
   simp only[Bool.and_eq_true,decide_eq_true_eq]at hd
   unfold hi7
   rw[if_neg (fun h=>h.elim (fun h=>by omega) (fun h=>h hd.2))]
  simp -implicitDefEqProofs only [go_sem,eq_self,not_true_eq_false,not_false_eq_true,decide_false,decide_true,Bool.not_false,Bool.not_true,Bool.or_false,Bool.false_or,Bool.true_or,Bool.or_true,Bool.and_true,Bool.true_and,Bool.false_and,Bool.and_false,true_implies]
  exact hK _ _ hm
 | false =>
  have hm:hi7 ws w i = .error (i,5):=by
   unfold isD at hd
   rw[Bool.and_eq_false_iff]at hd
   unfold hi7
   rw[if_pos (hd.elim (fun h=>.inl (by have:=of_decide_eq_false h;omega)) (fun h=>.inr (of_decide_eq_false h)))]
  simp -implicitDefEqProofs only [go_sem,eq_self,not_true_eq_false,not_false_eq_true,decide_false,decide_true,Bool.not_false,Bool.not_true,Bool.or_false,Bool.false_or,Bool.true_or,Bool.or_true,Bool.and_true,Bool.true_and,Bool.false_and,Bool.and_false,true_implies]
  exact kgb7 (hP _ _ hm)
theorem nj7 [Pan] {A B C D:Root}{R:List Root}{ws:List (List UInt8×Nat)}{i len:Nat}{most:Int}{K:RV→List Root→Prop}(hi:i≤1000000000000) (hw:∀w∈ws,(∀c∈w.1,c.toNat<128))
  (hK:∀x j,vj7 ws most i = .ok (x,j)→K (.c (I6 x)) (A::B::C::D::hb7 ws j len::R))
  (hP:∀j c,vj7 ws most i = .error (j,c)→Pan.px (tv7 (hg7 ws len j) c) (A::B::C::D::hb7 ws j len::R)) :
  lb7 Tryz.prog none 27 [.c (.ptr 4 1 0 0),.c (I6 0),.c (I6 most)] (A::B::C::D::hb7 ws i len::R) K:=by
 refine hf7 zb7 (by kernel_rfl) (fun n=>match n with | 1=>([0,4,1,2,3,5,6,7,8,9],0,none) | 3=>([0,4,1,2,3,5,6,7,8,9,10,11,12,13,14,15,16],0,none) | _=>([],0,none)) Tryz.func27 rfl (by kernel_rfl) Tryz.ntmps27 (congrArg Array.toList Tryz.results27) (by kernel_rfl) (by simp) ?_
 simp -implicitDefEqProofs only [go_sem,hb7]
 refine⟨fun h=>?_,fun h=>⟨⟨by omega,by omega⟩, ?_⟩⟩
 ·exact kgb7 (hP _ _ (by unfold vj7;rw[if_pos (by omega)]))
 ·have hlo:∀c∈wdN ws i,c.toNat<128:=by
   unfold wdN
   rw[List.getD_eq_getElem?_getD,List.getElem?_eq_getElem (by omega)]
   exact hw _ (List.getElem_mem (by omega))
  have hn:vj7 ws most i=match se7 (wdN ws i) with
    | none=>.error (i,3)
    | some x=>if most<(x:Int) then .error (i,2) else .ok ((x:Int),i+1):=by unfold vj7;rw[if_neg (by omega)];cases se7 (wdN ws i) <;> rfl
  have hp:=lac7 (wdN ws i) hlo
  rw[hn]at hK hP
  clear hn
  generalize se7 (wdN ws i)=o at hp hK hP
  rcases o with _ | x
  ·refine pb7 hp (by simp -implicitDefEqProofs only [go_sem]) rfl (fun r h=>by subst h;rfl) ?_
   rintro r rfl
   simp -implicitDefEqProofs only [go_sem,eq_self,not_true_eq_false,not_false_eq_true,decide_false,decide_true,Bool.not_false,Bool.not_true,Bool.or_false,Bool.false_or,Bool.true_or,Bool.or_true,Bool.and_true,Bool.true_and,Bool.false_and,Bool.and_false,true_implies,aab7]
   exact kgb7 (hP _ _ rfl)
  ·refine pb7 hp (by simp -implicitDefEqProofs only [go_sem]) rfl (fun r h=>by subst h;rfl) ?_
   rintro r rfl
   simp -implicitDefEqProofs only [go_sem,eq_self,not_true_eq_false,not_false_eq_true,decide_false,decide_true,Bool.not_false,Bool.not_true,Bool.or_false,Bool.false_or,Bool.true_or,Bool.or_true,Bool.and_true,Bool.true_and,Bool.false_and,Bool.and_false,true_implies,aab7]
   rw[show decide ((x:Int)<0)=false from decide_eq_false (by omega),Bool.false_or]
   refine⟨fun h=>kgb7 (hP _ _ (by show (if most<(x:Int) then _ else _)=_;rw[if_pos (of_decide_eq_true h)])),fun h=>⟨⟨by omega,by omega⟩, ?_⟩⟩
   exact hK _ _ (by show (if most<(x:Int) then _ else _)=_;rw[if_neg (of_decide_eq_false h)])
theorem os7 [Pan] {A B C D:Root}{R:List Root}{ws:List (List UInt8×Nat)}{i len:Nat}{most:Int}{K:RV→List Root→Prop}(hi:i≤1000000000000) (hw:∀w∈ws,(∀c∈w.1,c.toNat<128))
  (hK:∀x j,vj7 ws most i = .ok (x,j)→K (.c (I6 x)) (A::B::C::D::hb7 ws j len::R))
  (hP:∀j c,vj7 ws most i = .error (j,c)→Pan.px (tv7 (hg7 ws len j) c) (A::B::C::D::hb7 ws j len::R)) :
  lb7 Tryz.prog (some (some 4)) 27 [.c (.ptr 4 1 0 0),.c (I6 0),.c (I6 most)] (A::B::C::D::hb7 ws i len::R) K:=by
 refine nfb7 (fun _=>trivial) (k:=4) (t:=146) (sz:=3) (l:=[ri7 ws,I6 i,I6 len]) rfl rfl rfl ?_
 refine @nj7 (xwc7 4 146 3 (A::B::C::D::hb7 ws i len::R)) .dead .dead .dead .dead (R.map fun _=>.dead) ws i len most _ hi hw (fun x j h=>⟨rfl,[ri7 ws,I6 j,I6 len],rfl,rfl,hK x j h⟩) fun j c h=>⟨rfl,[ri7 ws,I6 j,I6 len],rfl,rfl,hP j c h⟩
theorem de7 {ws:List (List UInt8×Nat)}{most:Int}{i:Nat}{x:Int×Nat}(h:vj7 ws most i = .ok x):(0≤x.1∧x.1≤most)∧x.2≤ws.length:=by
 unfold vj7 at h
 split at h
 ·cases h
 ·split at h
  ·cases h
  ·split at h
   ·cases h
   ·cases h;refine⟨⟨by simp only;omega,by simp only;omega⟩,by simp only;omega⟩
theorem ieb7 {ws:List (List UInt8×Nat)}{w:List UInt8}{i j:Nat}(h:hi7 ws w i = .ok j):j≤ws.length:=by
 unfold hi7 at h
 split at h
 ·cases h
 ·cases h;omega
theorem ja7 {α β:Type}{x:Except Stt α}{f:α→Except Stt β}{e:Stt}(h:x = .error e):yf7 x f = .error e:=by rw[h];rfl
theorem va7 {α β:Type}{x:Except Stt α}{f:α→Except Stt β}{a:α}(h:x = .ok a):yf7 x f=f a:=by rw[h];rfl
theorem hj7 {α:Type}(g:α×Nat→Except Stt (α×Nat)) (n:Nat) (a:α×Nat):uh7 g (n+1) a=yf7 (g a) (uh7 g n):=by
 show (match g a with | .ok b=>uh7 g n b | .error e=>.error e)=_
 cases g a <;> rfl
def gvb7 [Pan] (A B C D:Root) (ws:List (List UInt8×Nat)) (len:Nat) {α:Type} (x:Except Stt α):Prop:=∀j c,x = .error (j,c)→∀R,Pan.px (tv7 (hg7 ws len j) c) (A::B::C::D::hb7 ws j len::R)
def jr7 (m:Nat) (R:Root):Prop:=∀n ids,m≤n→ne7 n ids R=R
def stH (id:Nat):List ba7→AV
 | []=>.nils
 | l=>.h id 0 l.length
def stR:List ba7→Root
 | []=>.dead
 | l=>.live false 66 2 (.gen (l.map fun s=>[I6 s.sat,I6 s.load]))
def yg7 (A B C D E1 E2:Root) (ws:List (List UInt8×Nat)) (len:Nat) (r:AV) (a:(List ba7×List Int)×Nat):List Root :=
 [A,B,C,D,hb7 ws a.2 len,E1,E2,.live false 69 1 (.box [r]),.live false 69 1 (.box [stH 9 a.1.1]),stR a.1.1,lR a.1.2]
theorem itb7 [Pan] {A B C D E1 E2:Root}{ws:List (List UInt8×Nat)}{i len:Nat}{K:RV→List Root→Prop}(hi:i≤ws.length) (hwn:ws.length≤1000000) (hw:∀w∈ws,(∀c∈w.1,c.toNat<128)) (hA:jr7 7 A) (hB:jr7 7 B) (hC:jr7 7 C) (hD:jr7 7 D) (hE1:jr7 7 E1) (hE2:jr7 7 E2)
  (hK:∀a,at7 ws i = .ok a→K (.tup [.agg [stH 9 a.1.1],.c (lH 10 a.1.2)]) (yg7 A B C D E1 E2 ws len (stH 9 a.1.1) a))
  (hP:gvb7 A B C D ws len (at7 ws i)) :
  lb7 Tryz.prog none 28 [.c (.ptr 4 1 0 0)] [A,B,C,D,hb7 ws i len,E1,E2] K:=by
 refine hf7 zb7 (by kernel_rfl) (fun n=>match n with | 6=>([],3,some (.r 4)) | _=>([],0,none)) Tryz.func28 rfl (by kernel_rfl) Tryz.ntmps28 (congrArg Array.toList Tryz.results28) (by kernel_rfl) (by simp) ?_
 simp -implicitDefEqProofs only [go_sem]
 refine nj7 (by omega) hw (fun x j0 hx=>?_) (fun j c hx=>hP _ _ (ja7 hx) _)
 have hT:at7 ws i=uh7 (cr7 ws) x.toNat (([],[]),j0):=va7 hx
 obtain⟨hx1,hj0⟩:=de7 hx
 simp only at hx1 hj0
 rw[hT]at hK hP
 clear hT hx
 refine qc7 (ι:=Nat×((List ba7×List Int)×Nat)) 2 [0,2,4,8] [5,9] (fun s=>(s.1≤x.toNat∧s.2.1.1.length=s.1∧s.2.1.2.length=s.1∧s.2.2≤ws.length)∧uh7 (cr7 ws) x.toNat (([],[]),j0)=uh7 (cr7 ws) (x.toNat-s.1) s.2) (fun s=>[.c (lH 10 s.2.1.2),.c (I6 s.1)]) (fun s=>yg7 A B C D E1 E2 ws len .nils s.2) (fun s=>x.toNat-s.1) (by kernel_rfl) ⟨(0,([],[]),j0),⟨⟨Nat.zero_le _,rfl,rfl,hj0⟩,rfl⟩,rfl,rfl⟩ (fun k _=>rfl) ?_
 rintro⟨k,⟨ss,ts⟩,j⟩ ⟨⟨hk,hl1,hl2,hj⟩,he⟩
 simp only at hk hl1 hl2 hj he
 rw[he]at hP
 rcases ss with _ | ⟨s,ss⟩ <;> rcases ts with _ | ⟨v,ts⟩
 rotate_left
 ·simp only[List.length_cons,List.length_nil]at hl1 hl2;omega
 ·simp only[List.length_cons,List.length_nil]at hl1 hl2;omega
 rotate_left
 all_goals
  simp -implicitDefEqProofs only [go_sem,yg7,stH,lH,stR,lR]
  refine⟨fun h=>?_,fun h=>?_⟩
 ·have hn:x.toNat-k=(x.toNat-(k+1))+1:=by omega
  rw[hn,hj7]at he hP
  refine nj7 (by omega) hw (fun y1 j1 hy1=>?_) (fun j c hy=>hP _ _ (ja7 (ja7 hy)) _)
  obtain⟨by1,bj1⟩:=de7 hy1
  simp only at by1 bj1
  rw[show cr7 ws (([],[]),j)=_ from va7 hy1]at he hP
  simp -implicitDefEqProofs only [go_sem,hb7]
  refine os7 (by omega) hw (fun y2 j2 hy2=>?_) (fun j c hy=>hP _ _ (ja7 (ja7 hy)) _)
  obtain⟨by2,bj2⟩:=de7 hy2
  simp only at by2 bj2
  rw[va7 hy2]at he hP
  simp -implicitDefEqProofs only [go_sem,hb7]
  refine nj7 (by omega) hw (fun y3 j3 hy3=>?_) (fun j c hy=>hP _ _ (ja7 (ja7 hy)) _)
  obtain⟨by3,bj3⟩:=de7 hy3
  simp only at by3 bj3
  rw[va7 hy3]at he hP
  simp -implicitDefEqProofs only [go_sem,hb7]
  have he2:uh7 (cr7 ws) x.toNat (([],[]),j0)=uh7 (cr7 ws) (x.toNat-(k+1)) ((([]:List ba7)++[(⟨y1,y2⟩:ba7)],([]:List Int)++[y3]),j3):=he
  refine⟨by omega,(k+1,((([]:List ba7)++[(⟨y1,y2⟩:ba7)],([]:List Int)++[y3]),j3)),[12,14],⟨⟨by omega,by simp at hl1 ⊢; omega,by simp at hl2 ⊢; omega,bj3⟩,he2⟩,⟨rfl,rfl⟩,rfl, ?_,by omega⟩
  rw[hA _ _ (by decide),hB _ _ (by decide),hC _ _ (by decide),hD _ _ (by decide),hE1 _ _ (by decide),hE2 _ _ (by decide)]
  rfl
 ·have h0:x.toNat-k=0:=by omega
  rw[h0]at he
  exact hK _ he
 ·have hn:x.toNat-k=(x.toNat-(k+1))+1:=by omega
  rw[hn,hj7]at he hP
  refine nj7 (by omega) hw (fun y1 j1 hy1=>?_) (fun j c hy=>hP _ _ (ja7 (ja7 hy)) _)
  obtain⟨by1,bj1⟩:=de7 hy1
  simp only at by1 bj1
  rw[show cr7 ws ((s::ss,v::ts),j)=_ from va7 hy1]at he hP
  simp -implicitDefEqProofs only [go_sem,hb7]
  refine os7 (by omega) hw (fun y2 j2 hy2=>?_) (fun j c hy=>hP _ _ (ja7 (ja7 hy)) _)
  obtain⟨by2,bj2⟩:=de7 hy2
  simp only at by2 bj2
  rw[va7 hy2]at he hP
  simp -implicitDefEqProofs only [go_sem,hb7]
  simp only[List.length_cons]at hl1 hl2
  refine⟨by simp;omega, ?_⟩
  refine nj7 (by omega) hw (fun y3 j3 hy3=>?_) (fun j c hy=>hP _ _ (ja7 (ja7 hy)) _)
  obtain⟨by3,bj3⟩:=de7 hy3
  simp only at by3 bj3
  rw[va7 hy3]at he hP
  simp -implicitDefEqProofs only [go_sem,hb7]
  have he2:uh7 (cr7 ws) x.toNat (([],[]),j0)=uh7 (cr7 ws) (x.toNat-(k+1)) (((s::ss)++[(⟨y1,y2⟩:ba7)],(v::ts)++[y3]),j3):=he
  refine⟨by omega,by omega,(k+1,(((s::ss)++[(⟨y1,y2⟩:ba7)],(v::ts)++[y3]),j3)),[9,10],⟨⟨by omega,by simp at hl1 ⊢; omega,by simp at hl2 ⊢; omega,bj3⟩,he2⟩,⟨rfl,rfl⟩, ?_, ?_,by omega⟩
  ·simp only[List.cons_append,List.length_cons,List.length_append,List.length_nil];rfl
  ·rw[hA _ _ (by decide),hB _ _ (by decide),hC _ _ (by decide),hD _ _ (by decide),hE1 _ _ (by decide),hE2 _ _ (by decide)]
   simp only[List.cons_append,List.map_cons,List.map_append,List.map_nil,List.length_cons,List.length_append,List.length_nil];rfl
 ·have h0:x.toNat-k=0:=by omega
  rw[h0]at he
  exact hK _ he
def iR:List Int→Root
 | []=>.dead
 | l=>.live false 3 1 (.ints .i64 l)
def iy7 (A B C D E1 E2 E3 E4:Root) (ws:List (List UInt8×Nat)) (len:Nat) (b t:List AV) (sat out back:Int) (a:(List Int×List Int)×Nat):List Root :=
 [A,B,C,D,hb7 ws a.2 len,E1,E2,E3,E4,.live false 75 2 (.box b),.live false 63 3 (.box t),.live false 75 2 (.box [I6 sat,lH 13 a.1.1]),.live false 63 3 (.box [I6 out,lH 14 a.1.2,I6 back]),iR a.1.1,lR a.1.2]
theorem bfc7 [Pan] {A B C D E1 E2 E3 E4:Root}{ws:List (List UInt8×Nat)}{i len:Nat}{K:RV→List Root→Prop}(hi:i≤ws.length) (hwn:ws.length≤1000000) (hw:∀w∈ws,(∀c∈w.1,c.toNat<128)) (hA:jr7 9 A) (hB:jr7 9 B) (hC:jr7 9 C) (hD:jr7 9 D) (hE1:jr7 9 E1) (hE2:jr7 9 E2) (hE3:jr7 9 E3) (hE4:jr7 9 E4)
  (hK:∀a,shb7 ws i = .ok a→K (.tup [.agg [I6 a.1.1.sat,lH 13 a.1.1.stops],.agg [I6 a.1.2.out,lH 14 a.1.2.starts,I6 a.1.2.back]]) (iy7 A B C D E1 E2 E3 E4 ws len [I6 a.1.1.sat,lH 13 a.1.1.stops] [I6 a.1.2.out,lH 14 a.1.2.starts,I6 a.1.2.back] a.1.1.sat a.1.2.out a.1.2.back ((a.1.1.stops,a.1.2.starts),a.2)))
  (hP:gvb7 A B C D ws len (shb7 ws i)) :
  lb7 Tryz.prog none 29 [.c (.ptr 4 1 0 0)] [A,B,C,D,hb7 ws i len,E1,E2,E3,E4] K:=by
 refine hf7 zb7 (by kernel_rfl) (fun n=>match n with | 5=>([],3,some (.r 4)) | 6=>([],3,some (.r 4)) | 9=>([],1,some (.r 9)) | _=>([],0,none)) Tryz.func29 rfl (by kernel_rfl) Tryz.ntmps29 (congrArg Array.toList Tryz.results29) (by kernel_rfl) (by simp) ?_
 simp -implicitDefEqProofs only [go_sem]
 refine nj7 (by omega) hw (fun sat j1 h1=>?_) (fun j c hx=>hP _ _ (ja7 hx) _)
 rw[show shb7 ws i=_ from va7 h1]at hK hP
 obtain⟨b1,c1⟩:=de7 h1
 simp only at b1 c1
 simp -implicitDefEqProofs only [go_sem]
 refine nj7 (by omega) hw (fun out j2 h2=>?_) (fun j c hx=>hP _ _ (ja7 hx) _)
 rw[va7 h2]at hK hP
 obtain⟨b2,c2⟩:=de7 h2
 simp only at b2 c2
 simp -implicitDefEqProofs only [go_sem]
 refine nj7 (by omega) hw (fun x j0 hx=>?_) (fun j c hx=>hP _ _ (ja7 hx) _)
 rw[va7 hx]at hK hP
 obtain⟨hx1,hj0⟩:=de7 hx
 simp only at hx1 hj0
 clear h1 h2 hx
 refine qc7 (ι:=Nat×((List Int×List Int)×Nat)) 2 [0,2,3,4,5,13] [14] (fun s=>(s.1≤x.toNat∧s.2.1.1.length=s.1∧s.2.1.2.length=s.1∧s.2.2≤ws.length)∧uh7 (hp7 ws) x.toNat (([],[]),j0)=uh7 (hp7 ws) (x.toNat-s.1) s.2) (fun s=>[.c (I6 s.1)]) (fun s=>iy7 A B C D E1 E2 E3 E4 ws len [I6 0,.nils] [I6 0,.nils,I6 0] sat out 0 s.2) (fun s=>x.toNat-s.1) (by kernel_rfl) ⟨(0,([],[]),j0),⟨⟨Nat.zero_le _,rfl,rfl,hj0⟩,rfl⟩,rfl,rfl⟩ (fun k _=>rfl) ?_
 rintro⟨k,⟨ss,ts⟩,j⟩ ⟨⟨hk,hl1,hl2,hj⟩,he⟩
 simp only at hk hl1 hl2 hj he
 rw[he]at hP hK
 rcases ss with _ | ⟨s,ss⟩ <;> rcases ts with _ | ⟨v,ts⟩
 rotate_left
 ·simp only[List.length_cons,List.length_nil]at hl1 hl2;omega
 ·simp only[List.length_cons,List.length_nil]at hl1 hl2;omega
 rotate_left
 all_goals
  simp -implicitDefEqProofs only [go_sem,iy7,lH,iR,lR,hb7]
  refine⟨fun h=>?_,fun h=>?_⟩
 ·have hn:x.toNat-k=(x.toNat-(k+1))+1:=by omega
  rw[hn,hj7]at he hP
  refine os7 (by omega) hw (fun y1 j1 hy1=>?_) (fun j c hy=>hP _ _ (ja7 (ja7 (ja7 hy))) _)
  obtain⟨by1,bj1⟩:=de7 hy1
  simp only at by1 bj1
  rw[show hp7 ws (([],[]),j)=_ from va7 hy1]at he hP
  simp -implicitDefEqProofs only [go_sem,hb7]
  refine os7 (by omega) hw (fun y2 j2 hy2=>?_) (fun j c hy=>hP _ _ (ja7 (ja7 (ja7 hy))) _)
  obtain⟨by2,bj2⟩:=de7 hy2
  simp only at by2 bj2
  rw[va7 hy2]at he hP
  simp -implicitDefEqProofs only [go_sem,hb7]
  have he2:uh7 (hp7 ws) x.toNat (([],[]),j0)=uh7 (hp7 ws) (x.toNat-(k+1)) ((([]:List Int)++[y1],([]:List Int)++[y2]),j2):=he
  refine⟨by omega,(k+1,((([]:List Int)++[y1],([]:List Int)++[y2]),j2)),[16,18],⟨⟨by omega,by simp at hl1 ⊢; omega,by simp at hl2 ⊢; omega,bj2⟩,he2⟩,⟨rfl,rfl⟩,rfl, ?_,by omega⟩
  rw[hA _ _ (by decide),hB _ _ (by decide),hC _ _ (by decide),hD _ _ (by decide),hE1 _ _ (by decide),hE2 _ _ (by decide),hE3 _ _ (by decide),hE4 _ _ (by decide)]
  rfl
 ·have h0:x.toNat-k=0:=by omega
  rw[h0]at hK hP
  rw[va7 (show uh7 (hp7 ws) 0 (([],[]),j) = .ok (([],[]),j) from rfl)]at hK hP
  refine nj7 (by omega) hw (fun bk j3 h3=>?_) (fun j c hy=>hP _ _ (ja7 hy) _)
  rw[va7 h3]at hK
  simp -implicitDefEqProofs only [go_sem,hb7]
  exact hK _ rfl
 ·have hn:x.toNat-k=(x.toNat-(k+1))+1:=by omega
  rw[hn,hj7]at he hP
  simp only[List.length_cons]at hl1 hl2
  refine os7 (by omega) hw (fun y1 j1 hy1=>?_) (fun j c hy=>hP _ _ (ja7 (ja7 (ja7 hy))) _)
  obtain⟨by1,bj1⟩:=de7 hy1
  simp only at by1 bj1
  rw[show hp7 ws ((s::ss,v::ts),j)=_ from va7 hy1]at he hP
  simp -implicitDefEqProofs only [go_sem,hb7]
  refine⟨by omega, ?_⟩
  refine os7 (by omega) hw (fun y2 j2 hy2=>?_) (fun j c hy=>hP _ _ (ja7 (ja7 (ja7 hy))) _)
  obtain⟨by2,bj2⟩:=de7 hy2
  simp only at by2 bj2
  rw[va7 hy2]at he hP
  simp -implicitDefEqProofs only [go_sem,hb7]
  have he2:uh7 (hp7 ws) x.toNat (([],[]),j0)=uh7 (hp7 ws) (x.toNat-(k+1)) (((s::ss)++[y1],(v::ts)++[y2]),j2):=he
  refine⟨by omega,by omega,(k+1,(((s::ss)++[y1],(v::ts)++[y2]),j2)),[13,14],⟨⟨by omega,by simp at hl1 ⊢; omega,by simp at hl2 ⊢; omega,bj2⟩,he2⟩,⟨rfl,rfl⟩,rfl, ?_,by omega⟩
  rw[hA _ _ (by decide),hB _ _ (by decide),hC _ _ (by decide),hD _ _ (by decide),hE1 _ _ (by decide),hE2 _ _ (by decide),hE3 _ _ (by decide),hE4 _ _ (by decide)]
  simp only[List.cons_append,List.length_cons,List.length_append,List.length_nil];rfl
 ·have h0:x.toNat-k=0:=by omega
  rw[h0]at hK hP
  rw[va7 (show uh7 (hp7 ws) 0 ((s::ss,v::ts),j) = .ok ((s::ss,v::ts),j) from rfl)]at hK hP
  refine nj7 (by omega) hw (fun bk j3 h3=>?_) (fun j c hy=>hP _ _ (ja7 hy) _)
  rw[va7 h3]at hK
  simp -implicitDefEqProofs only [go_sem,hb7]
  exact hK _ rfl
section
variable {P:Program} {ops:Array Oper} {a:Act} {w:World} {o:Oper} {v:Value}
theorem lq7 (hg:o.guard=none) (f:Nat→Option Bool):Region.wanted o f=true:=by
 unfold Region.wanted;rw[hg]
theorem qac7 {Q:Exit→Act→List Frame→World→Prop}{i:Nat}{rest:List Nat}{cs cs':List Frame}(ho:ops[i]? = some o) (hg:o.guard=none) (hx:(execOp a.eval o).run P w = .ok .recover w) (hr:recoverD cs=some (v,cs')) (hn:wpOpsS P ops Q rest (a.put o.dst v) cs' w):wpOpsS P ops Q (i::rest) a cs w:=by
 unfold wpOpsS
 simp only[ho,lq7 hg,if_true,hx,hr]
 exact hn
theorem tfc7 {Q:Exit→Act→List Frame→World→Prop}{i:Nat}{rest:List Nat}{cs:List Frame}(ho:ops[i]? = some o) (hg:o.guard=none) (hx:(execOp a.eval o).run P w = .ok .recover w) (hr:recoverD cs=none) (hn:wpOpsS P ops Q rest (a.put o.dst .nilIface) cs w):wpOpsS P ops Q (i::rest) a cs w:=by
 unfold wpOpsS
 simp only[ho,lq7 hg,if_true,hx,hr]
 exact hn
theorem nnb7 {Q:Exit→Act→List Frame→World→Prop}{i:Nat}{rest:List Nat}{cs:List Frame}(ho:ops[i]? = some o) (hg:o.guard=none) (hx:(execOp a.eval o).run P w = .ok (.value v) w) (hn:wpOpsS P ops Q rest (a.put o.dst v) cs w):wpOpsS P ops Q (i::rest) a cs w:=by
 unfold wpOpsS
 simp only[ho,lq7 hg,if_true,hx]
 exact hn
theorem yk7 {Q:Exit→Act→World→Prop}{l:List Oper}(hg:o.guard=none) (hx:(execOp a.eval o).run P w = .ok (.value v) w) (hn:wpList P ops Q l (a.put o.dst v) w):wpList P ops Q (o::l) a w:=by
 unfold wpList
 rw[if_pos (lq7 hg _)]
 refine .inl ?_
 unfold Oper.wp
 rw[hx]
 exact hn
theorem zhc7 [Pan] {ty:Ty}{E:Env}{nt:Nat}{M:Mp}{σ:AS}{Q:Exit→Act→World→Prop}{l:List Oper}{K:AS→Prop}(hT:ud7 P ty) (h:St E nt M σ a w) (hd:∀t,o.dst=some t→t<nt) (hw:ip7 P ty none none ops σ o K)
  (hn:∀M' σ' a' w',St E nt M' σ' a' w'→Kp M σ.H w M' σ'.H w'→σ.H.length≤σ'.H.length→K σ'→wpList P ops Q l a' w') (hP:∀ch w',iw7 E M σ.H w ch w'→Q (.panic ch) a w'):wpList P ops Q (o::l) a w:=by
 have:=st7 (Q:=Q) (next:=wpList P ops Q l) hT h hd hw (fun M' σ' a' w' q1 _ q3 q4=>hn M' σ' a' w' q1 q3.kp q3.len q4) hP
 unfold wpList
 split
 ·rename_i hwt;rw[if_pos hwt]at this;exact .inl this
 ·rename_i hwt;rw[if_neg hwt]at this;exact this
end
theorem yyb7 (p q:Value) (w:World):CallsD Tryz.prog 55 #[p,q] .returning w fun e u' w'=>(∃v,e = .returned v)∧u' = .returning∧w'=w:=by
 refine callsD_of_wpS Tryz.func55 rfl fun c₀ cs hu=>?_
 rw[Tryz.ntmps55]
 apply wpS_seq
 apply wpS_region
 refine tfc7 (i:=0) rfl rfl rfl (by simp[recoverD,hu]) ?_
 refine nnb7 (i:=1) rfl rfl rfl ?_
 refine wpS_of_wp (wp_seq (wp_region_list ?_))
 refine yk7 rfl rfl ?_
 refine yk7 (v:=.bool false) rfl (by kernel_rfl) ?_
 refine wp_cond_false (by kernel_rfl) (wp_skip ?_)
 refine⟨rfl,.returning,by rw[← hu],.tuple #[], ?_,⟨_,rfl⟩,rfl,rfl⟩
 kernel_rfl
def GoK (E:Env) (nt:Nat) (M:Mp) (H:List Root) (w:World) (Z:Act→World→Prop) (σ':AS):Prop:=∀M' a' w',St E nt M' σ' a' w'→Kp M H w M' σ'.H w'→Z a' w'
section
variable {P:Program} {ty:Ty} {E:Env} {nt:Nat} {M:Mp} {σ:AS} {a:Act} {w:World} {Q:Exit→Act→World→Prop}
theorem ogc7 {M0:Mp}{H0:List Root}{w0:World}(hT:ud7 P ty) {ops:Array Oper}{l:List Oper}{nf:Nat}(h:St E nt M σ a w) (h0:Kp M0 H0 w0 M σ.H w) (hd:∀o∈l,∀t,o.dst=some t→t<nt) (hw:rq7 P ty nf none ops l (GoK E nt M0 H0 w0 (Q .normal)) σ):wpList P ops Q l a w :=
 njb7 hT l h hd hw (fun a' w' ⟨M2,σ2,r1,r2,r3⟩=>r3 M2 a' w' r1 (h0.trans r2.kp)) fun a' ch w' hd hp=>(qa7 hp).elim
def GoE (E:Env) (nt:Nat) (M:Mp) (H:List Root) (w:World) (Q:Exit→Act→World→Prop) (e:Exit) (σ':AS):Prop:=GoK E nt M H w (Q e) σ'
theorem wyb7 {M0:Mp}{H0:List Root}{w0:World}(hT:ud7 P ty) (hm:P.follows .mixedOrders=true) (ord:Nat→List Nat×Nat×Option DD) {c:Code}(hok:okC nt ord c=true) (h:St E nt M σ a w) (h0:Kp M0 H0 w0 M σ.H w) (hw:awp P ty ord c (GoE E nt M0 H0 w0 Q) σ):c.wp P Q a w :=
 wp_mono (vl7 hT hm c hok h hw) fun e a' w' hA=>by
  rcases hA with ⟨-,M2,σ2,r1,r2,r3⟩ | ⟨ch,-,-,hp⟩
  ·exact r3 M2 a' w' r1 (h0.trans r2.kp)
  ·exact (qa7 hp).elim
theorem mo7 {M0:Mp}{H0:List Root}{w0:World}(hT:ud7 P ty) (hm:P.follows .mixedOrders=true) (ord:Nat→List Nat×Nat×Option DD) {x y:Code}(hok:okC nt ord x=true) (h:St E nt M σ a w) (h0:Kp M0 H0 w0 M σ.H w) (hw:awp P ty ord x (GoE E nt M0 H0 w0 (Exit.then (y.wp P Q) Q)) σ):(Code.seq x y).wp P Q a w :=
 wp_seq (wyb7 hT hm ord hok h h0 hw)
end
theorem ls7 (x:Root):∀R:List Root,aa7 (R++[x]) R.length=x
 | []=>rfl
 | _::R=>ls7 x R
theorem zo7 (x y:Root):∀R:List Root,da7 (R++[x]) R.length y=R++[y]
 | []=>rfl
 | z::R=>by show z::da7 (R++[x]) R.length y=_;rw[zo7 x y R];rfl
theorem ypb7 {E:Env}{M:Mp}{A B:Root}{R:List Root}{x y:AV}{w:World}{p q v:Value}{at_ code:Int}(h:Rel E M (A::B :: .live false 3 1 (.box [x]) :: .live false 52 1 (.box [y])::R) w)
  (hp:Con M (A::B :: .live false 3 1 (.box [x]) :: .live false 52 1 (.box [y])::R) w (.ptr 2 1 0 0) p) (hq:Con M (A::B :: .live false 3 1 (.box [x]) :: .live false 52 1 (.box [y])::R) w (.ptr 3 1 0 0) q)
  (hv:ra7 M (A::B :: .live false 3 1 (.box [x]) :: .live false 52 1 (.box [y])::R) w (tv7 at_ code) v) :
  CallsD Tryz.prog 55 #[p,q] (.panicking [{ v:=v,recovered:=false }]) w fun e u' w'=>(∃v,e = .returned v)∧u' = .panicking [{ v:=v,recovered:=true }]∧∃M' T,Rel E M' (A::B :: .live false 3 1 (.box [I6 at_]) :: .live false 52 1 (.box [I6 code])::R++T) w'∧Kp M (A::B :: .live false 3 1 (.box [x]) :: .live false 52 1 (.box [y])::R) w M' (A::B :: .live false 3 1 (.box [I6 at_]) :: .live false 52 1 (.box [I6 code])::R++T) w':=by
 obtain⟨u,rfl,hu⟩:=hv
 refine callsD_of_wpS Tryz.func55 rfl fun c₀ cs hm=>?_
 rw[Tryz.ntmps55]
 have st:=St.enter (h.env []) rfl (args:=[.c (.ptr 2 1 0 0),.c (.ptr 3 1 0 0)]) (vs:=[p,q]) ⟨p,_,rfl,hp,q,_,rfl,hq,rfl⟩ (n:=20) (by decide)
 apply wpS_seq
 apply wpS_region
 refine qac7 (i:=0) (v:=.iface 143 u) (cs':={ c₀ with mode:=.panicking [{ v:=.iface 143 u,recovered:=true }] }::cs) rfl rfl rfl (by simp[recoverD,hm]) ?_
 replace st:=st.putV (d:=some 5) (g:=true) (r:=.c .junk) (v:=.iface 143 u) (by simp) (fun _=>trivial) (fun e=>by cases e)
 refine nnb7 (i:=1) (v:=.iface 143 u) rfl rfl (by kernel_rfl) ?_
 replace st:=st.putV (d:=some 2) (g:=true) (r:=.c .junk) (v:=.iface 143 u) (by simp) (fun _=>trivial) (fun e=>by cases e)
 refine wpS_of_wp (wp_seq (wp_region_list ?_))
 refine yk7 (v:=.iface 143 u) rfl (by kernel_rfl) ?_
 replace st:=st.putV (d:=some 6) (g:=true) (r:=.c .junk) (v:=.iface 143 u) (by simp) (fun _=>trivial) (fun e=>by cases e)
 refine yk7 (v:=.bool true) rfl (by kernel_rfl) ?_
 replace st:=st.putV (d:=some 7) (g:=true) (r:=.c .junk) (v:=.bool true) (by simp) (fun _=>trivial) (fun e=>by cases e)
 refine wp_cond_true (by kernel_rfl) (wp_seq (wp_region_list ?_))
 refine yk7 (v:=.iface 143 u) rfl (by kernel_rfl) ?_
 replace st:=st.putV (d:=some 9) (g:=true) (r:=.c .junk) (v:=.iface 143 u) (by simp) (fun _=>trivial) (fun e=>by cases e)
 refine yk7 (v:=.tuple #[u,.bool true]) rfl (by kernel_rfl) ?_
 replace st:=st.putV (d:=some 10) (g:=true) (r:=.tup [.agg [I6 at_,I6 code],.c (.bool true)]) (v:=.tuple #[u,.bool true]) (by simp) (fun _=>⟨[u,.bool true],rfl,u,_,rfl,hu,_,_,rfl,rfl,rfl⟩) (fun e=>by cases e)
 have key:=fun (ops:Array Oper) (l:List Oper) (Q:Exit→Act→World→Prop) dd hw=>ogc7 (ops:=ops) (l:=l) (Q:=Q) (nf:=6) zb7 st (Kp.refl _ _ _) dd hw
 refine key _ _ _ (qf7 (ops:=⟨_⟩) ?dd) ?_
 case dd=>kernel_rfl
 simp -implicitDefEqProofs only [go_sem,ls7,zo7]
 clear key st
 refine fun M1 a1 w1 st kp=>?_
 refine wyb7 zb7 (by kernel_rfl) (fun n=>match n with | 5=>([],1,some (.r 2)) | _=>([],0,none)) (by kernel_rfl) st kp ?_
 simp -implicitDefEqProofs only [go_sem,ls7,zo7]
 refine fun _ M2 a2 w2 st kp=>?_
 exact⟨st.df,_,rfl,.tuple #[],by kernel_rfl,⟨_,rfl⟩,rfl,M2,_,st.rel.env2,kp⟩
abbrev tree6 (k:Nat):Tw:=.br 0 4 (.br (k+2) 5 (.br 0 10 .d .no) (.br 0 10 (.br (k+2) 5 .d .no) .no)) (.br 0 10 (.br 0 4 (.br (k+2) 5 .d .no) .no) .no)
abbrev dk7 (a b c d:AV) (e:Int):Root:=.live false 47 5 (.box [a,b,c,d,I6 e])
def gH {α:Type} (id:Nat):List α→AV
 | []=>.nils
 | l=>.h id 0 l.length
theorem xu7 {α:Type}{id:Nat}:gH id ([]:List α) = .nils:=rfl
theorem vh7 {α:Type}{id:Nat}{x:α}{l:List α}:gH id (x::l) = .h id 0 (l.length+1):=rfl
def stA:List ba7→AV
 | []=>.nils
 | l=>.sl l.length 2 fun i j=>nth ((l.map fun s=>[I6 s.sat,I6 s.load]).getD i []) j
def trR:List (List ba7)→Root
 | []=>.dead
 | l=>.live false 69 1 (.gen (l.map fun s=>[stA s]))
def tmR:List (List Int)→Root
 | []=>.dead
 | l=>.live false 60 1 (.gen (l.map fun s=>[ay7 s]))
def bkR:List ga7→Root
 | []=>.dead
 | l=>.live false 75 2 (.gen (l.map fun b=>[I6 b.sat,ay7 b.stops]))
def riR:List ka7→Root
 | []=>.dead
 | l=>.live false 63 3 (.gen (l.map fun r=>[I6 r.out,ay7 r.starts,I6 r.back]))
def gqc7 (A C D:Root) (ws:List (List UInt8×Nat)) (len:Nat) (cost:Int) (a:(List (List ba7)×List (List Int))×Nat):List Root :=
 [A,dk7 (gH 5 a.1.1) .nils (gH 6 a.1.2) .nils cost,C,D,hb7 ws a.2 len,trR a.1.1,tmR a.1.2]
def occ7 (A C D:Root) (ws:List (List UInt8×Nat)) (len:Nat) (cost:Int) (T:List (List ba7)×List (List Int)) (a:(List ga7×List ka7)×Nat):List Root :=
 [A,dk7 (gH 5 T.1) (gH 7 a.1.1) (gH 6 T.2) (gH 8 a.1.2) cost,C,D,hb7 ws a.2 len,trR T.1,tmR T.2,bkR a.1.1,riR a.1.2]
theorem jr7.up {m n:Nat}{R:Root}(h:jr7 m R) (hmn:m≤n):jr7 n R:=fun k ids hk=>h k ids (by omega)
theorem ma7 {α:Type}{n id:Nat}{ids:List Nat}(l:List α) (h:id<n):fu7 n ids (gH id l)=gH id l:=by
 cases l with
 | nil=>rfl
 | cons v l =>
  show mkH 0 _ (cob7 n ids id)=_
  unfold cob7
  rw[if_pos h]
  rfl
theorem vmb7 {α β γ δ:Type}{m i1 i2 i3 i4:Nat}{a:List α}{b:List β}{c:List γ}{d:List δ}{e:Int}(h1:i1<m) (h2:i2<m) (h3:i3<m) (h4:i4<m):jr7 m (dk7 (gH i1 a) (gH i2 b) (gH i3 c) (gH i4 d) e):=by
 intro n ids h
 show Root.live false 47 5 (.box (znb7 n ids _))=_
 simp only[znb7,ma7 a (show i1<n by omega),ma7 b (show i2<n by omega),ma7 c (show i3<n by omega),ma7 d (show i4<n by omega)]
 rfl
theorem ya7 (l:List (List ba7)) (m:Nat):jr7 m (trR l):=fun _ _ _=>by cases l <;> rfl
theorem za7 (l:List (List Int)) (m:Nat):jr7 m (tmR l):=fun _ _ _=>by cases l <;> rfl
theorem vf7 {α β:Type}{x:Except Stt α}{f:α→Except Stt β}{b:β}(h:yf7 x f = .ok b):∃a,x = .ok a∧f a = .ok b:=by
 cases x with
 | ok a=>exact⟨a,rfl,h⟩
 | error e=>cases h
theorem uxb7 {ws:List (List UInt8×Nat)}{α:Type}{g:α×Nat→Except Stt (α×Nat)}(hg:∀a b,g a = .ok b→b.2≤ws.length):∀(n:Nat) (a b:α×Nat),uh7 g n a = .ok b→a.2≤ws.length→b.2≤ws.length
 | 0,a,b,h,ha=>by cases h;exact ha
 | n+1,a,b,h,_=>by
  rw[hj7]at h
  obtain⟨c,h1,h2⟩:=vf7 h
  exact uxb7 hg n c b h2 (hg _ _ h1)
theorem ngb7 {ws:List (List UInt8×Nat)}{i:Nat}{a:(List ba7×List Int)×Nat}(h:at7 ws i = .ok a):a.2≤ws.length:=by
 obtain⟨x,h1,h2⟩:=vf7 h
 refine uxb7 (fun a b hb=>?_) _ _ _ h2 (de7 h1).2
 obtain⟨y1,-,hb⟩:=vf7 hb
 obtain⟨y2,-,hb⟩:=vf7 hb
 obtain⟨y3,h3,hb⟩:=vf7 hb
 cases hb
 exact (de7 h3).2
theorem enb7 {ws:List (List UInt8×Nat)}{i:Nat}{a:(ga7×ka7)×Nat}(h:shb7 ws i = .ok a):a.2≤ws.length:=by
 obtain⟨x1,-,h⟩:=vf7 h
 obtain⟨x2,-,h⟩:=vf7 h
 obtain⟨x3,-,h⟩:=vf7 h
 obtain⟨x4,-,h⟩:=vf7 h
 obtain⟨x5,h5,h⟩:=vf7 h
 cases h
 exact (de7 h5).2
theorem eeb7 (l:List ga7) (m:Nat):jr7 m (bkR l):=fun _ _ _=>by cases l <;> rfl
theorem ncb7 (l:List ka7) (m:Nat):jr7 m (riR l):=fun _ _ _=>by cases l <;> rfl
theorem rzb7 [Pan] {A C D:Root}{ws:List (List UInt8×Nat)}{len:Nat}{K:RV→List Root→Prop}(hwn:ws.length≤1000000) (hw:∀w∈ws,(∀c∈w.1,c.toNat<128)) (hA:jr7 5 A) (hC:jr7 5 C) (hD:jr7 5 D)
  (hK:∀r a,ci7 ws = .ok a→K r (occ7 A C D ws len a.1.cost (a.1.plan.trucks,a.1.times.trucks) ((a.1.plan.bikes,a.1.times.bikes),a.2)))
  (hP:∀B,gvb7 A B C D ws len (ci7 ws)) :
  lb7 Tryz.prog none 25 [.c (.ptr 4 1 0 0),.c (.ptr 1 1 0 0)] [A,dk7 .nils .nils .nils .nils 0,C,D,hb7 ws 0 len] K:=by
 refine hf7 zb7 (by kernel_rfl) (fun n=>match n with | 6=>([0,1,2,3,6,7,8,9],0,some (.t [5] (tree6 5) [11,12,13,14,15,16,17] [11,12,13,14,15,16,17])) | 12=>([0,1,2,3,6,7,8,9],0,some (.t [7] (tree6 7) [11,12,13,14,15,16,17] [11,12,13,14,15,16,17])) | _=>([],0,none)) Tryz.func25 rfl (by kernel_rfl) Tryz.ntmps25 (congrArg Array.toList Tryz.results25) (by kernel_rfl) (by simp) ?_
 simp -implicitDefEqProofs only [go_sem]
 have hS:ci7 ws=ci7 ws:=rfl
 refine ocb7 (by omega) (fun _ i1 h1=>?_) (fun j c hx=>hP _ _ _ (hS.trans (ja7 hx)) _)
 have e1:=ieb7 h1
 replace hS:=hS.trans (va7 h1)
 refine nj7 (by omega) hw (fun cost i2 h2=>?_) (fun j c hx=>hP _ _ _ (hS.trans (ja7 hx)) _)
 replace hS:=hS.trans (va7 h2)
 obtain⟨b2,c2⟩:=de7 h2
 simp only at b2 c2
 simp -implicitDefEqProofs only [go_sem,dk7,hb7]
 refine ocb7 (by omega) (fun _ i3 h3=>?_) (fun j c hx=>hP _ _ _ (hS.trans (ja7 hx)) _)
 have e3:=ieb7 h3
 replace hS:=hS.trans (va7 h3)
 simp -implicitDefEqProofs only [go_sem,dk7,hb7]
 refine nj7 (by omega) hw (fun n i4 h4=>?_) (fun j c hx=>hP _ _ _ (hS.trans (ja7 hx)) _)
 replace hS:=hS.trans (va7 h4)
 obtain⟨b4,c4⟩:=de7 h4
 simp only at b4 c4
 simp -implicitDefEqProofs only [go_sem,dk7,hb7]
 clear h1 h2 h3 h4
 refine qc7 (ι:=Nat×((List (List ba7)×List (List Int))×Nat)) 2 [0,1,15] [16] (fun s=>(s.1≤n.toNat∧s.2.1.1.length=s.1∧s.2.1.2.length=s.1∧s.2.2≤ws.length)∧uh7 (vg7 ws) n.toNat (([],[]),i4)=uh7 (vg7 ws) (n.toNat-s.1) s.2) (fun s=>[.c (I6 s.1)]) (fun s=>gqc7 A C D ws len cost s.2) (fun s=>n.toNat-s.1) (by kernel_rfl) ⟨(0,([],[]),i4),⟨⟨Nat.zero_le _,rfl,rfl,c4⟩,rfl⟩,rfl,rfl⟩ (fun k _=>rfl) ?_
 rintro⟨k,⟨ss,ts⟩,j⟩ ⟨⟨hk,hl1,hl2,hj⟩,he⟩
 simp only at hk hl1 hl2 hj he
 rw[he]at hS
 simp -implicitDefEqProofs only [go_sem,gqc7,dk7,hb7]
 refine⟨fun h=>?_,fun h=>?_⟩
 ·clear hK
  have hn:n.toNat-k=(n.toNat-(k+1))+1:=by omega
  rw[hn,hj7]at he hS
  rcases ss with _ | ⟨s,ss⟩ <;> rcases ts with _ | ⟨v,ts⟩
  rotate_left
  ·simp only[List.length_cons,List.length_nil]at hl1 hl2;omega
  ·simp only[List.length_cons,List.length_nil]at hl1 hl2;omega
  rotate_left
  ·refine itb7 hj hwn hw (hA.up (by decide)) (vmb7 (a:=([]:List Nat)) (c:=([]:List Nat)) (i1:=0) (i3:=0) (b:=([]:List Nat)) (d:=([]:List Nat)) (i2:=0) (i4:=0) (by decide) (by decide) (by decide) (by decide)) (hC.up (by decide)) (hD.up (by decide)) (ya7 [] 7) (za7 [] 7) (fun a ha=>?_) (fun j c hx=>hP _ _ _ (hS.trans (ja7 (ja7 (ja7 hx)))))
   obtain⟨⟨sl,tl⟩,j1⟩:=a
   have bj:=ngb7 ha
   simp only at bj
   rw[show vg7 ws (([],[]),j)=_ from va7 ha]at he
   have he2:uh7 (vg7 ws) n.toNat (([],[]),i4)=uh7 (vg7 ws) (n.toNat-(k+1)) ((([]:List (List ba7))++[sl],([]:List (List Int))++[tl]),j1):=he
   clear he hS ha hP
   rcases sl with _ | ⟨z,sl⟩ <;> rcases tl with _ | ⟨u,tl⟩
   ·simp -implicitDefEqProofs only [go_sem,yg7,stH,stR,lH,lR,xu7,vh7,trR,tmR,hb7,dk7,List.length_map]
    and_intros
    any_goals omega
    ·refine⟨(k+1,((([]:List (List ba7))++[[]],([]:List (List Int))++[[]]),j1)),[13,15],⟨⟨by omega,by simp at hl1 ⊢; omega,by simp at hl2 ⊢; omega,bj⟩,he2⟩,⟨rfl,rfl⟩,rfl, ?_,by omega⟩
     rw[hA _ _ (by decide),hC _ _ (by decide),hD _ _ (by decide)]
     rfl
    ·refine⟨(k+1,((([]:List (List ba7))++[[]],([]:List (List Int))++[[]]),j1)),[14,15],⟨⟨by omega,by simp at hl1 ⊢; omega,by simp at hl2 ⊢; omega,bj⟩,he2⟩,⟨rfl,rfl⟩,rfl, ?_,by omega⟩
     rw[hA _ _ (by decide),hC _ _ (by decide),hD _ _ (by decide)]
     rfl
    ·refine⟨(k+1,((([]:List (List ba7))++[[]],([]:List (List Int))++[[]]),j1)),[14,15],⟨⟨by omega,by simp at hl1 ⊢; omega,by simp at hl2 ⊢; omega,bj⟩,he2⟩,⟨rfl,rfl⟩,rfl, ?_,by omega⟩
     rw[hA _ _ (by decide),hC _ _ (by decide),hD _ _ (by decide)]
     rfl
   ·simp -implicitDefEqProofs only [go_sem,yg7,stH,stR,lH,lR,xu7,vh7,trR,tmR,hb7,dk7,List.length_map]
    and_intros
    any_goals omega
    ·refine⟨(k+1,((([]:List (List ba7))++[[]],([]:List (List Int))++[(u::tl)]),j1)),[13,15],⟨⟨by omega,by simp at hl1 ⊢; omega,by simp at hl2 ⊢; omega,bj⟩,he2⟩,⟨rfl,rfl⟩,rfl, ?_,by omega⟩
     rw[hA _ _ (by decide),hC _ _ (by decide),hD _ _ (by decide)]
     rfl
    ·refine⟨(k+1,((([]:List (List ba7))++[[]],([]:List (List Int))++[(u::tl)]),j1)),[14,15],⟨⟨by omega,by simp at hl1 ⊢; omega,by simp at hl2 ⊢; omega,bj⟩,he2⟩,⟨rfl,rfl⟩,rfl, ?_,by omega⟩
     rw[hA _ _ (by decide),hC _ _ (by decide),hD _ _ (by decide)]
     rfl
    ·refine⟨(k+1,((([]:List (List ba7))++[[]],([]:List (List Int))++[(u::tl)]),j1)),[14,15],⟨⟨by omega,by simp at hl1 ⊢; omega,by simp at hl2 ⊢; omega,bj⟩,he2⟩,⟨rfl,rfl⟩,rfl, ?_,by omega⟩
     rw[hA _ _ (by decide),hC _ _ (by decide),hD _ _ (by decide)]
     rfl
   ·simp -implicitDefEqProofs only [go_sem,yg7,stH,stR,lH,lR,xu7,vh7,trR,tmR,hb7,dk7,List.length_map]
    and_intros
    any_goals omega
    ·refine⟨(k+1,((([]:List (List ba7))++[(z::sl)],([]:List (List Int))++[[]]),j1)),[13,15],⟨⟨by omega,by simp at hl1 ⊢; omega,by simp at hl2 ⊢; omega,bj⟩,he2⟩,⟨rfl,rfl⟩,rfl, ?_,by omega⟩
     rw[hA _ _ (by decide),hC _ _ (by decide),hD _ _ (by decide)]
     rfl
    ·refine⟨(k+1,((([]:List (List ba7))++[(z::sl)],([]:List (List Int))++[[]]),j1)),[14,15],⟨⟨by omega,by simp at hl1 ⊢; omega,by simp at hl2 ⊢; omega,bj⟩,he2⟩,⟨rfl,rfl⟩,rfl, ?_,by omega⟩
     rw[hA _ _ (by decide),hC _ _ (by decide),hD _ _ (by decide)]
     rfl
    ·refine⟨(k+1,((([]:List (List ba7))++[(z::sl)],([]:List (List Int))++[[]]),j1)),[14,15],⟨⟨by omega,by simp at hl1 ⊢; omega,by simp at hl2 ⊢; omega,bj⟩,he2⟩,⟨rfl,rfl⟩,rfl, ?_,by omega⟩
     rw[hA _ _ (by decide),hC _ _ (by decide),hD _ _ (by decide)]
     rfl
   ·simp -implicitDefEqProofs only [go_sem,yg7,stH,stR,lH,lR,xu7,vh7,trR,tmR,hb7,dk7,List.length_map]
    and_intros
    any_goals omega
    ·refine⟨(k+1,((([]:List (List ba7))++[(z::sl)],([]:List (List Int))++[(u::tl)]),j1)),[13,15],⟨⟨by omega,by simp at hl1 ⊢; omega,by simp at hl2 ⊢; omega,bj⟩,he2⟩,⟨rfl,rfl⟩,rfl, ?_,by omega⟩
     rw[hA _ _ (by decide),hC _ _ (by decide),hD _ _ (by decide)]
     rfl
    ·refine⟨(k+1,((([]:List (List ba7))++[(z::sl)],([]:List (List Int))++[(u::tl)]),j1)),[14,15],⟨⟨by omega,by simp at hl1 ⊢; omega,by simp at hl2 ⊢; omega,bj⟩,he2⟩,⟨rfl,rfl⟩,rfl, ?_,by omega⟩
     rw[hA _ _ (by decide),hC _ _ (by decide),hD _ _ (by decide)]
     rfl
    ·refine⟨(k+1,((([]:List (List ba7))++[(z::sl)],([]:List (List Int))++[(u::tl)]),j1)),[14,15],⟨⟨by omega,by simp at hl1 ⊢; omega,by simp at hl2 ⊢; omega,bj⟩,he2⟩,⟨rfl,rfl⟩,rfl, ?_,by omega⟩
     rw[hA _ _ (by decide),hC _ _ (by decide),hD _ _ (by decide)]
     rfl
  ·refine itb7 hj hwn hw (hA.up (by decide)) (vmb7 (a:=s::ss) (c:=v::ts) (i1:=5) (i3:=6) (b:=([]:List Nat)) (d:=([]:List Nat)) (i2:=0) (i4:=0) (by decide) (by decide) (by decide) (by decide)) (hC.up (by decide)) (hD.up (by decide)) (ya7 (s::ss) 7) (za7 (v::ts) 7) (fun a ha=>?_) (fun j c hx=>hP _ _ _ (hS.trans (ja7 (ja7 (ja7 hx)))))
   obtain⟨⟨sl,tl⟩,j1⟩:=a
   have bj:=ngb7 ha
   simp only at bj
   rw[show vg7 ws (((s::ss),(v::ts)),j)=_ from va7 ha]at he
   have he2:uh7 (vg7 ws) n.toNat (([],[]),i4)=uh7 (vg7 ws) (n.toNat-(k+1)) (((s::ss)++[sl],(v::ts)++[tl]),j1):=he
   clear he hS ha hP
   simp only[List.length_cons]at hl1 hl2
   rcases sl with _ | ⟨z,sl⟩ <;> rcases tl with _ | ⟨u,tl⟩
   ·simp -implicitDefEqProofs only [go_sem,yg7,stH,stR,lH,lR,xu7,vh7,trR,tmR,hb7,dk7,List.length_map]
    and_intros
    any_goals omega
    ·refine⟨(k+1,(((s::ss)++[[]],(v::ts)++[[]]),j1)),[5,6],⟨⟨by omega,by simp at hl1 ⊢; omega,by simp at hl2 ⊢; omega,bj⟩,he2⟩,⟨rfl,rfl⟩,rfl, ?_,by omega⟩
     rw[hA _ _ (by decide),hC _ _ (by decide),hD _ _ (by decide)]
     simp only[List.cons_append,vh7,trR,tmR,List.map_cons,List.map_append,List.map_nil,List.length_cons,List.length_append,List.length_nil]
     rfl
    ·refine⟨(k+1,(((s::ss)++[[]],(v::ts)++[[]]),j1)),[5,6],⟨⟨by omega,by simp at hl1 ⊢; omega,by simp at hl2 ⊢; omega,bj⟩,he2⟩,⟨rfl,rfl⟩,rfl, ?_,by omega⟩
     rw[hA _ _ (by decide),hC _ _ (by decide),hD _ _ (by decide)]
     simp only[List.cons_append,vh7,trR,tmR,List.map_cons,List.map_append,List.map_nil,List.length_cons,List.length_append,List.length_nil]
     rfl
    ·refine⟨(k+1,(((s::ss)++[[]],(v::ts)++[[]]),j1)),[5,6],⟨⟨by omega,by simp at hl1 ⊢; omega,by simp at hl2 ⊢; omega,bj⟩,he2⟩,⟨rfl,rfl⟩,rfl, ?_,by omega⟩
     rw[hA _ _ (by decide),hC _ _ (by decide),hD _ _ (by decide)]
     simp only[List.cons_append,vh7,trR,tmR,List.map_cons,List.map_append,List.map_nil,List.length_cons,List.length_append,List.length_nil]
     rfl
   ·simp -implicitDefEqProofs only [go_sem,yg7,stH,stR,lH,lR,xu7,vh7,trR,tmR,hb7,dk7,List.length_map]
    and_intros
    any_goals omega
    ·refine⟨(k+1,(((s::ss)++[[]],(v::ts)++[(u::tl)]),j1)),[5,6],⟨⟨by omega,by simp at hl1 ⊢; omega,by simp at hl2 ⊢; omega,bj⟩,he2⟩,⟨rfl,rfl⟩,rfl, ?_,by omega⟩
     rw[hA _ _ (by decide),hC _ _ (by decide),hD _ _ (by decide)]
     simp only[List.cons_append,vh7,trR,tmR,List.map_cons,List.map_append,List.map_nil,List.length_cons,List.length_append,List.length_nil]
     rfl
    ·refine⟨(k+1,(((s::ss)++[[]],(v::ts)++[(u::tl)]),j1)),[5,6],⟨⟨by omega,by simp at hl1 ⊢; omega,by simp at hl2 ⊢; omega,bj⟩,he2⟩,⟨rfl,rfl⟩,rfl, ?_,by omega⟩
     rw[hA _ _ (by decide),hC _ _ (by decide),hD _ _ (by decide)]
     simp only[List.cons_append,vh7,trR,tmR,List.map_cons,List.map_append,List.map_nil,List.length_cons,List.length_append,List.length_nil]
     rfl
    ·refine⟨(k+1,(((s::ss)++[[]],(v::ts)++[(u::tl)]),j1)),[5,6],⟨⟨by omega,by simp at hl1 ⊢; omega,by simp at hl2 ⊢; omega,bj⟩,he2⟩,⟨rfl,rfl⟩,rfl, ?_,by omega⟩
     rw[hA _ _ (by decide),hC _ _ (by decide),hD _ _ (by decide)]
     simp only[List.cons_append,vh7,trR,tmR,List.map_cons,List.map_append,List.map_nil,List.length_cons,List.length_append,List.length_nil]
     rfl
   ·simp -implicitDefEqProofs only [go_sem,yg7,stH,stR,lH,lR,xu7,vh7,trR,tmR,hb7,dk7,List.length_map]
    and_intros
    any_goals omega
    ·refine⟨(k+1,(((s::ss)++[(z::sl)],(v::ts)++[[]]),j1)),[5,6],⟨⟨by omega,by simp at hl1 ⊢; omega,by simp at hl2 ⊢; omega,bj⟩,he2⟩,⟨rfl,rfl⟩,rfl, ?_,by omega⟩
     rw[hA _ _ (by decide),hC _ _ (by decide),hD _ _ (by decide)]
     simp only[List.cons_append,vh7,trR,tmR,List.map_cons,List.map_append,List.map_nil,List.length_cons,List.length_append,List.length_nil]
     rfl
    ·refine⟨(k+1,(((s::ss)++[(z::sl)],(v::ts)++[[]]),j1)),[5,6],⟨⟨by omega,by simp at hl1 ⊢; omega,by simp at hl2 ⊢; omega,bj⟩,he2⟩,⟨rfl,rfl⟩,rfl, ?_,by omega⟩
     rw[hA _ _ (by decide),hC _ _ (by decide),hD _ _ (by decide)]
     simp only[List.cons_append,vh7,trR,tmR,List.map_cons,List.map_append,List.map_nil,List.length_cons,List.length_append,List.length_nil]
     rfl
    ·refine⟨(k+1,(((s::ss)++[(z::sl)],(v::ts)++[[]]),j1)),[5,6],⟨⟨by omega,by simp at hl1 ⊢; omega,by simp at hl2 ⊢; omega,bj⟩,he2⟩,⟨rfl,rfl⟩,rfl, ?_,by omega⟩
     rw[hA _ _ (by decide),hC _ _ (by decide),hD _ _ (by decide)]
     simp only[List.cons_append,vh7,trR,tmR,List.map_cons,List.map_append,List.map_nil,List.length_cons,List.length_append,List.length_nil]
     rfl
   ·simp -implicitDefEqProofs only [go_sem,yg7,stH,stR,lH,lR,xu7,vh7,trR,tmR,hb7,dk7,List.length_map]
    and_intros
    any_goals omega
    ·refine⟨(k+1,(((s::ss)++[(z::sl)],(v::ts)++[(u::tl)]),j1)),[5,6],⟨⟨by omega,by simp at hl1 ⊢; omega,by simp at hl2 ⊢; omega,bj⟩,he2⟩,⟨rfl,rfl⟩,rfl, ?_,by omega⟩
     rw[hA _ _ (by decide),hC _ _ (by decide),hD _ _ (by decide)]
     simp only[List.cons_append,vh7,trR,tmR,List.map_cons,List.map_append,List.map_nil,List.length_cons,List.length_append,List.length_nil]
     rfl
    ·refine⟨(k+1,(((s::ss)++[(z::sl)],(v::ts)++[(u::tl)]),j1)),[5,6],⟨⟨by omega,by simp at hl1 ⊢; omega,by simp at hl2 ⊢; omega,bj⟩,he2⟩,⟨rfl,rfl⟩,rfl, ?_,by omega⟩
     rw[hA _ _ (by decide),hC _ _ (by decide),hD _ _ (by decide)]
     simp only[List.cons_append,vh7,trR,tmR,List.map_cons,List.map_append,List.map_nil,List.length_cons,List.length_append,List.length_nil]
     rfl
    ·refine⟨(k+1,(((s::ss)++[(z::sl)],(v::ts)++[(u::tl)]),j1)),[5,6],⟨⟨by omega,by simp at hl1 ⊢; omega,by simp at hl2 ⊢; omega,bj⟩,he2⟩,⟨rfl,rfl⟩,rfl, ?_,by omega⟩
     rw[hA _ _ (by decide),hC _ _ (by decide),hD _ _ (by decide)]
     simp only[List.cons_append,vh7,trR,tmR,List.map_cons,List.map_append,List.map_nil,List.length_cons,List.length_append,List.length_nil]
     rfl
 ·have h0:n.toNat-k=0:=by omega
  rw[h0]at hS
  replace hS:=hS.trans (va7 (show uh7 (vg7 ws) 0 ((ss,ts),j) = .ok ((ss,ts),j) from rfl))
  clear he
  refine ocb7 (by omega) (fun _ i6 h6=>?_) (fun j c hx=>hP _ _ _ (hS.trans (ja7 hx)) _)
  have e6:=ieb7 h6
  replace hS:=hS.trans (va7 h6)
  simp -implicitDefEqProofs only [go_sem,dk7,hb7]
  refine nj7 (by omega) hw (fun m i7 h7=>?_) (fun j c hx=>hP _ _ _ (hS.trans (ja7 hx)) _)
  replace hS:=hS.trans (va7 h7)
  obtain⟨b7,c7⟩:=de7 h7
  simp only at b7 c7
  simp -implicitDefEqProofs only [go_sem,dk7,hb7]
  clear h6 h7 hk hl1 hl2 h h0 hj
  refine qc7 (ι:=Nat×((List ga7×List ka7)×Nat)) 2 [0,1,43] [44] (fun s=>(s.1≤m.toNat∧s.2.1.1.length=s.1∧s.2.1.2.length=s.1∧s.2.2≤ws.length)∧uh7 (oj7 ws) m.toNat (([],[]),i7)=uh7 (oj7 ws) (m.toNat-s.1) s.2) (fun s=>[.c (I6 s.1)]) (fun s=>occ7 A C D ws len cost (ss,ts) s.2) (fun s=>m.toNat-s.1) (by kernel_rfl) ⟨(0,([],[]),i7),⟨⟨Nat.zero_le _,rfl,rfl,c7⟩,rfl⟩,rfl,rfl⟩ (fun k _=>rfl) ?_
  rintro⟨k,⟨bs,rs⟩,j⟩ ⟨⟨hk,hl1,hl2,hj⟩,he⟩
  simp only at hk hl1 hl2 hj he
  rw[he]at hS
  simp -implicitDefEqProofs only [go_sem,occ7,dk7,hb7]
  refine⟨fun h=>?_,fun h=>?_⟩
  ·clear hK
   have hn:m.toNat-k=(m.toNat-(k+1))+1:=by omega
   rw[hn,hj7]at he hS
   rcases bs with _ | ⟨s,bs⟩ <;> rcases rs with _ | ⟨v,rs⟩
   rotate_left
   ·simp only[List.length_cons,List.length_nil]at hl1 hl2;omega
   ·simp only[List.length_cons,List.length_nil]at hl1 hl2;omega
   rotate_left
   ·refine bfc7 hj hwn hw (hA.up (by decide)) (vmb7 (b:=([]:List Nat)) (d:=([]:List Nat)) (i2:=0) (i4:=0) (a:=ss) (c:=ts) (i1:=5) (i3:=6)  (by decide) (by decide) (by decide) (by decide)) (hC.up (by decide)) (hD.up (by decide)) (ya7 ss 9) (za7 ts 9) (eeb7 [] 9) (ncb7 [] 9) (fun a ha=>?_) (fun j c hx=>hP _ _ _ (hS.trans (ja7 (ja7 (ja7 hx)))))
    obtain⟨⟨⟨sat,sl⟩,⟨ou,tl,back⟩⟩,j1⟩:=a
    have bj:=enb7 ha
    simp only at bj
    rw[show oj7 ws (([],[]),j)=_ from va7 ha]at he
    have he2:uh7 (oj7 ws) m.toNat (([],[]),i7)=uh7 (oj7 ws) (m.toNat-(k+1)) ((([]:List ga7)++[(⟨sat,sl⟩:ga7)],([]:List ka7)++[(⟨ou,tl,back⟩:ka7)]),j1):=he
    clear he hS ha hP
    rcases sl with _ | ⟨z,sl⟩ <;> rcases tl with _ | ⟨u,tl⟩
    ·simp -implicitDefEqProofs only [go_sem,iy7,iR,lH,lR,xu7,vh7,bkR,riR,hb7,dk7,List.length_map]
     and_intros
     any_goals omega
     ·refine⟨(k+1,((([]:List ga7)++[(⟨sat,[]⟩:ga7)],([]:List ka7)++[(⟨ou,[],back⟩:ka7)]),j1)),[18,20],⟨⟨by omega,by simp at hl1 ⊢; omega,by simp at hl2 ⊢; omega,bj⟩,he2⟩,⟨rfl,rfl⟩,rfl, ?_,by omega⟩
      simp only[ma7 _ (show 5<7 by decide),ma7 _ (show 6<7 by decide)]
      rw[hA _ _ (by decide),hC _ _ (by decide),hD _ _ (by decide),ya7 _ 7 _ _ (by decide),za7 _ 7 _ _ (by decide)]
      rfl
     ·refine⟨(k+1,((([]:List ga7)++[(⟨sat,[]⟩:ga7)],([]:List ka7)++[(⟨ou,[],back⟩:ka7)]),j1)),[19,20],⟨⟨by omega,by simp at hl1 ⊢; omega,by simp at hl2 ⊢; omega,bj⟩,he2⟩,⟨rfl,rfl⟩,rfl, ?_,by omega⟩
      simp only[ma7 _ (show 5<7 by decide),ma7 _ (show 6<7 by decide)]
      rw[hA _ _ (by decide),hC _ _ (by decide),hD _ _ (by decide),ya7 _ 7 _ _ (by decide),za7 _ 7 _ _ (by decide)]
      rfl
     ·refine⟨(k+1,((([]:List ga7)++[(⟨sat,[]⟩:ga7)],([]:List ka7)++[(⟨ou,[],back⟩:ka7)]),j1)),[19,20],⟨⟨by omega,by simp at hl1 ⊢; omega,by simp at hl2 ⊢; omega,bj⟩,he2⟩,⟨rfl,rfl⟩,rfl, ?_,by omega⟩
      simp only[ma7 _ (show 5<7 by decide),ma7 _ (show 6<7 by decide)]
      rw[hA _ _ (by decide),hC _ _ (by decide),hD _ _ (by decide),ya7 _ 7 _ _ (by decide),za7 _ 7 _ _ (by decide)]
      rfl
    ·simp -implicitDefEqProofs only [go_sem,iy7,iR,lH,lR,xu7,vh7,bkR,riR,hb7,dk7,List.length_map]
     and_intros
     any_goals omega
     ·refine⟨(k+1,((([]:List ga7)++[(⟨sat,[]⟩:ga7)],([]:List ka7)++[(⟨ou,(u::tl),back⟩:ka7)]),j1)),[18,20],⟨⟨by omega,by simp at hl1 ⊢; omega,by simp at hl2 ⊢; omega,bj⟩,he2⟩,⟨rfl,rfl⟩,rfl, ?_,by omega⟩
      simp only[ma7 _ (show 5<7 by decide),ma7 _ (show 6<7 by decide)]
      rw[hA _ _ (by decide),hC _ _ (by decide),hD _ _ (by decide),ya7 _ 7 _ _ (by decide),za7 _ 7 _ _ (by decide)]
      rfl
     ·refine⟨(k+1,((([]:List ga7)++[(⟨sat,[]⟩:ga7)],([]:List ka7)++[(⟨ou,(u::tl),back⟩:ka7)]),j1)),[19,20],⟨⟨by omega,by simp at hl1 ⊢; omega,by simp at hl2 ⊢; omega,bj⟩,he2⟩,⟨rfl,rfl⟩,rfl, ?_,by omega⟩
      simp only[ma7 _ (show 5<7 by decide),ma7 _ (show 6<7 by decide)]
      rw[hA _ _ (by decide),hC _ _ (by decide),hD _ _ (by decide),ya7 _ 7 _ _ (by decide),za7 _ 7 _ _ (by decide)]
      rfl
     ·refine⟨(k+1,((([]:List ga7)++[(⟨sat,[]⟩:ga7)],([]:List ka7)++[(⟨ou,(u::tl),back⟩:ka7)]),j1)),[19,20],⟨⟨by omega,by simp at hl1 ⊢; omega,by simp at hl2 ⊢; omega,bj⟩,he2⟩,⟨rfl,rfl⟩,rfl, ?_,by omega⟩
      simp only[ma7 _ (show 5<7 by decide),ma7 _ (show 6<7 by decide)]
      rw[hA _ _ (by decide),hC _ _ (by decide),hD _ _ (by decide),ya7 _ 7 _ _ (by decide),za7 _ 7 _ _ (by decide)]
      rfl
    ·simp -implicitDefEqProofs only [go_sem,iy7,iR,lH,lR,xu7,vh7,bkR,riR,hb7,dk7,List.length_map]
     and_intros
     any_goals omega
     ·refine⟨(k+1,((([]:List ga7)++[(⟨sat,(z::sl)⟩:ga7)],([]:List ka7)++[(⟨ou,[],back⟩:ka7)]),j1)),[18,20],⟨⟨by omega,by simp at hl1 ⊢; omega,by simp at hl2 ⊢; omega,bj⟩,he2⟩,⟨rfl,rfl⟩,rfl, ?_,by omega⟩
      simp only[ma7 _ (show 5<7 by decide),ma7 _ (show 6<7 by decide)]
      rw[hA _ _ (by decide),hC _ _ (by decide),hD _ _ (by decide),ya7 _ 7 _ _ (by decide),za7 _ 7 _ _ (by decide)]
      rfl
     ·refine⟨(k+1,((([]:List ga7)++[(⟨sat,(z::sl)⟩:ga7)],([]:List ka7)++[(⟨ou,[],back⟩:ka7)]),j1)),[19,20],⟨⟨by omega,by simp at hl1 ⊢; omega,by simp at hl2 ⊢; omega,bj⟩,he2⟩,⟨rfl,rfl⟩,rfl, ?_,by omega⟩
      simp only[ma7 _ (show 5<7 by decide),ma7 _ (show 6<7 by decide)]
      rw[hA _ _ (by decide),hC _ _ (by decide),hD _ _ (by decide),ya7 _ 7 _ _ (by decide),za7 _ 7 _ _ (by decide)]
      rfl
     ·refine⟨(k+1,((([]:List ga7)++[(⟨sat,(z::sl)⟩:ga7)],([]:List ka7)++[(⟨ou,[],back⟩:ka7)]),j1)),[19,20],⟨⟨by omega,by simp at hl1 ⊢; omega,by simp at hl2 ⊢; omega,bj⟩,he2⟩,⟨rfl,rfl⟩,rfl, ?_,by omega⟩
      simp only[ma7 _ (show 5<7 by decide),ma7 _ (show 6<7 by decide)]
      rw[hA _ _ (by decide),hC _ _ (by decide),hD _ _ (by decide),ya7 _ 7 _ _ (by decide),za7 _ 7 _ _ (by decide)]
      rfl
    ·simp -implicitDefEqProofs only [go_sem,iy7,iR,lH,lR,xu7,vh7,bkR,riR,hb7,dk7,List.length_map]
     and_intros
     any_goals omega
     ·refine⟨(k+1,((([]:List ga7)++[(⟨sat,(z::sl)⟩:ga7)],([]:List ka7)++[(⟨ou,(u::tl),back⟩:ka7)]),j1)),[18,20],⟨⟨by omega,by simp at hl1 ⊢; omega,by simp at hl2 ⊢; omega,bj⟩,he2⟩,⟨rfl,rfl⟩,rfl, ?_,by omega⟩
      simp only[ma7 _ (show 5<7 by decide),ma7 _ (show 6<7 by decide)]
      rw[hA _ _ (by decide),hC _ _ (by decide),hD _ _ (by decide),ya7 _ 7 _ _ (by decide),za7 _ 7 _ _ (by decide)]
      rfl
     ·refine⟨(k+1,((([]:List ga7)++[(⟨sat,(z::sl)⟩:ga7)],([]:List ka7)++[(⟨ou,(u::tl),back⟩:ka7)]),j1)),[19,20],⟨⟨by omega,by simp at hl1 ⊢; omega,by simp at hl2 ⊢; omega,bj⟩,he2⟩,⟨rfl,rfl⟩,rfl, ?_,by omega⟩
      simp only[ma7 _ (show 5<7 by decide),ma7 _ (show 6<7 by decide)]
      rw[hA _ _ (by decide),hC _ _ (by decide),hD _ _ (by decide),ya7 _ 7 _ _ (by decide),za7 _ 7 _ _ (by decide)]
      rfl
     ·refine⟨(k+1,((([]:List ga7)++[(⟨sat,(z::sl)⟩:ga7)],([]:List ka7)++[(⟨ou,(u::tl),back⟩:ka7)]),j1)),[19,20],⟨⟨by omega,by simp at hl1 ⊢; omega,by simp at hl2 ⊢; omega,bj⟩,he2⟩,⟨rfl,rfl⟩,rfl, ?_,by omega⟩
      simp only[ma7 _ (show 5<7 by decide),ma7 _ (show 6<7 by decide)]
      rw[hA _ _ (by decide),hC _ _ (by decide),hD _ _ (by decide),ya7 _ 7 _ _ (by decide),za7 _ 7 _ _ (by decide)]
      rfl
   ·refine bfc7 hj hwn hw (hA.up (by decide)) (vmb7 (b:=s::bs) (d:=v::rs) (i2:=7) (i4:=8) (a:=ss) (c:=ts) (i1:=5) (i3:=6)  (by decide) (by decide) (by decide) (by decide)) (hC.up (by decide)) (hD.up (by decide)) (ya7 ss 9) (za7 ts 9) (eeb7 (s::bs) 9) (ncb7 (v::rs) 9) (fun a ha=>?_) (fun j c hx=>hP _ _ _ (hS.trans (ja7 (ja7 (ja7 hx)))))
    obtain⟨⟨⟨sat,sl⟩,⟨ou,tl,back⟩⟩,j1⟩:=a
    have bj:=enb7 ha
    simp only at bj
    rw[show oj7 ws (((s::bs),(v::rs)),j)=_ from va7 ha]at he
    have he2:uh7 (oj7 ws) m.toNat (([],[]),i7)=uh7 (oj7 ws) (m.toNat-(k+1)) (((s::bs)++[(⟨sat,sl⟩:ga7)],(v::rs)++[(⟨ou,tl,back⟩:ka7)]),j1):=he
    clear he hS ha hP
    simp only[List.length_cons]at hl1 hl2
    rcases sl with _ | ⟨z,sl⟩ <;> rcases tl with _ | ⟨u,tl⟩
    ·simp -implicitDefEqProofs only [go_sem,iy7,iR,lH,lR,xu7,vh7,bkR,riR,hb7,dk7,List.length_map]
     and_intros
     any_goals omega
     ·refine⟨(k+1,(((s::bs)++[(⟨sat,[]⟩:ga7)],(v::rs)++[(⟨ou,[],back⟩:ka7)]),j1)),[7,8],⟨⟨by omega,by simp at hl1 ⊢; omega,by simp at hl2 ⊢; omega,bj⟩,he2⟩,⟨rfl,rfl⟩,rfl, ?_,by omega⟩
      simp only[ma7 _ (show 5<7 by decide),ma7 _ (show 6<7 by decide)]
      rw[hA _ _ (by decide),hC _ _ (by decide),hD _ _ (by decide),ya7 _ 7 _ _ (by decide),za7 _ 7 _ _ (by decide)]
      simp only[List.cons_append,vh7,bkR,riR,List.map_cons,List.map_append,List.map_nil,List.length_cons,List.length_append,List.length_nil]
      rfl
     ·refine⟨(k+1,(((s::bs)++[(⟨sat,[]⟩:ga7)],(v::rs)++[(⟨ou,[],back⟩:ka7)]),j1)),[7,8],⟨⟨by omega,by simp at hl1 ⊢; omega,by simp at hl2 ⊢; omega,bj⟩,he2⟩,⟨rfl,rfl⟩,rfl, ?_,by omega⟩
      simp only[ma7 _ (show 5<7 by decide),ma7 _ (show 6<7 by decide)]
      rw[hA _ _ (by decide),hC _ _ (by decide),hD _ _ (by decide),ya7 _ 7 _ _ (by decide),za7 _ 7 _ _ (by decide)]
      simp only[List.cons_append,vh7,bkR,riR,List.map_cons,List.map_append,List.map_nil,List.length_cons,List.length_append,List.length_nil]
      rfl
     ·refine⟨(k+1,(((s::bs)++[(⟨sat,[]⟩:ga7)],(v::rs)++[(⟨ou,[],back⟩:ka7)]),j1)),[7,8],⟨⟨by omega,by simp at hl1 ⊢; omega,by simp at hl2 ⊢; omega,bj⟩,he2⟩,⟨rfl,rfl⟩,rfl, ?_,by omega⟩
      simp only[ma7 _ (show 5<7 by decide),ma7 _ (show 6<7 by decide)]
      rw[hA _ _ (by decide),hC _ _ (by decide),hD _ _ (by decide),ya7 _ 7 _ _ (by decide),za7 _ 7 _ _ (by decide)]
      simp only[List.cons_append,vh7,bkR,riR,List.map_cons,List.map_append,List.map_nil,List.length_cons,List.length_append,List.length_nil]
      rfl
    ·simp -implicitDefEqProofs only [go_sem,iy7,iR,lH,lR,xu7,vh7,bkR,riR,hb7,dk7,List.length_map]
     and_intros
     any_goals omega
     ·refine⟨(k+1,(((s::bs)++[(⟨sat,[]⟩:ga7)],(v::rs)++[(⟨ou,(u::tl),back⟩:ka7)]),j1)),[7,8],⟨⟨by omega,by simp at hl1 ⊢; omega,by simp at hl2 ⊢; omega,bj⟩,he2⟩,⟨rfl,rfl⟩,rfl, ?_,by omega⟩
      simp only[ma7 _ (show 5<7 by decide),ma7 _ (show 6<7 by decide)]
      rw[hA _ _ (by decide),hC _ _ (by decide),hD _ _ (by decide),ya7 _ 7 _ _ (by decide),za7 _ 7 _ _ (by decide)]
      simp only[List.cons_append,vh7,bkR,riR,List.map_cons,List.map_append,List.map_nil,List.length_cons,List.length_append,List.length_nil]
      rfl
     ·refine⟨(k+1,(((s::bs)++[(⟨sat,[]⟩:ga7)],(v::rs)++[(⟨ou,(u::tl),back⟩:ka7)]),j1)),[7,8],⟨⟨by omega,by simp at hl1 ⊢; omega,by simp at hl2 ⊢; omega,bj⟩,he2⟩,⟨rfl,rfl⟩,rfl, ?_,by omega⟩
      simp only[ma7 _ (show 5<7 by decide),ma7 _ (show 6<7 by decide)]
      rw[hA _ _ (by decide),hC _ _ (by decide),hD _ _ (by decide),ya7 _ 7 _ _ (by decide),za7 _ 7 _ _ (by decide)]
      simp only[List.cons_append,vh7,bkR,riR,List.map_cons,List.map_append,List.map_nil,List.length_cons,List.length_append,List.length_nil]
      rfl
     ·refine⟨(k+1,(((s::bs)++[(⟨sat,[]⟩:ga7)],(v::rs)++[(⟨ou,(u::tl),back⟩:ka7)]),j1)),[7,8],⟨⟨by omega,by simp at hl1 ⊢; omega,by simp at hl2 ⊢; omega,bj⟩,he2⟩,⟨rfl,rfl⟩,rfl, ?_,by omega⟩
      simp only[ma7 _ (show 5<7 by decide),ma7 _ (show 6<7 by decide)]
      rw[hA _ _ (by decide),hC _ _ (by decide),hD _ _ (by decide),ya7 _ 7 _ _ (by decide),za7 _ 7 _ _ (by decide)]
      simp only[List.cons_append,vh7,bkR,riR,List.map_cons,List.map_append,List.map_nil,List.length_cons,List.length_append,List.length_nil]
      rfl
    ·simp -implicitDefEqProofs only [go_sem,iy7,iR,lH,lR,xu7,vh7,bkR,riR,hb7,dk7,List.length_map]
     and_intros
     any_goals omega
     ·refine⟨(k+1,(((s::bs)++[(⟨sat,(z::sl)⟩:ga7)],(v::rs)++[(⟨ou,[],back⟩:ka7)]),j1)),[7,8],⟨⟨by omega,by simp at hl1 ⊢; omega,by simp at hl2 ⊢; omega,bj⟩,he2⟩,⟨rfl,rfl⟩,rfl, ?_,by omega⟩
      simp only[ma7 _ (show 5<7 by decide),ma7 _ (show 6<7 by decide)]
      rw[hA _ _ (by decide),hC _ _ (by decide),hD _ _ (by decide),ya7 _ 7 _ _ (by decide),za7 _ 7 _ _ (by decide)]
      simp only[List.cons_append,vh7,bkR,riR,List.map_cons,List.map_append,List.map_nil,List.length_cons,List.length_append,List.length_nil]
      rfl
     ·refine⟨(k+1,(((s::bs)++[(⟨sat,(z::sl)⟩:ga7)],(v::rs)++[(⟨ou,[],back⟩:ka7)]),j1)),[7,8],⟨⟨by omega,by simp at hl1 ⊢; omega,by simp at hl2 ⊢; omega,bj⟩,he2⟩,⟨rfl,rfl⟩,rfl, ?_,by omega⟩
      simp only[ma7 _ (show 5<7 by decide),ma7 _ (show 6<7 by decide)]
      rw[hA _ _ (by decide),hC _ _ (by decide),hD _ _ (by decide),ya7 _ 7 _ _ (by decide),za7 _ 7 _ _ (by decide)]
      simp only[List.cons_append,vh7,bkR,riR,List.map_cons,List.map_append,List.map_nil,List.length_cons,List.length_append,List.length_nil]
      rfl
     ·refine⟨(k+1,(((s::bs)++[(⟨sat,(z::sl)⟩:ga7)],(v::rs)++[(⟨ou,[],back⟩:ka7)]),j1)),[7,8],⟨⟨by omega,by simp at hl1 ⊢; omega,by simp at hl2 ⊢; omega,bj⟩,he2⟩,⟨rfl,rfl⟩,rfl, ?_,by omega⟩
      simp only[ma7 _ (show 5<7 by decide),ma7 _ (show 6<7 by decide)]
      rw[hA _ _ (by decide),hC _ _ (by decide),hD _ _ (by decide),ya7 _ 7 _ _ (by decide),za7 _ 7 _ _ (by decide)]
      simp only[List.cons_append,vh7,bkR,riR,List.map_cons,List.map_append,List.map_nil,List.length_cons,List.length_append,List.length_nil]
      rfl
    ·simp -implicitDefEqProofs only [go_sem,iy7,iR,lH,lR,xu7,vh7,bkR,riR,hb7,dk7,List.length_map]
     and_intros
     any_goals omega
     ·refine⟨(k+1,(((s::bs)++[(⟨sat,(z::sl)⟩:ga7)],(v::rs)++[(⟨ou,(u::tl),back⟩:ka7)]),j1)),[7,8],⟨⟨by omega,by simp at hl1 ⊢; omega,by simp at hl2 ⊢; omega,bj⟩,he2⟩,⟨rfl,rfl⟩,rfl, ?_,by omega⟩
      simp only[ma7 _ (show 5<7 by decide),ma7 _ (show 6<7 by decide)]
      rw[hA _ _ (by decide),hC _ _ (by decide),hD _ _ (by decide),ya7 _ 7 _ _ (by decide),za7 _ 7 _ _ (by decide)]
      simp only[List.cons_append,vh7,bkR,riR,List.map_cons,List.map_append,List.map_nil,List.length_cons,List.length_append,List.length_nil]
      rfl
     ·refine⟨(k+1,(((s::bs)++[(⟨sat,(z::sl)⟩:ga7)],(v::rs)++[(⟨ou,(u::tl),back⟩:ka7)]),j1)),[7,8],⟨⟨by omega,by simp at hl1 ⊢; omega,by simp at hl2 ⊢; omega,bj⟩,he2⟩,⟨rfl,rfl⟩,rfl, ?_,by omega⟩
      simp only[ma7 _ (show 5<7 by decide),ma7 _ (show 6<7 by decide)]
      rw[hA _ _ (by decide),hC _ _ (by decide),hD _ _ (by decide),ya7 _ 7 _ _ (by decide),za7 _ 7 _ _ (by decide)]
      simp only[List.cons_append,vh7,bkR,riR,List.map_cons,List.map_append,List.map_nil,List.length_cons,List.length_append,List.length_nil]
      rfl
     ·refine⟨(k+1,(((s::bs)++[(⟨sat,(z::sl)⟩:ga7)],(v::rs)++[(⟨ou,(u::tl),back⟩:ka7)]),j1)),[7,8],⟨⟨by omega,by simp at hl1 ⊢; omega,by simp at hl2 ⊢; omega,bj⟩,he2⟩,⟨rfl,rfl⟩,rfl, ?_,by omega⟩
      simp only[ma7 _ (show 5<7 by decide),ma7 _ (show 6<7 by decide)]
      rw[hA _ _ (by decide),hC _ _ (by decide),hD _ _ (by decide),ya7 _ 7 _ _ (by decide),za7 _ 7 _ _ (by decide)]
      simp only[List.cons_append,vh7,bkR,riR,List.map_cons,List.map_append,List.map_nil,List.length_cons,List.length_append,List.length_nil]
      rfl
  ·have h0:m.toNat-k=0:=by omega
   rw[h0]at hS
   replace hS:=hS.trans (va7 (show uh7 (oj7 ws) 0 ((bs,rs),j) = .ok ((bs,rs),j) from rfl))
   refine ocb7 (by omega) (fun _ i9 h9=>?_) (fun j c hx=>hP _ _ _ (hS.trans (ja7 hx)) _)
   replace hS:=hS.trans (va7 h9)
   simp -implicitDefEqProofs only [go_sem,dk7,hb7]
   exact hK _ _ hS
end Go.Proofs.YtedahhjopmkbbaaGreat.Ab
