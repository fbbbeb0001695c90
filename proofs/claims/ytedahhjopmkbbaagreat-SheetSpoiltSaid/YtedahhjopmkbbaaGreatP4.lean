/- Texts of the proof, joined: WText, NumD, ReadD, ReadS, ReadP, WordE, AgainD, LoadAll, CodeD, One, Awake17, Awake22, Whole, FitsLaw, LoadsU, MakeOk, HaulErrors, HaulOrders, HaulTrucks, HaulWholes. -/
import Derived.Deep.DeepCutAuto
import Derived.Test.YtedahhjopmkbbaaGreatMake
import Derived.Test.YtedahhjopmkbbaaGreatDraft
import Derived.Test.YtedahhjopmkbbaaGreatSpoilt
set_option linter.all false
set_option maxRecDepth 100000
set_option maxHeartbeats 6400000
namespace Go.Proofs.YtedahhjopmkbbaaGreat
open Go.RowKit Go.Lib
def xib7 (n:Int):Int:=(n.natAbs:Int)
theorem ijc7 {n:Int}(hn:oa7 n) (w:World):Calls Tryz.prog 75 #[.int .i64 n] w fun e w'=>e = .returned (.int .u64 (xib7 n))∧w'=w:=by
 unfold oa7 at hn
 go_enter Tryz.func75,Tryz.ntmps75
 go_wp2
 ·rename_i h
  have e:IntKind.u64.wrap (-IntKind.u64.wrap n)=xib7 n:=by
   rw[IntKind.wrap_u64,IntKind.wrap_u64];unfold xib7;omega
  go_ret
  exact⟨by rw[e];rfl,rfl⟩
 ·rename_i h
  have e:n=xib7 n:=by unfold xib7;omega
  go_ret
  exact⟨by rw[← e];rfl,rfl⟩
def tfb7 (ds:List UInt8):List Value:=List.replicate (20-ds.length) (.int .u8 0)++Lib.byteCells ds
theorem jmb7 {ds:List UInt8}(h:ds.length≤20):(tfb7 ds).length=20:=by
 unfold tfb7
 rw[List.length_append,List.length_replicate,Lib.byteCells_length];omega
theorem zob7 {ds:List UInt8}(h:ds.length<20) (b:UInt8):(tfb7 ds).set (19-ds.length) (.int .u8 b.toNat)=tfb7 (b::ds):=by
 unfold tfb7
 have e:20-ds.length=(19-ds.length)+1:=by omega
 rw[e,List.replicate_succ',List.append_assoc,List.set_append_right _ _ (by simp),List.length_replicate,Nat.sub_self]
 simp[Lib.byteCells]
theorem dac7 {ds:List UInt8}(h:ds.length≤20) {j:Nat}(hj:j<ds.length):(tfb7 ds)[20-ds.length+j]? = some (.int .u8 ((ds[j]).toNat:Int)):=by
 unfold tfb7
 rw[List.getElem?_append_right (by simp),List.length_replicate,show 20-ds.length+j-(20-ds.length)=j by omega]
 simp[Lib.byteCells,hj]
theorem rwb7 {w:World}{q:Nat}{e:TypeId}{l:List UInt8}(h:Row w q e (tfb7 l)) (hl:l.length≤20) {o c n:Nat}(ho:o+l.length=20) (hn:n=l.length) :
  (convert 24 9 (.slice (some ⟨q,o,none⟩) n c)).run Tryz.prog w = .ok (.string (S l)) w:=by
 subst hn
 refine run_convert_bytes_back w 24 9 5 ⟨q,o,none⟩ c l Tryz.underlying24 Tryz.underlying5 Tryz.underlying9 fun j hj=>?_
 rw[Addr.add_lit]
 have h1:=dac7 hl hj
 rw[show 20-l.length+j=o+j by omega]at h1
 obtain⟨h2,h3⟩:=List.getElem?_eq_some_iff.1 h1
 rw[h.cell h2,h3]
theorem udc7 {q i:Nat}{z:Int}(hz:z=(i:Int)) (hi:i≤19) (w:World) :
  (Instr.sliceAt 166 (.pointer (some ⟨q,0,none⟩)) (some (.int .i64 z)) none none).run Tryz.prog w = .ok (.slice (some ⟨q,i,none⟩) (20-i) (20-i)) w:=by
 subst hz
 simp[Instr.sliceAt,run_underlying Tryz.underlying166,Instr.sliceBounds,Instr.sliceBound,asIntOf,Instr.sureAddr]
 rw[if_pos (by omega),if_neg (by omega),Addr.add_lit,Nat.zero_add]
theorem iwb7:∀(k u:Nat),u<10 ^ (k+1)→nDigits u≤k+1
 | 0,u,h=>by rw[nDigits_small (by simpa using h)];exact Nat.le_refl _
 | k+1,u,h=>by
  by_cases h1:u<10
  ·rw[nDigits_small h1];omega
  ·rw[nDigits_big h1]
   have:=iwb7 k (u / 10) (by rw[Nat.pow_succ]at h;omega)
   omega
theorem ilc7 {m:Nat}(h:m≤9223372036854775808):(decDigits m).length≤19:=by
 rw[decDigits_length]
 exact iwb7 18 m (by have:(10:Nat) ^ (18+1)=10000000000000000000:=(by decide);omega)
theorem bk7 {u:Nat}(h:u<10):decDigits u=[UInt8.ofNat (48+u % 10)]:=by rw[decDigits,dif_pos h,Nat.mod_eq_of_lt h]
theorem xx7 {u:Nat}(h:¬u<10):decDigits u=decDigits (u / 10)++[UInt8.ofNat (48+u % 10)]:=by rw[decDigits,dif_neg h]
theorem dvb7 {n:Int}(hn:oa7 n) (w:World):Calls Tryz.prog 64 #[.int .i64 n] w fun e w'=>e = .returned (.string (S (itoa n)))∧Below w.heap.size w w':=by
 obtain⟨m,hm⟩:∃m:Nat,m=n.natAbs:=⟨_,rfl⟩
 have hm19:(decDigits m).length≤19:=ilc7 (by rw[hm];unfold oa7 at hn;omega)
 have R0:=Row.new (w:=w) (e:=166) (cs:=tfb7 []) rfl
 have hb0:Below w.heap.size w (w.alloc (.cells (tfb7 []).toArray 166)):=(Below.refl _ _).alloc (Nat.le_refl _) _
 have hz:(tfb7 []).toArray = #[.int .u8 0,.int .u8 0,.int .u8 0,.int .u8 0,.int .u8 0,.int .u8 0,.int .u8 0,.int .u8 0,.int .u8 0,.int .u8 0,.int .u8 0,.int .u8 0,.int .u8 0,.int .u8 0,.int .u8 0,.int .u8 0,.int .u8 0,.int .u8 0,.int .u8 0,.int .u8 0]:=rfl
 have HR:=hid R0
 have HB:=hid hb0
 clear R0 hb0
 go_enter Tryz.func64,Tryz.ntmps64
 go_wp2_with (go_at_call 75;refine (ijc7 hn _).mono ?_)
 rintro e w1 ⟨rfl,rfl⟩
 rw[← hz]
 have HE:=hid hz
 clear hz
 generalize w.alloc (.cells (tfb7 []).toArray 166)=w1 at HR HB ⊢
 obtain⟨q,hq⟩:∃q,q=w.heap.size:=⟨_,rfl⟩
 rw[← hq]at HR ⊢
 have hsz:xib7 n=(m:Int):=by unfold xib7;rw[hm]
 rw[hsz]
 have HM:=hid hm
 clear hsz HE hm
 have hm2:m≤9223372036854775808:=by have:=HM.out;unfold oa7 at hn;omega
 have HQ:w.heap.size≤q:=by omega
 clear hq
 go_wp2
 go_loopw [4,5] (fun iv uv wr=>∃(ds:List UInt8) (u k:Nat),decDigits m=decDigits u++ds∧ds.length+k=19∧u≤9223372036854775808∧iv = .int .i64 ((k:Int)+1)∧uv = .int .u64 u∧Row wr q 166 (tfb7 ds)∧Below w.heap.size w wr) (fun _ uv _=>(RowKit.intOf uv).toNat)
 case atStart=>exact⟨[],m,19,by simp,rfl,hm2,rfl,rfl,HR.out,HB.out⟩
 case round =>
  clear HR HB
  obtain⟨ds,u,k,hd,hdl,hu,rfl,rfl,hr,hb⟩:=hrel
  have HB:=hid hb
  have hk:k≤19:=by omega
  have hfz:=hr.frozen k
  have hkl:k<(tfb7 ds).length:=by rw[jmb7 (by omega)];omega
  obtain⟨v0,hce⟩:∃v0,wr.cell? ⟨q,k,none⟩=some v0:=⟨_,hr.cell hkl⟩
  obtain⟨b,hbe⟩:∃b,b=UInt8.ofNat (48+u % 10):=⟨_,rfl⟩
  have hbv:(48:Int)+(u:Int) % 10=(b.toNat:Int):=by rw[hbe,UInt8.toNat_ofNat'];omega
  have hr2:Row (wr.setCell ⟨q,k,none⟩ (.int .u8 (48+(u:Int) % 10))) q 166 (tfb7 (b::ds)):=by
   rw[hbv,← zob7 (by omega),show 19-ds.length=k by omega]
   exact hr.set hkl _
  have hb2:Below w.heap.size w (wr.setCell ⟨q,k,none⟩ (.int .u8 (48+(u:Int) % 10))):=hb.setCell HQ _
  have HR:=hid hr2
  have HB2:=hid hb2
  have HBV:=hid hbv
  clear hr hb hkl hr2 hb2 hbv
  by_cases h10:u<10
  ·rw[bk7 h10,← hbe]at hd
   have hml:(b::ds).length≤19:=by have:=congrArg List.length hd;simp at this;simp;omega
   have hk1:1≤k:=by simp at hml;omega
   have HD:=hid hd
   clear hd hbe
   have h10':((u:Int)<10):=by omega
   by_cases hneg:n<0
   ·have hfz2:=HR.out.frozen (k-1)
    have hkl2:k-1<(tfb7 (b::ds)).length:=by rw[jmb7 (by omega)];omega
    obtain⟨v1,hce2⟩:∃v1,(wr.setCell ⟨q,k,none⟩ (.int .u8 (48+(u:Int) % 10))).cell? ⟨q,k-1,none⟩=some v1:=⟨_,HR.out.cell hkl2⟩
    have hr3:=HR.out.set hkl2 (.int .u8 45)
    rw[show k-1=19-(b::ds).length by simp;omega]at hr3
    have hr4:Row ((wr.setCell ⟨q,k,none⟩ (.int .u8 (48+(u:Int) % 10))).setCell ⟨q,k-1,none⟩ (.int .u8 45)) q 166 (tfb7 (45::b::ds)):=by
     rw[← zob7 (ds:=b::ds) (by omega) 45,show k-1=19-(b::ds).length by simp;omega]
     exact hr3
    have hcv:=rwb7 hr4 (by simp at hml ⊢; omega) (o:=k-1) (c:=20-(k-1)) (n:=20-(k-1)) (by simp;omega) (by simp;omega)
    have hb3:Below w.heap.size w ((wr.setCell ⟨q,k,none⟩ (.int .u8 (48+(u:Int) % 10))).setCell ⟨q,k-1,none⟩ (.int .u8 45)):=HB2.out.setCell HQ _
    have hsl:=udc7 (q:=q) (i:=k-1) (z:=(k:Int)-1) (by omega) (by omega)
    have HB3:=hid hb3
    clear hkl2 hr3 hr4 hb3
    go_wp2
    go_ret
    refine⟨?_,HB3.out⟩
    have hi:itoa n=45::b::ds:=by
     have hd:=HD.out
     unfold itoa
     rw[if_pos hneg,← HM.out,hd];rfl
    rw[hi];rfl
   ·have hcv:=rwb7 HR.out (by omega) (o:=k) (c:=20-k) (n:=20-k) (by simp;omega) (by simp;omega)
    have hsl:=udc7 (q:=q) (i:=k) (z:=(k:Int)) rfl (by omega)
    go_wp2
    go_ret
    refine⟨?_,HB2.out⟩
    have hi:itoa n=b::ds:=by
     have hd:=HD.out
     unfold itoa
     rw[if_neg (by omega),show n.toNat=m by have:=HM.out;omega,hd];rfl
    rw[hi];rfl
  ·rw[xx7 h10,← hbe,List.append_assoc]at hd
   have hml:(b::ds).length≤18:=by
    have h1:=congrArg List.length hd
    have h2:=es7 (u / 10)
    simp at h1;simp;omega
   have h10':¬((u:Int)<10):=by omega
   have HD:=hid hd
   clear hd hbe
   go_wp2
   go_roundw
   ·exact⟨b::ds,u / 10,k-1,HD.out,by simp at hml ⊢; omega,by omega,by congr 1;simp at hml;omega,by simp,HR.out,HB2.out⟩
   ·simp[RowKit.intOf];omega
end Go.Proofs.YtedahhjopmkbbaaGreat
namespace Go.Proofs.YtedahhjopmkbbaaGreat
open Go.RowKit Go.Lib
def dh7 (c:UInt8):Prop:=48≤c.toNat∧c.toNat≤57
instance (c:UInt8):Decidable (dh7 c):=by unfold dh7;infer_instance
def vbc7 (n:Nat) (c:UInt8):Nat:=n*10+(c.toNat-48)
def gm7 (l:List UInt8):Nat:=l.foldl vbc7 0
def zib7 (l:List UInt8) (k:Nat):Prop:=∀i,i<k→dh7 (l.getD i 0)
theorem nr7 {l:List UInt8}{k:Nat}(h:zib7 l k) (hc:dh7 (l.getD k 0)):zib7 l (k+1):=fun i hi=>by
 by_cases e:i=k
 ·rw[e];exact hc
 ·exact h i (by omega)
theorem xw7 {l:List UInt8}(h:zib7 l l.length):∀c∈l,dh7 c:=fun c hc=>by
 obtain⟨i,hi,rfl⟩:=List.getElem_of_mem hc
 have:=h i hi
 rwa [List.getD_eq_getElem?_getD,List.getElem?_eq_getElem hi]at this
theorem du7 {l:List UInt8}{k:Nat}(h:k<l.length):gm7 (l.take (k+1))=vbc7 (gm7 (l.take k)) (l.getD k 0):=by
 unfold gm7
 rw[List.take_succ_eq_append_getElem h,List.foldl_append,List.getD_eq_getElem?_getD,List.getElem?_eq_getElem h];rfl
theorem ynb7 {l:List UInt8}:∀k,k≤l.length→zib7 l k→gm7 (l.take k)<10 ^ k
 | 0,_,_=>by simp[gm7]
 | k+1,h,hd=>by
  have ih:=ynb7 k (by omega) (fun i hi=>hd i (by omega))
  have hc:=hd k (by omega)
  rw[du7 (by omega)]
  unfold vbc7
  unfold dh7 at hc
  rw[Nat.pow_succ]
  omega
def canon (l:List UInt8):Prop:=l≠[]∧(1<l.length→l.getD 0 0≠48)
theorem wdc7 {c:UInt8}(h:dh7 c):UInt8.ofNat (48+(c.toNat-48))=c:=by
 have h2:48+(c.toNat-48)=c.toNat:=by unfold dh7 at h;omega
 rw[h2];simp
theorem rcc7 (m:List UInt8) (d:UInt8):gm7 (m++[d])=gm7 m*10+(d.toNat-48):=by
 unfold gm7
 rw[List.foldl_append];rfl
theorem kfc7 {l:List UInt8}(hd:∀c∈l,dh7 c) (h0:l≠[]) (h:l.getD 0 0≠48):1≤gm7 l:=by
 have key:∀(m:List UInt8) (n:Nat),1≤n→1≤m.foldl vbc7 n:=fun m=>by
  induction m with
  | nil=>intro n h;exact h
  | cons a m ih=>intro n h;exact ih _ (by unfold vbc7;omega)
 match l,h0 with
 | a::l,_ =>
  have ha:a≠48:=h
  have hd:=hd a (List.mem_cons_self ..)
  refine key l _ ?_
  unfold vbc7
  have:a.toNat≠48:=fun e=>ha (UInt8.toNat_inj.1 e)
  unfold dh7 at hd
  omega
theorem lgc7:∀(l:List UInt8),(∀c∈l,dh7 c)→canon l→decDigits (gm7 l)=l:=by
 intro l
 induction hn:l.length generalizing l with
 | zero=>intro _ hc;exact absurd (List.length_eq_zero_iff.1 hn) hc.1
 | succ n ih =>
  intro hd hc
  obtain⟨m,d,rfl⟩:∃m d,l=m++[d]:=⟨l.dropLast,l.getLast hc.1,(List.dropLast_concat_getLast hc.1).symm⟩
  have hdd:=hd d (by simp)
  have hdm:∀c∈m,dh7 c:=fun c h=>hd c (by simp[h])
  have hml:m.length=n:=by simpa using hn
  rw[rcc7]
  unfold dh7 at hdd
  by_cases hm:m=[]
  ·subst hm
   rw[show gm7 []=0 from rfl,Nat.zero_mul,Nat.zero_add,bk7 (by omega),Nat.mod_eq_of_lt (by omega),wdc7 hdd];rfl
  ·have h0:m.getD 0 0≠48:=by
    have h1:=hc.2 (by simp;exact List.length_pos_iff.2 hm)
    rwa [List.getD_eq_getElem?_getD,List.getElem?_append_left (List.length_pos_iff.2 hm),← List.getD_eq_getElem?_getD]at h1
   have hp:=kfc7 hdm hm h0
   rw[xx7 (by omega)]
   rw[show (gm7 m*10+(d.toNat-48)) / 10=gm7 m by omega,show (gm7 m*10+(d.toNat-48)) % 10=d.toNat-48 by omega,wdc7 hdd,ih m hml hdm ⟨hm,fun _=>h0⟩]
theorem ubc7:∀(u:Nat),1≤u→(decDigits u).getD 0 0≠48:=by
 intro u
 induction u using Nat.strongRecOn with
 | ind u ih =>
  intro hu
  by_cases h:u<10
  ·rw[bk7 h,Nat.mod_eq_of_lt h]
   show UInt8.ofNat (48+u)≠48
   intro e
   have:=congrArg UInt8.toNat e
   have h48:(48+u) % 256=48:=this
   omega
  ·rw[xx7 h,List.getD_eq_getElem?_getD,List.getElem?_append_left (es7 _),← List.getD_eq_getElem?_getD]
   exact ih (u / 10) (by omega) (by omega)
theorem rxb7 (u:Nat):canon (decDigits u):=by
 refine⟨fun h=>by have:=es7 u;rw[h]at this;simp at this,fun h=>?_⟩
 by_cases hu:1≤u
 ·exact ubc7 u hu
 ·rw[show u=0 by omega,bk7 (by omega)]at h
  simp at h
def se7 (l:List UInt8):Option Nat :=
 if l.length≤16∧(∀c∈l,dh7 c)∧decDigits (gm7 l)=l∧gm7 l≤1000000000000000 then some (gm7 l) else none
end Go.Proofs.YtedahhjopmkbbaaGreat
namespace Go.Proofs.YtedahhjopmkbbaaGreat
open Go.RowKit
def wdN (ws:List (List UInt8×Nat)) (i:Nat):List UInt8:=(ws.getD i ([],0)).1
def jbb7 (ws:List (List UInt8×Nat)) (i:Nat) (code most:Int):Int×Nat×Int :=
 if ¬code=0 then (0,i,code)
 else if ws.length≤i then (0,i,3)
 else match se7 (wdN ws i) with
  | none=>(0,i,3)
  | some x=>if most<(x:Int) then (0,i,2) else (x,i+1,0)
def tr7 (ws:List (List UInt8×Nat)) (i:Nat) (code:Int) (w:List UInt8):Nat×Int :=
 if ¬code=0 then (i,code) else if ws.length≤i∨¬wdN ws i=w then (i,5) else (i+1,0)
abbrev Stt:=Nat×Int
structure Sim {α β:Type} (f:α×Stt→β×Stt) (g:α×Nat→Except Stt (β×Nat)):Prop where
 ok:∀a i b j,g (a,i) = .ok (b,j)→f (a,(i,0))=(b,(j,0))
 er:∀a i e,g (a,i) = .error e→(f (a,(i,0))).2=e∧e.2≠0
 stay:∀a i c,c≠0→(f (a,(i,c))).2=(i,c)
def rep {α:Type} (f:α→α):Nat→α→α
 | 0,a=>a
 | n+1,a=>rep f n (f a)
def uh7 {α:Type} (g:α×Nat→Except Stt (α×Nat)):Nat→α×Nat→Except Stt (α×Nat)
 | 0,a=>.ok a
 | n+1,a=>match g a with
  | .ok b=>uh7 g n b
  | .error e=>.error e
theorem Sim.rep_stay {α:Type}{f:α×Stt→α×Stt}{g:α×Nat→Except Stt (α×Nat)}(h:Sim f g):∀n a i c,c≠0→(rep f n (a,(i,c))).2=(i,c)
 | 0,_,_,_,_=>rfl
 | n+1,a,i,c,hc=>by
  have e:f (a,(i,c))=((f (a,(i,c))).1,(i,c)):=Prod.ext rfl (h.stay a i c hc)
  show (rep f n (f (a,(i,c)))).2=(i,c)
  rw[e]
  exact Sim.rep_stay h n _ i c hc
theorem Sim.rep_ok {α:Type}{f:α×Stt→α×Stt}{g:α×Nat→Except Stt (α×Nat)}(h:Sim f g):∀n a i b j,uh7 g n (a,i) = .ok (b,j)→rep f n (a,(i,0))=(b,(j,0))
 | 0,a,i,b,j,e=>by cases e;rfl
 | n+1,a,i,b,j,e=>by
  unfold uh7 at e
  split at e
  ·rename_i y hy
   obtain⟨c,k⟩:=y
   show rep f n (f (a,(i,0)))=_
   rw[h.ok a i c k hy]
   exact Sim.rep_ok h n c k b j e
  ·cases e
theorem Sim.rep_er {α:Type}{f:α×Stt→α×Stt}{g:α×Nat→Except Stt (α×Nat)}(h:Sim f g):∀n a i e,uh7 g n (a,i) = .error e→(rep f n (a,(i,0))).2=e∧e.2≠0
 | 0,a,i,e,h0=>by cases h0
 | n+1,a,i,e,h0=>by
  unfold uh7 at h0
  split at h0
  ·rename_i y hy
   obtain⟨c,k⟩:=y
   show (rep f n (f (a,(i,0)))).2=e∧_
   rw[h.ok a i c k hy]
   exact Sim.rep_er h n c k e h0
  ·rename_i e2 hy
   cases h0
   obtain⟨h1,h2⟩:=h.er a i e hy
   refine⟨?_,h2⟩
   have e3:f (a,(i,0))=((f (a,(i,0))).1,(e.1,e.2)):=Prod.ext rfl h1
   show (rep f n (f (a,(i,0)))).2=e
   rw[e3]
   exact h.rep_stay n _ e.1 e.2 h2
structure Rd (α β:Type) where
 f:α×Stt→β×Stt
 g:α×Nat→Except Stt (β×Nat)
 sim:Sim f g
def Rd.map {α β:Type} (φ:α→β):Rd α β:=⟨fun a=>(φ a.1,a.2),fun a=>.ok (φ a.1,a.2),⟨(fun a i b j e=>by cases e;rfl),(fun a i e h=>by cases h),fun a i c _=>rfl⟩⟩
def Rd.seq {α β γ:Type} (r:Rd α β) (q:Rd β γ):Rd α γ where
 f:=fun a=>q.f (r.f a)
 g:=fun a=>match r.g a with
  | .ok b=>q.g b
  | .error e=>.error e
 sim:=by
  refine⟨fun a i b j e=>?_,fun a i e h=>?_,fun a i c hc=>?_⟩
  ·split at e
   ·rename_i y hy
    obtain⟨d,k⟩:=y
    show q.f (r.f (a,(i,0)))=_
    rw[r.sim.ok a i d k hy]
    exact q.sim.ok d k b j e
   ·cases e
  ·split at h
   ·rename_i y hy
    obtain⟨d,k⟩:=y
    show (q.f (r.f (a,(i,0)))).2=e∧_
    rw[r.sim.ok a i d k hy]
    exact q.sim.er d k e h
   ·rename_i e2 hy
    cases h
    obtain⟨h1,h2⟩:=r.sim.er a i e hy
    refine⟨?_,h2⟩
    have e3:r.f (a,(i,0))=((r.f (a,(i,0))).1,(e.1,e.2)):=Prod.ext rfl h1
    show (q.f (r.f (a,(i,0)))).2=e
    rw[e3]
    exact q.sim.stay _ e.1 e.2 h2
  ·have e3:r.f (a,(i,c))=((r.f (a,(i,c))).1,(i,c)):=Prod.ext rfl (r.sim.stay a i c hc)
   show (q.f (r.f (a,(i,c)))).2=(i,c)
   rw[e3]
   exact q.sim.stay _ i c hc
def Rd.rep {α:Type} (r:Rd α α):Rd (α×Int) α where
 f:=fun a=>Go.Proofs.YtedahhjopmkbbaaGreat.rep r.f a.1.2.toNat (a.1.1,a.2)
 g:=fun a=>uh7 r.g a.1.2.toNat (a.1.1,a.2)
 sim:=⟨fun a i b j e=>r.sim.rep_ok _ _ _ _ _ e,fun a i e h=>r.sim.rep_er _ _ _ _ h,fun a i c hc=>r.sim.rep_stay _ _ _ _ hc⟩
def vj7 (ws:List (List UInt8×Nat)) (most:Int) (i:Nat):Except Stt (Int×Nat) :=
 if ws.length≤i then .error (i,3)
 else match se7 (wdN ws i) with
  | none=>.error (i,3)
  | some x=>if most<(x:Int) then .error (i,2) else .ok (x,i+1)
def hi7 (ws:List (List UInt8×Nat)) (w:List UInt8) (i:Nat):Except Stt Nat :=
 if ws.length≤i∨¬wdN ws i=w then .error (i,5) else .ok (i+1)
def Rd.num {α:Type} (ws:List (List UInt8×Nat)) (most:Int):Rd α (α×Int) where
 f:=fun a=>((a.1,(jbb7 ws a.2.1 a.2.2 most).1),(jbb7 ws a.2.1 a.2.2 most).2)
 g:=fun a=>match vj7 ws most a.2 with
  | .ok y=>.ok ((a.1,y.1),y.2)
  | .error e=>.error e
 sim:=by
  refine⟨fun a i b j e=>?_,fun a i e h=>?_,fun a i c hc=>?_⟩
  ·simp only[vj7]at e
   simp only[jbb7]
   rw[if_neg (by simp)]
   split at e
   ·rename_i y hy
    split at hy
    ·cases hy
    ·rename_i h1
     rw[if_neg h1]
     cases hp:se7 (wdN ws i) with
     | none=>rw[hp]at hy;cases hy
     | some x =>
      rw[hp]at hy
      simp only at hy ⊢
      split at hy
      ·cases hy
      ·rename_i h2
       cases hy
       cases e
       rw[if_neg h2]
   ·cases e
  ·simp only[vj7]at h
   simp only[jbb7]
   rw[if_neg (by simp)]
   split at h
   ·cases h
   ·rename_i e2 hy
    cases h
    split at hy
    ·rename_i h1
     cases hy
     rw[if_pos h1]
     exact⟨rfl,by simp⟩
    ·rename_i h1
     rw[if_neg h1]
     cases hp:se7 (wdN ws i) with
     | none=>rw[hp]at hy;cases hy;exact⟨rfl,by simp⟩
     | some x =>
      rw[hp]at hy
      simp only at hy ⊢
      split at hy
      ·rename_i h2
       cases hy
       rw[if_pos h2]
       exact⟨rfl,by simp⟩
      ·cases hy
  ·simp only[jbb7]
   rw[if_pos hc]
def Rd.must {α:Type} (ws:List (List UInt8×Nat)) (w:List UInt8):Rd α α where
 f:=fun a=>(a.1,tr7 ws a.2.1 a.2.2 w)
 g:=fun a=>match hi7 ws w a.2 with
  | .ok y=>.ok (a.1,y)
  | .error e=>.error e
 sim:=by
  refine⟨fun a i b j e=>?_,fun a i e h=>?_,fun a i c hc=>?_⟩
  ·simp only[hi7]at e
   simp only[tr7]
   rw[if_neg (by simp)]
   split at e
   ·rename_i y hy
    split at hy
    ·cases hy
    ·rename_i h1
     cases hy
     cases e
     rw[if_neg h1]
   ·cases e
  ·simp only[hi7]at h
   simp only[tr7]
   rw[if_neg (by simp)]
   split at h
   ·cases h
   ·rename_i e2 hy
    cases h
    split at hy
    ·rename_i h1
     cases hy
     rw[if_pos h1]
     exact⟨rfl,by simp⟩
    ·cases hy
  ·simp only[tr7]
   rw[if_pos hc]
section
variable (ws:List (List UInt8×Nat))
def emb7 (A:Type):Rd (A×(List ba7×List Int)) (A×(List ba7×List Int)) :=
 (((Rd.num ws 11).seq (Rd.num ws 1000000000)).seq (Rd.num ws 1000000000)).seq (Rd.map fun x=>(x.1.1.1.1,(x.1.1.1.2.1++[⟨x.1.1.2,x.1.2⟩],x.1.1.1.2.2++[x.2])))
def aw7 (A:Type):Rd (A×(List (List ba7)×List (List Int))) (A×(List (List ba7)×List (List Int))) :=
 (((Rd.num ws 12).seq (Rd.map fun x=>((x.1,(([],[]):List ba7×List Int)),x.2))).seq (emb7 ws _).rep).seq (Rd.map fun x=>(x.1.1,(x.1.2.1++[x.2.1],x.1.2.2++[x.2.2])))
def zmb7 (A:Type):Rd (A×(List Int×List Int)) (A×(List Int×List Int)) :=
 ((Rd.num ws 47).seq (Rd.num ws 1000000000)).seq (Rd.map fun x=>(x.1.1.1,(x.1.1.2.1++[x.1.2],x.1.1.2.2++[x.2])))
def phb7 (A:Type):Rd (A×(List ga7×List ka7)) (A×(List ga7×List ka7)) :=
 ((((((Rd.num ws 11).seq (Rd.num ws 1000000000)).seq (Rd.num ws 48)).seq (Rd.map fun x=>((x.1,(([],[]):List Int×List Int)),x.2))).seq (zmb7 ws _).rep).seq (Rd.num ws 1000000000)).seq
  (Rd.map fun x=>(x.1.1.1.1.1,(x.1.1.1.1.2.1++[⟨x.1.1.1.2,x.1.2.1⟩],x.1.1.1.1.2.2++[⟨x.1.1.2,x.1.2.2,x.2⟩])))
def ql7:Rd Unit zd7 :=
 ((((((((((Rd.must ws [112,108,97,110]).seq (Rd.num ws 1000000000000000)).seq (Rd.must ws [116,114,117,99,107,115])).seq (Rd.num ws 60)).seq (Rd.map fun x=>((x.1.2,(([],[]):List (List ba7)×List (List Int))),x.2))).seq (aw7 ws _).rep).seq
  (Rd.must ws [98,105,107,101,115])).seq (Rd.num ws 60)).seq (Rd.map fun x=>((x.1,(([],[]):List ga7×List ka7)),x.2))).seq (phb7 ws _).rep).seq
  ((Rd.must ws [101,110,100]).seq (Rd.map fun x=>⟨⟨x.1.2.1,x.2.1⟩,⟨x.1.2.2,x.2.2⟩,x.1.1⟩))
def gg7:zd7:=⟨⟨[],[]⟩,⟨[],[]⟩,0⟩
def hg7 (len i:Nat):Int:=if i<ws.length then ((ws.getD i ([],0)).2:Int) else (len:Int)
def vkb7 (len:Nat) (x:zd7×Stt):zd7×Int×Int :=
 let c:=if x.2.2=0∧x.2.1<ws.length then 6 else x.2.2
 if ¬c=0 then (gg7,hg7 ws len x.2.1,c) else (x.1,0,0)
def bgc7 (len:Nat) (x:Except Stt (zd7×Nat)):zd7×Int×Int:=match x with
 | .ok (s,i)=>if i<ws.length then (gg7,hg7 ws len i,6) else (s,0,0)
 | .error (i,c)=>(gg7,hg7 ws len i,c)
theorem cwb7 (len:Nat):vkb7 ws len ((ql7 ws).f ((),(0,0)))=bgc7 ws len ((ql7 ws).g ((),0)):=by
 have h:=(ql7 ws).sim
 cases hg:(ql7 ws).g ((),0) with
 | ok y =>
  obtain⟨s,i⟩:=y
  rw[h.ok _ _ _ _ hg]
  unfold vkb7 bgc7
  by_cases hi:i<ws.length
  ·simp[hi]
  ·simp[hi]
 | error e =>
  obtain⟨i,c⟩:=e
  obtain⟨h1,h2⟩:=h.er _ _ _ hg
  have h2:¬c=0:=h2
  unfold vkb7 bgc7
  rw[h1]
  simp[h2]
end
def yf7 {α β:Type} (x:Except Stt α) (f:α→Except Stt β):Except Stt β:=match x with
 | .ok a=>f a
 | .error e=>.error e
section
variable (ws:List (List UInt8×Nat))
def cr7 (a:(List ba7×List Int)×Nat):Except Stt ((List ba7×List Int)×Nat) :=
 yf7 (vj7 ws 11 a.2) fun x=>yf7 (vj7 ws 1000000000 x.2) fun y=>yf7 (vj7 ws 1000000000 y.2) fun z=>.ok ((a.1.1++[⟨x.1,y.1⟩],a.1.2++[z.1]),z.2)
def at7 (i:Nat):Except Stt ((List ba7×List Int)×Nat):=yf7 (vj7 ws 12 i) fun x=>uh7 (cr7 ws) x.1.toNat (([],[]),x.2)
def vg7 (a:(List (List ba7)×List (List Int))×Nat):Except Stt ((List (List ba7)×List (List Int))×Nat) :=
 yf7 (at7 ws a.2) fun x=>.ok ((a.1.1++[x.1.1],a.1.2++[x.1.2]),x.2)
def hp7 (a:(List Int×List Int)×Nat):Except Stt ((List Int×List Int)×Nat) :=
 yf7 (vj7 ws 47 a.2) fun x=>yf7 (vj7 ws 1000000000 x.2) fun y=>.ok ((a.1.1++[x.1],a.1.2++[y.1]),y.2)
def shb7 (i:Nat):Except Stt ((ga7×ka7)×Nat) :=
 yf7 (vj7 ws 11 i) fun s=>yf7 (vj7 ws 1000000000 s.2) fun o=>yf7 (vj7 ws 48 o.2) fun n=>yf7 (uh7 (hp7 ws) n.1.toNat (([],[]),n.2)) fun l=>yf7 (vj7 ws 1000000000 l.2) fun b=>.ok ((⟨s.1,l.1.1⟩,⟨o.1,l.1.2,b.1⟩),b.2)
def oj7 (a:(List ga7×List ka7)×Nat):Except Stt ((List ga7×List ka7)×Nat) :=
 yf7 (shb7 ws a.2) fun x=>.ok ((a.1.1++[x.1.1],a.1.2++[x.1.2]),x.2)
def ci7:Except Stt (zd7×Nat) :=
 yf7 (hi7 ws [112,108,97,110] 0) fun i1=>yf7 (vj7 ws 1000000000000000 i1) fun c=>yf7 (hi7 ws [116,114,117,99,107,115] c.2) fun i3=>yf7 (vj7 ws 60 i3) fun n =>
 yf7 (uh7 (vg7 ws) n.1.toNat (([],[]),n.2)) fun T=>yf7 (hi7 ws [98,105,107,101,115] T.2) fun i6=>yf7 (vj7 ws 60 i6) fun m =>
 yf7 (uh7 (oj7 ws) m.1.toNat (([],[]),m.2)) fun B=>yf7 (hi7 ws [101,110,100] B.2) fun i9=>.ok (⟨⟨T.1.1,B.1.1⟩,⟨T.1.2,B.1.2⟩,c.1⟩,i9)
def carry {A α:Type} (a:A) (x:Except Stt (α×Nat)):Except Stt ((A×α)×Nat):=match x with
 | .ok y=>.ok ((a,y.1),y.2)
 | .error e=>.error e
theorem kk7 {A α:Type}{g:(A×α)×Nat→Except Stt ((A×α)×Nat)}{h:α×Nat→Except Stt (α×Nat)}(hg:∀a l i,g ((a,l),i)=carry a (h (l,i))):∀n a l i,uh7 g n ((a,l),i)=carry a (uh7 h n (l,i))
 | 0,_,_,_=>rfl
 | n+1,a,l,i=>by
  unfold uh7
  rw[hg]
  cases h (l,i) with
  | ok y=>exact kk7 hg n a y.1 y.2
  | error e=>rfl
theorem bqb7 (A:Type) (a:A) (l:List ba7×List Int) (i:Nat):(emb7 ws A).g ((a,l),i)=carry a (cr7 ws (l,i)):=by
 simp only[emb7,Rd.seq,Rd.num,Rd.map,cr7,yf7]
 cases vj7 ws 11 i with
 | error e=>rfl
 | ok x =>
  dsimp only
  cases vj7 ws 1000000000 x.2 with
  | error e=>rfl
  | ok y =>
   dsimp only
   cases vj7 ws 1000000000 y.2 with
   | error e=>rfl
   | ok z=>rfl
theorem hjb7 (A:Type) (a:A) (l:List (List ba7)×List (List Int)) (i:Nat):(aw7 ws A).g ((a,l),i)=carry a (vg7 ws (l,i)):=by
 simp only[aw7,Rd.seq,Rd.num,Rd.map,Rd.rep,vg7,at7,yf7]
 cases vj7 ws 12 i with
 | error e=>rfl
 | ok x =>
  dsimp only
  rw[kk7 (bqb7 ws _)]
  cases uh7 (cr7 ws) x.1.toNat (([],[]),x.2) with
  | error e=>rfl
  | ok y=>rfl
theorem uqb7 (A:Type) (a:A) (l:List Int×List Int) (i:Nat):(zmb7 ws A).g ((a,l),i)=carry a (hp7 ws (l,i)):=by
 simp only[zmb7,Rd.seq,Rd.num,Rd.map,hp7,yf7]
 cases vj7 ws 47 i with
 | error e=>rfl
 | ok x =>
  dsimp only
  cases vj7 ws 1000000000 x.2 with
  | error e=>rfl
  | ok y=>rfl
theorem gqb7 (A:Type) (a:A) (l:List ga7×List ka7) (i:Nat):(phb7 ws A).g ((a,l),i)=carry a (oj7 ws (l,i)):=by
 simp only[phb7,Rd.seq,Rd.num,Rd.map,Rd.rep,oj7,shb7,yf7]
 cases vj7 ws 11 i with
 | error e=>rfl
 | ok x =>
  dsimp only
  cases vj7 ws 1000000000 x.2 with
  | error e=>rfl
  | ok y =>
   dsimp only
   cases vj7 ws 48 y.2 with
   | error e=>rfl
   | ok n =>
    dsimp only
    rw[kk7 (uqb7 ws _)]
    cases uh7 (hp7 ws) n.1.toNat (([],[]),n.2) with
    | error e=>rfl
    | ok c =>
     dsimp only [carry]
     cases vj7 ws 1000000000 c.2 with
     | error e=>rfl
     | ok z=>rfl
theorem dab7:(ql7 ws).g ((),0)=ci7 ws:=by
 simp only[ql7,Rd.seq,Rd.num,Rd.map,Rd.must,Rd.rep,ci7,yf7]
 cases hi7 ws [112,108,97,110] 0 with
 | error e=>rfl
 | ok i1 =>
  dsimp only
  cases vj7 ws 1000000000000000 i1 with
  | error e=>rfl
  | ok c =>
   dsimp only
   cases hi7 ws [116,114,117,99,107,115] c.2 with
   | error e=>rfl
   | ok i3 =>
    dsimp only
    cases vj7 ws 60 i3 with
    | error e=>rfl
    | ok n =>
     dsimp only
     rw[kk7 (hjb7 ws _)]
     cases uh7 (vg7 ws) n.1.toNat (([],[]),n.2) with
     | error e=>rfl
     | ok T =>
      dsimp only [carry]
      cases hi7 ws [98,105,107,101,115] T.2 with
      | error e=>rfl
      | ok i6 =>
       dsimp only
       cases vj7 ws 60 i6 with
       | error e=>rfl
       | ok m =>
        dsimp only
        rw[kk7 (gqb7 ws _)]
        cases uh7 (oj7 ws) m.1.toNat (([],[]),m.2) with
        | error e=>rfl
        | ok B =>
         dsimp only [carry]
         cases hi7 ws [101,110,100] B.2 with
         | error e=>rfl
         | ok i9=>rfl
end
theorem ofc7 {s:List UInt8}{a b:Nat}:(∀c∈hib7 s a b,c∈s)∧(hib7 s a b).length≤s.length:=by
 refine⟨fun c hc=>List.mem_of_mem_drop (List.mem_of_mem_take hc), ?_⟩
 unfold hib7
 rw[List.length_take,List.length_drop];omega
theorem vdb7 (s:List UInt8):∀k,∀w∈(scan s k).out,(∀c∈w.1,c∈s)∧w.1.length≤s.length
 | 0,w,h=>by cases h
 | k+1,w,h=>by
  have ih:=vdb7 s k
  unfold scan zp7 at h
  split at h
  ·exact ih w h
  ·split at h
   ·cases hf:(scan s k).fr with
    | some a =>
     rw[hf]at h
     simp only[List.mem_append,List.mem_singleton]at h
     rcases h with h | rfl
     ·exact ih w h
     ·exact ofc7
    | none =>
     rw[hf]at h
     exact ih w h
   ·cases hf:(scan s k).fr with
    | some a=>rw[hf]at h;exact ih w h
    | none=>rw[hf]at h;exact ih w h
theorem zqc7 {s:List UInt8}(h:xkb7 s s.length):∀c∈s,c.toNat<128:=fun c hc=>by
 obtain⟨i,hi,rfl⟩:=List.getElem_of_mem hc
 have h1:=h i hi
 rw[List.getD_eq_getElem?_getD,List.getElem?_eq_getElem hi,Option.getD_some,dnb7]at h1
 unfold bac7 at h1
 simp only[Bool.and_eq_false_iff,Bool.or_eq_false_iff,decide_eq_false_iff_not,Decidable.not_not]at h1
 omega
theorem pgb7 {s:List UInt8}(h:xkb7 s s.length):(∀w∈ta7 s,(∀c∈w.1,c.toNat<128)∧w.1.length≤s.length)∧(ta7 s).length≤s.length+1 :=
 ⟨fun w hw=>⟨fun c hc=>zqc7 h c ((vdb7 s _ w hw).1 c hc),(vdb7 s _ w hw).2⟩,cu7 s _⟩
theorem mtb7 {s:List UInt8}(h:¬iq7 s<s.length):xkb7 s s.length:=by
 intro i hi
 have key:∀(l:List UInt8),¬iq7 l<l.length→∀j,j<l.length→jub7 (l.getD j 10)=false:=by
  intro l
  induction l with
  | nil=>intro _ j hj;simp at hj
  | cons a l ih =>
   intro h j hj
   unfold iq7 at h ih
   rw[List.takeWhile_cons]at h
   cases ha:jub7 a with
   | true=>rw[ha]at h;simp at h
   | false =>
    rw[ha]at h
    simp only[Bool.not_false,if_true,List.length_cons]at h
    cases j with
    | zero=>exact ha
    | succ j=>exact ih (by omega) j (by simpa using hj)
 exact key s h i hi
open Go.RowKit Go.Lib
def okC (c:UInt8):Prop:=jub7 c=false∧gib7 c=false
def okW (w:List UInt8):Prop:=w≠[]∧∀c∈w,okC c
instance (c:UInt8):Decidable (okC c):=by unfold okC;infer_instance
instance (w:List UInt8):Decidable (okW w):=by unfold okW;infer_instance
def okD (d:UInt8):Prop:=d=32∨d=10
def we7 (l:List (List UInt8×UInt8)):List UInt8:=l.flatMap fun p=>p.1++[p.2]
def okL (l:List (List UInt8×UInt8)):Prop:=∀p∈l,okW p.1∧okD p.2
theorem gx7 (a b:List (List UInt8×UInt8)):we7 (a++b)=we7 a++we7 b:=by unfold we7;rw[List.flatMap_append]
theorem ajb7 {a b:List (List UInt8×UInt8)}(ha:okL a) (hb:okL b):okL (a++b):=fun p hp=>(List.mem_append.1 hp).elim (ha p) (hb p)
theorem oob7 (pre w suf:List UInt8) (i:Nat) (h:i<w.length):(pre++w++suf).getD (pre.length+i) 10=w[i]:=by
 rw[List.getD_eq_getElem?_getD,List.append_assoc,List.getElem?_append_right (by omega),show pre.length+i-pre.length=i by omega,List.getElem?_append_left h,List.getElem?_eq_getElem h];rfl
theorem ujc7 (pre w suf:List UInt8):hib7 (pre++w++suf) pre.length (pre.length+w.length)=w:=by
 unfold hib7
 rw[List.append_assoc,List.drop_left,show pre.length+w.length-pre.length=w.length by omega,List.take_left]
theorem dub7 {pre w suf:List UInt8}{d:UInt8}{o:List (List UInt8×Nat)}(hw:okW w) (hd:okD d) (h:scan (pre++(w++[d])++suf) pre.length=⟨o,none,false⟩) :
  scan (pre++(w++[d])++suf) (pre.length+(w++[d]).length)=⟨o++[(w,pre.length)],none,false⟩:=by
 have hin:∀i,0<i→i≤w.length→scan (pre++(w++[d])++suf) (pre.length+i)=⟨o,some pre.length,false⟩:=by
  intro i
  induction i with
  | zero=>intro h;omega
  | succ i ih =>
   intro _ hi
   have hg:gib7 ((pre++(w++[d])++suf).getD (pre.length+i) 10)=false:=by
    rw[oob7 pre (w++[d]) suf i (by simp;omega),List.getElem_append_left (by omega)]
    exact (hw.2 _ (List.getElem_mem _)).2
   by_cases h0:i=0
   ·subst h0
    have:=wfb7 (s:=pre++(w++[d])++suf) (k:=pre.length) (.inl (by rw[h];exact⟨rfl,rfl⟩)) hg
    rw[show pre.length+(0+1)=pre.length+1 from rfl,this]
    unfold ae7
    rw[h]
   ·exact dib7 (ih (by omega) (by omega)) hg
 have hwl:0<w.length:=List.length_pos_iff.2 hw.1
 have h1:=hin w.length hwl (Nat.le_refl _)
 have hg:(pre++(w++[d])++suf).getD (pre.length+w.length) 10=d:=by
  rw[oob7 pre (w++[d]) suf w.length (by simp),List.getElem_append_right (Nat.le_refl _)]
  simp
 have hdd:gib7 d=true:=by rcases hd with rfl | rfl <;> rfl
 have h2:=(omb7 h1 (by rw[hg];exact hdd))
 have h3:=gr7 h2.1 (by rw[hg];exact hdd) (by rw[h1])
 rw[List.length_append,List.length_singleton,← Nat.add_assoc,h3,h2.2,hg,show decide (d=35)=false by rcases hd with rfl | rfl <;> rfl]
 have:=ujc7 pre w ([d]++suf)
 rw[show pre++w++([d]++suf)=pre++(w++[d])++suf by simp]at this
 rw[this]
theorem bfb7:∀(l:List (List UInt8×UInt8)) (pre:List UInt8) (suf:List UInt8) (o:List (List UInt8×Nat)),okL l→scan (pre++we7 l++suf) pre.length=⟨o,none,false⟩ →
  ∃q,scan (pre++we7 l++suf) (pre.length+(we7 l).length)=⟨o++q,none,false⟩∧q.map (·.1)=l.map (·.1)
 | [],pre,suf,o,_,h=>⟨[],by simpa[we7]using h,rfl⟩
 | p::l,pre,suf,o,hl,h=>by
  obtain⟨hw,hd⟩:=hl p (List.mem_cons_self ..)
  have e:pre++we7 (p::l)++suf=pre++(p.1++[p.2])++(we7 l++suf):=by simp[we7]
  have e2:pre++we7 (p::l)++suf=(pre++(p.1++[p.2]))++we7 l++suf:=by simp[we7]
  have h1:=dub7 (suf:=we7 l++suf) hw hd (by rw[← e];exact h)
  rw[← e,e2,← List.length_append]at h1
  obtain⟨q,h2,h3⟩:=bfb7 l (pre++(p.1++[p.2])) suf _ (fun x hx=>hl x (List.mem_cons_of_mem _ hx)) h1
  refine⟨(p.1,pre.length)::q, ?_,by simp[h3]⟩
  rw[e2,show pre.length+(we7 (p::l)).length=(pre++(p.1++[p.2])).length+(we7 l).length by simp[we7];omega,h2]
  simp
theorem eub7 {l:List (List UInt8×UInt8)}(h:okL l):xkb7 (we7 l) (we7 l).length:=fun i hi=>by
 rw[List.getD_eq_getElem?_getD,List.getElem?_eq_getElem hi]
 have hm:=List.getElem_mem hi
 unfold we7 at hm
 obtain⟨p,hp,hc⟩:=List.mem_flatMap.1 hm
 obtain⟨hw,hd⟩:=h p hp
 rcases List.mem_append.1 hc with hc | hc
 ·exact (hw.2 _ hc).1
 ·rw[show (we7 l)[i]=p.2 from List.mem_singleton.1 hc]
  rcases hd with e | e <;> rw[e] <;> rfl
theorem yz7 {l:List (List UInt8×UInt8)}(h:okL l):(ta7 (we7 l)).map (·.1)=l.map (·.1)∧iq7 (we7 l)=(we7 l).length:=by
 refine⟨?_,pu7 (eub7 h)⟩
 obtain⟨q,h1,h2⟩:=bfb7 l [] [] [] h rfl
 simp only[List.nil_append,List.append_nil,List.length_nil,Nat.zero_add]at h1
 rw[← h2,← fmb7 (s:=we7 l) (.inl (by rw[h1];exact⟨rfl,rfl⟩))]
 unfold ae7
 rw[h1]
def no7 (T:List UInt8) (q:List (List UInt8)):Prop:=∃l,okL l∧we7 l=T∧l.map (·.1)=q
theorem no7.app {A B:List UInt8}{a b:List (List UInt8)}(h1:no7 A a) (h2:no7 B b):no7 (A++B) (a++b):=by
 obtain⟨l,h1,rfl,rfl⟩:=h1
 obtain⟨m,h2,rfl,rfl⟩:=h2
 exact⟨l++m,ajb7 h1 h2,gx7 _ _,List.map_append⟩
theorem xrb7:no7 [] []:=⟨[],(fun _ h=>by cases h),rfl,rfl⟩
theorem hn7 {f:Nat→List UInt8}{g:Nat→List (List UInt8)}:∀n,(∀i,i<n→no7 (f i) (g i))→no7 ((List.range n).flatMap f) ((List.range n).flatMap g)
 | 0,_=>xrb7
 | n+1,h=>by
  rw[List.range_succ,List.flatMap_append,List.flatMap_append]
  exact (hn7 n fun i hi=>h i (by omega)).app (by simpa using h n (by omega))
theorem kec7 {c:UInt8}(h:dh7 c):okC c:=by
 unfold dh7 at h
 unfold okC
 rw[dnb7,vgb7]
 unfold bac7 fsb7
 constructor
 ·simp only[Bool.and_eq_false_iff,Bool.or_eq_false_iff,decide_eq_false_iff_not];right;constructor <;> omega
 ·simp only[Bool.or_eq_false_iff,decide_eq_false_iff_not];refine⟨⟨?_, ?_⟩, ?_⟩ <;> omega
theorem fyb7 (u:Nat):∀c∈decDigits u,dh7 c:=by
 induction u using Nat.strongRecOn with
 | ind u ih =>
  intro c hc
  have hd:∀v,v<10→dh7 (UInt8.ofNat (48+v)):=fun v hv=>by
   unfold dh7
   have:(UInt8.ofNat (48+v)).toNat=(48+v) % 256:=rfl
   omega
  by_cases h:u<10
  ·rw[bk7 h,Nat.mod_eq_of_lt h,List.mem_singleton]at hc
   rw[hc];exact hd u h
  ·rw[xx7 h,List.mem_append,List.mem_singleton]at hc
   rcases hc with hc | rfl
   ·exact ih _ (by omega) c hc
   ·exact hd _ (by omega)
theorem kwb7 {n:Int}(h:0≤n):itoa n=decDigits n.toNat:=by
 obtain⟨u,rfl⟩:=Int.eq_ofNat_of_zero_le h
 unfold itoa
 rw[if_neg (by omega)];try simp
theorem vtb7 (n:Int):okW (itoa n):=by
 by_cases h:0≤n
 ·rw[kwb7 h]
  exact⟨fun e=>by have:=es7 n.toNat;rw[e]at this;simp at this,fun c hc=>kec7 (fyb7 _ c hc)⟩
 ·unfold itoa
  rw[if_pos (by omega)]
  refine⟨by simp,fun c hc=>?_⟩
  rcases List.mem_cons.1 hc with rfl | hc
  ·decide
  ·exact kec7 (fyb7 _ c hc)
def vm7 (nm:List UInt8) (l:List Int):List (List UInt8):=(if nm=[] then [] else [nm])++l.map itoa
theorem ow7:∀(l:List Int) (b:List UInt8) (q:List (List UInt8×UInt8)) (w:List UInt8),okL q→okW w→b=we7 q++w→no7 (lnS b l++[10]) (q.map (·.1)++[w]++l.map itoa)
 | [],b,q,w,hq,hw,e=>⟨q++[(w,10)],ajb7 hq (fun p hp=>by rw[List.mem_singleton.1 hp];exact⟨hw,.inr rfl⟩),by rw[gx7,e];simp[we7,lnS],by simp⟩
 | n::l,b,q,w,hq,hw,e=>by
  have hb:0<b.length:=by
   have:=List.length_pos_iff.2 hw.1
   rw[e,List.length_append];omega
  have:=ow7 l (tf7 b n) (q++[(w,32)]) (itoa n) (ajb7 hq (fun p hp=>by rw[List.mem_singleton.1 hp];exact⟨hw,.inl rfl⟩)) (vtb7 n) (by unfold tf7;rw[if_pos hb,e,gx7];simp[we7])
  simpa[lnS]using this
theorem lk7 {nm:List UInt8}{l:List Int}(hn:nm=[]∨okW nm) (h0:nm≠[]∨l≠[]):no7 (xf7 nm l) (vm7 nm l):=by
 unfold xf7 vm7
 by_cases e:nm=[]
 ·subst e
  rw[if_pos rfl]
  match l,h0.resolve_left (fun h=>h rfl) with
  | n::l,_ =>
   have:=ow7 l (tf7 [] n) [] (itoa n) (fun _ h=>by cases h) (vtb7 n) (by simp[tf7,we7])
   simpa[lnS]using this
 ·rw[if_neg e]
  have:=ow7 l nm [] nm (fun _ h=>by cases h) (hn.resolve_left e) (by simp[we7])
  simpa using this
def dec7 (p:ua7) (t:nb7) (i:Nat):List (List UInt8):=vm7 [] (tCells (ph7 p i) (t.trucks.getD i []) (ph7 p i).length)
def cnc7 (p:ua7) (t:nb7) (i:Nat):List (List UInt8):=vm7 [] (kCells (bn7 p i) (do7 t i) (bn7 p i).stops.length++[(do7 t i).back])
def sab7 (p:ua7) (t:nb7) (c:Int):List (List UInt8) :=
 vm7 [112,108,97,110] [c]++vm7 [116,114,117,99,107,115] [(p.trucks.length:Int)]++(List.range p.trucks.length).flatMap (dec7 p t)++vm7 [98,105,107,101,115] [(p.bikes.length:Int)]++(List.range p.bikes.length).flatMap (cnc7 p t)++[[101,110,100]]
def gab7 (ws:List (List UInt8×Nat)) (i j:Nat) (q:List (List UInt8)):Prop:=j=i+q.length∧j≤ws.length∧((ws.map (·.1)).drop i).take q.length=q
theorem gab7.nil {ws:List (List UInt8×Nat)}{i:Nat}(h:i≤ws.length):gab7 ws i i []:=⟨rfl,h,rfl⟩
theorem gab7.app {ws:List (List UInt8×Nat)}{i j k:Nat}{a b:List (List UInt8)}(h1:gab7 ws i j a) (h2:gab7 ws j k b):gab7 ws i k (a++b):=by
 obtain⟨e1,l1,t1⟩:=h1
 obtain⟨e2,l2,t2⟩:=h2
 refine⟨by rw[List.length_append];omega,l2, ?_⟩
 rw[List.length_append,List.take_add,t1,List.drop_drop,← e1,t2]
theorem hmb7 {ws:List (List UInt8×Nat)}{i:Nat}(h:i<ws.length):gab7 ws i (i+1) [wdN ws i]:=by
 refine⟨rfl,h, ?_⟩
 have hm:i<(ws.map (·.1)).length:=by rw[List.length_map];exact h
 rw[List.drop_eq_getElem_cons hm]
 unfold wdN
 rw[List.getD_eq_getElem?_getD,List.getElem?_eq_getElem h]
 simp
theorem pf7 {ws:List (List UInt8×Nat)}{most:Int}{i:Nat}{y:Int×Nat}(h:vj7 ws most i = .ok y):gab7 ws i y.2 [itoa y.1]∧0≤y.1∧y.1≤most:=by
 unfold vj7 at h
 split at h
 ·cases h
 ·rename_i hi
  split at h
  ·cases h
  ·rename_i x hx
   split at h
   ·cases h
   ·rename_i hm
    cases h
    unfold se7 at hx
    split at hx
    ·rename_i hc
     cases hx
     refine⟨?_,by simp only;omega,by simp only;omega⟩
     have:=hmb7 (ws:=ws) (i:=i) (by omega)
     rw[show itoa ((gm7 (wdN ws i):Nat):Int)=wdN ws i by rw[kwb7 (by omega)];exact hc.2.2.1]
     exact this
    ·cases hx
theorem xq7 {ws:List (List UInt8×Nat)}{w:List UInt8}{i j:Nat}(h:hi7 ws w i = .ok j):gab7 ws i j [w]:=by
 unfold hi7 at h
 split at h
 ·cases h
 ·rename_i hc
  cases h
  have h1:i<ws.length:=by omega
  have h2:wdN ws i=w:=Decidable.not_not.1 fun h=>hc (.inr h)
  rw[← h2]
  exact hmb7 h1
theorem wb7 {α β:Type}{x:Except Stt α}{f:α→Except Stt β}{b:β}(h:yf7 x f = .ok b):∃a,x = .ok a∧f a = .ok b:=by
 cases x with
 | ok a=>exact⟨a,rfl,h⟩
 | error e=>cases h
theorem wq7 {α:Type}{g:α×Nat→Except Stt (α×Nat)}{P:Nat→α×Nat→Prop}(hs:∀k a b,P k a→g a = .ok b→P (k+1) b):∀(n k:Nat) (a b:α×Nat),P k a→uh7 g n a = .ok b→P (k+n) b
 | 0,k,a,b,hp,h=>by cases h;exact hp
 | n+1,k,a,b,hp,h=>by
  unfold uh7 at h
  split at h
  ·rename_i c hc
   have:=wq7 hs n (k+1) c b (hs k a c hp hc) h
   rwa [show k+1+n=k+(n+1) by omega]at this
  ·cases h
theorem te7 {α:Type}{a b:List α}{i:Nat}{d:α}(h:i<a.length):(a++b).getD i d=a.getD i d:=by
 rw[List.getD_eq_getElem?_getD,List.getElem?_append_left h,List.getD_eq_getElem?_getD]
theorem dtb7 {α:Type}{a:List α}{x d:α}:(a++[x]).getD a.length d=x:=by
 rw[List.getD_eq_getElem?_getD,List.getElem?_append_right (Nat.le_refl _),Nat.sub_self];rfl
theorem gd7 {α:Type}{a:List α}{x d:α}{k:Nat}(h:a.length=k):(a++[x]).getD k d=x:=by rw[← h];exact dtb7
theorem vq7 {β:Type}{f g:Nat→List β}{n:Nat}(h:∀i,i<n→f i=g i):(List.range n).flatMap f=(List.range n).flatMap g:=by
 induction n with
 | zero=>rfl
 | succ n ih=>rw[List.range_succ,List.flatMap_append,List.flatMap_append,ih fun i hi=>h i (by omega)];simp[h n (by omega)]
def nn (n:Int):Prop:=0≤n∧n≤1000000000000000
theorem nn0:nn 0:=by unfold nn;omega
theorem nn.wf {n:Int}(h:nn n):oa7 n:=by unfold nn at h;unfold oa7;omega
structure otc7 (l:List ba7) (t:List Int):Prop where
 n:l.length≤12
 e:t.length=l.length
 s:∀x∈l,nn x.sat∧nn x.load
 t:∀x∈t,nn x
structure hvc7 (b:ga7) (r:ka7):Prop where
 n:b.stops.length≤48
 e:r.starts.length=b.stops.length
 s:nn b.sat∧nn r.out∧nn r.back
 c:∀x∈b.stops,nn x
 t:∀x∈r.starts,nn x
theorem qqb7 {ws:List (List UInt8×Nat)}{i:Nat}{a:(List ba7×List Int)×Nat}(h:at7 ws i = .ok a):gab7 ws i a.2 (vm7 [] (tCells a.1.1 a.1.2 a.1.1.length))∧otc7 a.1.1 a.1.2:=by
 obtain⟨x,h1,h2⟩:=wb7 h
 obtain⟨T0,p0,m0⟩:=pf7 h1
 have key:=wq7 (P:=fun k (a:(List ba7×List Int)×Nat)=>(a.1.1.length=k∧a.1.2.length=k)∧((∀x∈a.1.1,nn x.sat∧nn x.load)∧∀x∈a.1.2,nn x)∧gab7 ws x.2 a.2 (((List.range k).flatMap (tItem a.1.1 a.1.2)).map itoa)) (fun k a b hp hb=>by
  obtain⟨⟨l1,l2⟩,⟨q1,q2⟩,T⟩:=hp
  obtain⟨y1,g1,hb⟩:=wb7 hb
  obtain⟨y2,g2,hb⟩:=wb7 hb
  obtain⟨y3,g3,hb⟩:=wb7 hb
  cases hb
  obtain⟨T1,b1,c1⟩:=pf7 g1
  obtain⟨T2,b2,c2⟩:=pf7 g2
  obtain⟨T3,b3,c3⟩:=pf7 g3
  refine⟨⟨by simp[l1],by simp[l2]⟩,⟨fun x hx=>?_,fun x hx=>?_⟩, ?_⟩
  ·rcases List.mem_append.1 hx with hx | hx
   ·exact q1 x hx
   ·rw[List.mem_singleton.1 hx];unfold nn;simp only;omega
  ·rcases List.mem_append.1 hx with hx | hx
   ·exact q2 x hx
   ·rw[List.mem_singleton.1 hx];unfold nn;omega
  ·have:=T.app ((T1.app T2).app T3)
   rw[List.range_succ,List.flatMap_append,List.map_append]
   rw[vq7 (g:=tItem a.1.1 a.1.2) fun i hi=>by unfold tItem;simp only;rw[te7 (by omega),te7 (by omega)]]
   simpa only[tItem,gd7 l1,gd7 l2,List.flatMap_cons,List.flatMap_nil,List.append_nil,List.map_cons,List.map_nil,List.cons_append,List.nil_append]using this) x.1.toNat 0 _ _ ⟨⟨rfl,rfl⟩,⟨(fun _ h=>by cases h),fun _ h=>by cases h⟩,gab7.nil T0.2.1⟩ h2
 rw[Nat.zero_add]at key
 obtain⟨⟨l1,l2⟩,⟨q1,q2⟩,T⟩:=key
 refine⟨?_,by omega,by omega,q1,q2⟩
 have:=T0.app T
 unfold vm7 tCells
 rw[if_pos rfl,l1,show ((x.1.toNat:Nat):Int)=x.1 by omega]
 simpa using this
theorem eyb7 {ws:List (List UInt8×Nat)}{i:Nat}{a:(ga7×ka7)×Nat}(h:shb7 ws i = .ok a):gab7 ws i a.2 (vm7 [] (kCells a.1.1 a.1.2 a.1.1.stops.length++[a.1.2.back]))∧hvc7 a.1.1 a.1.2:=by
 obtain⟨s,h1,h⟩:=wb7 h
 obtain⟨o,h2,h⟩:=wb7 h
 obtain⟨x,h3,h⟩:=wb7 h
 obtain⟨l,h4,h⟩:=wb7 h
 obtain⟨b,h5,h⟩:=wb7 h
 cases h
 obtain⟨T1,b1,c1⟩:=pf7 h1
 obtain⟨T2,b2,c2⟩:=pf7 h2
 obtain⟨T3,b3,c3⟩:=pf7 h3
 obtain⟨T5,b5,c5⟩:=pf7 h5
 have key:=wq7 (P:=fun k (a:(List Int×List Int)×Nat)=>(a.1.1.length=k∧a.1.2.length=k)∧((∀x∈a.1.1,nn x)∧∀x∈a.1.2,nn x)∧gab7 ws x.2 a.2 (((List.range k).flatMap fun j=>[a.1.1.getD j 0,a.1.2.getD j 0]).map itoa)) (fun k a b hp hb=>by
  obtain⟨⟨l1,l2⟩,⟨q1,q2⟩,T⟩:=hp
  obtain⟨y1,g1,hb⟩:=wb7 hb
  obtain⟨y2,g2,hb⟩:=wb7 hb
  cases hb
  obtain⟨T1,b1,c1⟩:=pf7 g1
  obtain⟨T2,b2,c2⟩:=pf7 g2
  refine⟨⟨by simp[l1],by simp[l2]⟩,⟨fun x hx=>?_,fun x hx=>?_⟩, ?_⟩
  ·rcases List.mem_append.1 hx with hx | hx
   ·exact q1 x hx
   ·rw[List.mem_singleton.1 hx];unfold nn;omega
  ·rcases List.mem_append.1 hx with hx | hx
   ·exact q2 x hx
   ·rw[List.mem_singleton.1 hx];unfold nn;omega
  ·have:=T.app (T1.app T2)
   rw[List.range_succ,List.flatMap_append,List.map_append]
   rw[vq7 (g:=fun j=>[a.1.1.getD j 0,a.1.2.getD j 0]) fun i hi=>by simp only;rw[te7 (by omega),te7 (by omega)]]
   simpa only[gd7 l1,gd7 l2,List.flatMap_cons,List.flatMap_nil,List.append_nil,List.map_cons,List.map_nil,List.cons_append,List.nil_append]using this) x.1.toNat 0 _ _ ⟨⟨rfl,rfl⟩,⟨(fun _ h=>by cases h),fun _ h=>by cases h⟩,gab7.nil T3.2.1⟩ h4
 rw[Nat.zero_add]at key
 obtain⟨⟨l1,l2⟩,⟨q1,q2⟩,T⟩:=key
 refine⟨?_,by simp only;omega,by simp only;omega,by unfold nn;simp only;omega,q1,q2⟩
 have:=(((T1.app T2).app T3).app T).app T5
 unfold vm7 kCells bItem
 rw[if_pos rfl]
 simp only
 rw[l1,show ((x.1.toNat:Nat):Int)=x.1 by omega]
 simpa using this
structure wic7 (p:ua7) (t:nb7) (c:Int):Prop where
 nt:p.trucks.length≤60
 nb:p.bikes.length≤60
 et:t.trucks.length=p.trucks.length
 eb:t.bikes.length=p.bikes.length
 tr:∀i,i<p.trucks.length→otc7 (ph7 p i) (t.trucks.getD i [])
 bk:∀i,i<p.bikes.length→hvc7 (bn7 p i) (do7 t i)
 c:nn c
theorem ibb7 {ws:List (List UInt8×Nat)}{a:zd7×Nat}(h:ci7 ws = .ok a):gab7 ws 0 a.2 (sab7 a.1.plan a.1.times a.1.cost)∧wic7 a.1.plan a.1.times a.1.cost:=by
 obtain⟨i1,h1,h⟩:=wb7 h
 obtain⟨c,h2,h⟩:=wb7 h
 obtain⟨i3,h3,h⟩:=wb7 h
 obtain⟨n,h4,h⟩:=wb7 h
 obtain⟨X,h5,h⟩:=wb7 h
 obtain⟨i6,h6,h⟩:=wb7 h
 obtain⟨m,h7,h⟩:=wb7 h
 obtain⟨B,h8,h⟩:=wb7 h
 obtain⟨i9,h9,h⟩:=wb7 h
 cases h
 have T1:=xq7 h1
 obtain⟨T2,b2,c2⟩:=pf7 h2
 have T3:=xq7 h3
 obtain⟨T4,b4,c4⟩:=pf7 h4
 have T6:=xq7 h6
 obtain⟨T7,b7,c7⟩:=pf7 h7
 have T9:=xq7 h9
 have k5:=wq7 (P:=fun k (a:(List (List ba7)×List (List Int))×Nat)=>(a.1.1.length=k∧a.1.2.length=k)∧(∀i,i<k→otc7 (a.1.1.getD i []) (a.1.2.getD i []))∧gab7 ws n.2 a.2 ((List.range k).flatMap fun i=>vm7 [] (tCells (a.1.1.getD i []) (a.1.2.getD i []) (a.1.1.getD i []).length))) (fun k a b hp hb=>by
  obtain⟨⟨l1,l2⟩,q,T⟩:=hp
  obtain⟨y,g,hb⟩:=wb7 hb
  cases hb
  obtain⟨U,hu⟩:=qqb7 g
  refine⟨⟨by simp[l1],by simp[l2]⟩,fun i hi=>?_, ?_⟩
  ·by_cases e:i=k
   ·subst e
    simp only[gd7 l1,gd7 l2]
    exact hu
   ·simp only
    rw[te7 (by omega),te7 (by omega)]
    exact q i (by omega)
  ·have:=T.app U
   rw[List.range_succ,List.flatMap_append]
   rw[vq7 (g:=fun i=>vm7 [] (tCells (a.1.1.getD i []) (a.1.2.getD i []) (a.1.1.getD i []).length)) fun i hi=>by simp only;rw[te7 (by omega),te7 (by omega)]]
   simpa only[List.flatMap_cons,List.flatMap_nil,List.append_nil,gd7 l1,gd7 l2]using this) n.1.toNat 0 _ _ ⟨⟨rfl,rfl⟩,(fun i hi=>by omega),gab7.nil T4.2.1⟩ h5
 rw[Nat.zero_add]at k5
 obtain⟨⟨l1,l2⟩,q5,T5⟩:=k5
 have k8:=wq7 (P:=fun k (a:(List ga7×List ka7)×Nat)=>(a.1.1.length=k∧a.1.2.length=k)∧(∀i,i<k→hvc7 (a.1.1.getD i ⟨0,[]⟩) (a.1.2.getD i ⟨0,[],0⟩))∧gab7 ws m.2 a.2 ((List.range k).flatMap fun i=>vm7 [] (kCells (a.1.1.getD i ⟨0,[]⟩) (a.1.2.getD i ⟨0,[],0⟩) (a.1.1.getD i ⟨0,[]⟩).stops.length++[(a.1.2.getD i ⟨0,[],0⟩).back]))) (fun k a b hp hb=>by
  obtain⟨⟨l1,l2⟩,q,T⟩:=hp
  obtain⟨y,g,hb⟩:=wb7 hb
  cases hb
  obtain⟨U,hu⟩:=eyb7 g
  refine⟨⟨by simp[l1],by simp[l2]⟩,fun i hi=>?_, ?_⟩
  ·by_cases e:i=k
   ·subst e
    simp only[gd7 l1,gd7 l2]
    exact hu
   ·simp only
    rw[te7 (by omega),te7 (by omega)]
    exact q i (by omega)
  ·have:=T.app U
   rw[List.range_succ,List.flatMap_append]
   rw[vq7 (g:=fun i=>vm7 [] (kCells (a.1.1.getD i ⟨0,[]⟩) (a.1.2.getD i ⟨0,[],0⟩) (a.1.1.getD i ⟨0,[]⟩).stops.length++[(a.1.2.getD i ⟨0,[],0⟩).back])) fun i hi=>by simp only;rw[te7 (by omega),te7 (by omega)]]
   simpa only[List.flatMap_cons,List.flatMap_nil,List.append_nil,gd7 l1,gd7 l2]using this) m.1.toNat 0 _ _ ⟨⟨rfl,rfl⟩,(fun i hi=>by omega),gab7.nil T7.2.1⟩ h8
 rw[Nat.zero_add]at k8
 obtain⟨⟨m1,m2⟩,q8,T8⟩:=k8
 refine⟨?_,by simp only;omega,by simp only;omega,by simp only;omega,by simp only;omega,fun i hi=>q5 i (by simp only at hi;omega),fun i hi=>q8 i (by simp only at hi;omega),by unfold nn;simp only;omega⟩
 have:=((((((((T1.app T2).app T3).app T4).app T5).app T6).app T7).app T8).app T9)
 unfold sab7 dec7 cnc7 ph7 bn7 do7
 simp only
 rw[l1,m1,show ((n.1.toNat:Nat):Int)=n.1 by omega,show ((m.1.toNat:Nat):Int)=m.1 by omega]
 simpa[vm7]using this
section
variable {p:ua7} {t:nb7} {c:Int} (h:wic7 p t c)
include h
theorem wic7.text:ce7 p t c where
 nt:=by have:=h.nt;omega
 nb:=by have:=h.nb;omega
 st:=fun l hl=>by
  obtain⟨i,hi,rfl⟩:=List.getElem_of_mem hl
  have:=h.tr i hi
  unfold ph7 at this
  rw[List.getD_eq_getElem?_getD,List.getElem?_eq_getElem hi,Option.getD_some]at this
  exact⟨by have:=this.n;omega,fun s hs=>⟨(this.s s hs).1.wf,(this.s s hs).2.wf⟩⟩
 sb:=fun b hb=>by
  obtain⟨i,hi,rfl⟩:=List.getElem_of_mem hb
  have:=h.bk i hi
  unfold bn7 at this
  rw[List.getD_eq_getElem?_getD,List.getElem?_eq_getElem hi,Option.getD_some]at this
  exact⟨by have:=this.n;omega,this.s.1.wf,fun s hs=>(this.c s hs).wf⟩
 tt:=fun l hl v hv=>by
  obtain⟨i,hi,rfl⟩:=List.getElem_of_mem hl
  have:=h.tr i (by rw[← h.et];exact hi)
  rw[List.getD_eq_getElem?_getD (l:=t.trucks),List.getElem?_eq_getElem hi,Option.getD_some]at this
  exact (this.t v hv).wf
 tb:=fun r hr=>by
  obtain⟨i,hi,rfl⟩:=List.getElem_of_mem hr
  have:=h.bk i (by rw[← h.eb];exact hi)
  unfold do7 at this
  rw[List.getD_eq_getElem?_getD (l:=t.bikes),List.getElem?_eq_getElem hi,Option.getD_some]at this
  exact⟨this.s.2.1.wf,this.s.2.2.wf,fun v hv=>(this.t v hv).wf⟩
 c:=h.c.wf
end
theorem yfb7 (p:ua7) (t:nb7) (c:Int):no7 (cg7 p t c) (sab7 p t c):=by
 unfold cg7 meb7 yg7 ze7 bh7 sab7
 have k1:okW [112,108,97,110]:=by decide
 have k2:okW [116,114,117,99,107,115]:=by decide
 have k3:okW [98,105,107,101,115]:=by decide
 have k4:okW [101,110,100]:=by decide
 exact (((((lk7 (.inr k1) (.inl (by simp))).app (lk7 (.inr k2) (.inl (by simp)))).app (hn7 _ fun i hi=>lk7 (.inl rfl) (.inr (by simp[tCells])))).app (lk7 (.inr k3) (.inl (by simp)))).app (hn7 _ fun i hi=>lk7 (.inl rfl) (.inr (by simp)))).app ⟨[([101,110,100],10)],(fun p hp=>by rw[List.mem_singleton.1 hp];exact⟨k4,.inr rfl⟩),rfl,rfl⟩
def keb7 (q:List (List UInt8)):Nat:=(q.map fun w=>w.length+1).sum
theorem lob7:∀l:List (List UInt8×UInt8),(we7 l).length=keb7 (l.map (·.1))
 | []=>rfl
 | p::l=>by
  have:=lob7 l
  unfold we7 keb7 at *
  simp only[List.flatMap_cons,List.length_append,List.length_singleton,List.map_cons,List.sum_cons,this]
theorem jdb7 (s:List UInt8):∀k,keb7 ((scan s k).out.map (·.1))+(match (scan s k).fr with | some a=>k-a | none=>0)≤k
 | 0=>by simp[scan,keb7]
 | k+1=>by
  have ih:=jdb7 s k
  have hf:=skb7 s k
  unfold scan zp7
  split
  ·rename_i hn
   have:(scan s k).fr=none:=by
    cases h:(scan s k).fr with
    | none=>rfl
    | some a=>rw[(hf a h).2]at hn;cases hn
   rw[this]at ih ⊢
   simp only at ih ⊢; omega
  ·split
   ·cases h:(scan s k).fr with
    | none=>rw[h]at ih;simp only at ih ⊢; omega
    | some a =>
     rw[h]at ih
     have:=(hf a h).1
     have hc:(hib7 s a k).length≤k-a:=by unfold hib7;rw[List.length_take];omega
     simp only[keb7,List.map_append,List.map_cons,List.map_nil,List.sum_append,List.sum_cons,List.sum_nil]at ih ⊢; omega
   ·cases h:(scan s k).fr with
    | none=>rw[h]at ih;simp only at ih ⊢; omega
    | some a =>
     rw[h]at ih
     have ha:=(hf a h).1
     have ih:keb7 ((scan s k).out.map (·.1))+(k-a)≤k:=ih
     have key:keb7 ((scan s k).out.map (·.1))+(k+1-a)≤k+1:=by omega
     simp only[h]
     exact key
theorem wvb7 (ws:List (List UInt8×Nat)) (i:Nat):wdN ws i=(ws.map (·.1)).getD i []:=by
 unfold wdN
 simp only[List.getD_eq_getElem?_getD,List.getElem?_map]
 cases ws[i]? <;> rfl
theorem mrb7 {a b:List (List UInt8×Nat)}(h:a.map (·.1)=b.map (·.1)):ci7 a=ci7 b:=by
 have hl:a.length=b.length:=by have:=congrArg List.length h;simpa using this
 have hw:wdN a=wdN b:=funext fun i=>by rw[wvb7,wvb7,h]
 have e1:vj7 a=vj7 b:=funext fun m=>funext fun i=>by unfold vj7;rw[hl,hw]
 have e2:hi7 a=hi7 b:=funext fun m=>funext fun i=>by unfold hi7;rw[hl,hw]
 unfold ci7 vg7 at7 cr7 oj7 shb7 hp7
 rw[e1,e2]
theorem again {s:List UInt8}{x:zd7}{i:Nat}(hs:ci7 (ta7 s) = .ok (x,i)) (hi:¬i<(ta7 s).length) :
  wic7 x.plan x.times x.cost∧(cg7 x.plan x.times x.cost).length≤s.length+1∧iq7 (cg7 x.plan x.times x.cost)=(cg7 x.plan x.times x.cost).length ∧
   ci7 (ta7 (cg7 x.plan x.times x.cost)) = .ok (x,i)∧(ta7 (cg7 x.plan x.times x.cost)).length=(ta7 s).length:=by
 obtain⟨⟨e1,e2,e3⟩,hr⟩:=ibb7 hs
 simp only at e1 e2 e3 hr
 obtain⟨l,hl,e4,e5⟩:=yfb7 x.plan x.times x.cost
 obtain⟨h1,h2⟩:=yz7 hl
 have e6:(ta7 s).map (·.1)=sab7 x.plan x.times x.cost:=by
  rw[← e3,List.drop_zero,List.take_of_length_le]
  rw[List.length_map];omega
 have e7:(ta7 (we7 l)).map (·.1)=(ta7 s).map (·.1):=by rw[h1,e5,e6]
 rw[← e4]
 refine⟨hr, ?_,h2,by rw[mrb7 e7,hs],by have:=congrArg List.length e7;simpa using this⟩
 rw[lob7,e5,← e6]
 have:=jdb7 s (s.length+1)
 unfold ta7
 omega
end Go.Proofs.YtedahhjopmkbbaaGreat
namespace Go.Proofs.YtedahhjopmkbbaaGreat
open Go.RowKit
theorem otb7 {w:World}{x:ca7}{q:Nat}{a:Option Addr}{c1:Nat}{s:Int}(h3:w.cell? ⟨q,5,none⟩=some (.slice a x.sats.length c1)) :
  Calls Tryz.prog 50 #[.int .i64 s,.pointer (some ⟨q,0,none⟩)] w fun e w'=>e = .returned (.bool (decide (0≤s)&&decide (s<x.sats.length)))∧w'=w:=by
 by_cases e1:0≤s
 ·by_cases e2:s<x.sats.length
  all_goals
   go_enter Tryz.func50,Tryz.ntmps50
   go_wp2
   go_ret
   exact⟨by simp[e1,e2],rfl⟩
 ·go_enter Tryz.func50,Tryz.ntmps50
  go_wp2
  go_ret
  exact⟨by rw[decide_eq_false (by omega),Bool.false_and];rfl,rfl⟩
def cib7 (m:Nat) (pre:List ba7):Prop:=(∀o∈pre,0≤o.sat)∧∀i,m.testBit i=pre.any (fun o=>o.sat.toNat==i)
theorem cib7.nil:cib7 0 []:=⟨fun _ h=>(List.not_mem_nil h).elim,fun i=>by simp⟩
theorem cib7.push {m:Nat}{pre:List ba7}{s:ba7}(h:cib7 m pre) (hs:0≤s.sat):cib7 (m ||| 2 ^ s.sat.toNat) (pre++[s]):=by
 refine⟨fun o ho=>?_,fun i=>?_⟩
 ·rcases List.mem_append.1 ho with ho | ho
  ·exact h.1 o ho
  ·rw[List.mem_singleton.1 ho];exact hs
 ·rw[Nat.testBit_or,Nat.testBit_two_pow,h.2 i,List.any_append,List.any_cons,List.any_nil,Bool.or_false]
  congr 1
def ug7 (x:ca7) (s:Int):Bool:=decide (0≤s)&&decide (s<x.sats.length)
def gi7 (x:ca7) (pre:List ba7) (s:ba7):Bool:=((ug7 x s.sat&&decide (1≤s.load))&&decide (s.load≤1000000000))&&pre.all (fun o=>o.sat != s.sat)
theorem gt7 {x:ca7}{m:Nat}{pre:List ba7}{s:ba7}(h:cib7 m pre):gi7 x pre s = !hh7 x m s:=by
 by_cases h0:0≤s.sat
 ·have e:m.testBit s.sat.toNat = !pre.all (fun o=>o.sat != s.sat):=by
   rw[h.2,List.not_all_eq_any_not]
   rw[Bool.eq_iff_iff,List.any_eq_true,List.any_eq_true]
   constructor
   ·rintro⟨o,ho,e⟩
    refine⟨o,ho, ?_⟩
    have:=h.1 o ho
    simp at e ⊢; omega
   ·rintro⟨o,ho,e⟩
    refine⟨o,ho, ?_⟩
    have:=h.1 o ho
    simp at e ⊢; omega
  unfold gi7 hh7 ug7
  rw[e,Bool.eq_iff_iff]
  simp only[Bool.and_eq_true,decide_eq_true_eq,Bool.not_eq_true',Bool.or_eq_false_iff,decide_eq_false_iff_not,Bool.not_eq_false']
  constructor
  ·rintro⟨⟨⟨h1,h2⟩,h3⟩,h4⟩
   exact⟨⟨⟨⟨by omega,by omega⟩,h4⟩,by omega⟩,by omega⟩
  ·rintro⟨⟨⟨⟨h1,h2⟩,h4⟩,h3⟩,h5⟩
   exact⟨⟨⟨⟨by omega,by omega⟩,by omega⟩,by omega⟩,h4⟩
 ·unfold gi7 hh7 ug7
  rw[decide_eq_false h0,decide_eq_true (show s.sat<0 by omega)];simp
theorem by7 {x:ca7}{pre:List ba7}{s:ba7}(h:gi7 x pre s=true):bi7 x s:=by
 simp only[gi7,ug7,Bool.and_eq_true,decide_eq_true_eq]at h
 exact⟨h.1.1.1,h.1.1.2,h.1.2⟩
theorem jq7 (x:ca7):∀(l:List (List ba7)) (ld:Bool),(sg7 x l false ld).1=false
 | [],_=>rfl
 | t::ts,ld=>by
  unfold sg7
  cases ol7 x t with
  | none=>rfl
  | some p=>rw[Bool.false_and];exact jq7 x ts _
def gf7 (n:Nat):List Int:=List.replicate n 0
structure sqb7 (x:ca7) (l:List (List ba7)) (k:Nat) (r ld:Bool) (out:List Int):Prop where
 len:out.length=x.sats.length
 yes:r=true→zi7 x l=sg7 x (l.drop k) true ld∧out=(l.take k).foldl qn7 (List.replicate x.sats.length 0)∧ah7 out (kc7 l k)
 no:r=false→(zi7 x l).1=false
theorem sqb7.start (x:ca7) (l:List (List ba7)):sqb7 x l 0 true true (gf7 x.sats.length) :=
 ⟨by simp[gf7],fun _=>⟨rfl,rfl,ah7.zero _⟩,fun h=>by cases h⟩
structure ww7 (x:ca7) (l:List (List ba7)) (k:Nat) (t:List ba7) (j:Nat) (r ld:Bool) (sum:Int) (out:List Int):Prop where
 len:out.length=x.sats.length
 sumB:0≤sum∧sum≤1000000000*(j:Int)
 yes:r=true→(∃m,cib7 m (t.take j)∧ol7 x t=(t.drop j).foldl (vp7 x) (some (m,x.troom-sum)))∧zi7 x l=sg7 x (l.drop k) true ld∧0<t.length ∧
  out=(t.take j).foldl tk7 ((l.take k).foldl qn7 (List.replicate x.sats.length 0))∧ah7 out (kc7 l k+j)
 no:r=false→(zi7 x l).1=false
theorem ww7.start {x:ca7}{l:List (List ba7)}{k:Nat}{r ld:Bool}{out:List Int}(h:sqb7 x l k r ld out) (hk:k<l.length):ww7 x l k l[k] 0 (r&&decide (0<l[k].length)) ld 0 out:=by
 refine⟨h.len,by decide,fun hr=>?_,fun hr=>?_⟩
 ·simp only[Bool.and_eq_true,decide_eq_true_eq]at hr
  obtain⟨h1,h2,h3⟩:=h.yes hr.1
  exact⟨⟨0,cib7.nil,by simp only[ol7,List.drop_zero,Int.sub_zero]⟩,h1,hr.2,h2,h3⟩
 ·cases r with
  | false=>exact h.no rfl
  | true =>
   have h0:l[k].length=0:=by simpa using hr
   rw[(h.yes rfl).1,List.drop_eq_getElem_cons hk,List.eq_nil_of_length_eq_zero h0,tn7 (m:=0) (left:=x.troom) rfl]
   exact jq7 x _ _
theorem ww7.step {x:ca7}{l:List (List ba7)}{k:Nat}{t:List ba7}{j:Nat}{r ld:Bool}{sum:Int}{out:List Int}(h:ww7 x l k t j r ld sum out) (hj:j<t.length)
  (hr:(r&&gi7 x (t.take j) t[j])=true):ww7 x l k t (j+1) true ld (sum+t[j].load) (tk7 out t[j]):=by
 simp only[Bool.and_eq_true]at hr
 have ho:=by7 hr.2
 obtain⟨⟨m,hm,ht⟩,h1,h2,h3,h4⟩:=h.yes hr.1
 have hb:=gt7 (x:=x) (s:=t[j]) hm
 rw[hr.2]at hb
 have hb2:hh7 x m t[j]=false:=by simpa using hb.symm
 have hl:=ho.2
 have hs:=h.sumB
 refine⟨by rw[fx7];exact h.len,by push_cast;omega,fun _=>⟨⟨m ||| 2 ^ t[j].sat.toNat, ?_, ?_⟩,h1,h2, ?_, ?_⟩,fun h=>by cases h⟩
 ·rw[List.take_succ_eq_append_getElem hj];exact hm.push ho.1.1
 ·rw[ht,List.drop_eq_getElem_cons hj,List.foldl_cons,iv7 hb2,show x.troom-sum-t[j].load=x.troom-(sum+t[j].load) by omega]
 ·rw[gc7 _ _ _ _ hj,← h3]
 ·unfold tk7
  refine h4.add ?_ ⟨by omega,hl.2⟩
  have hlt:t[j].sat.toNat<out.length:=by have:=ho.1;rw[h.len];omega
  rw[List.getD_eq_getElem?_getD,List.getElem?_eq_getElem hlt]
  exact h4.get hlt
theorem efb7 {x:ca7}{l:List (List ba7)}{k:Nat}(hk:k<l.length) {ld:Bool}(h:ol7 x l[k]=none):(sg7 x (l.drop k) true ld).1=false:=by
 rw[List.drop_eq_getElem_cons hk,bp7 h]
theorem ww7.stop {x:ca7}{l:List (List ba7)}{k:Nat}(hk:k<l.length) {j:Nat}{r ld:Bool}{sum:Int}{out:List Int}(h:ww7 x l k l[k] j r ld sum out) (hj:j<l[k].length)
  (hr:(r&&gi7 x (l[k].take j) (l[k])[j])=false):ww7 x l k l[k] (j+1) false ld sum out:=by
 refine⟨h.len,(by have:=h.sumB;push_cast;omega),(fun h=>by cases h),fun _=>?_⟩
 cases r with
 | false=>exact h.no rfl
 | true =>
  rw[Bool.true_and]at hr
  obtain⟨⟨m,hm,ht⟩,h1,-,-,-⟩:=h.yes rfl
  have hb:=gt7 (x:=x) (s:=(l[k])[j]) hm
  rw[hr]at hb
  have hb2:hh7 x m (l[k])[j]=true:=by simpa using hb.symm
  rw[h1]
  refine efb7 hk ?_
  rw[ht,List.drop_eq_getElem_cons hj,List.foldl_cons,sr7 hb2,vr7]
theorem ww7.done {x:ca7}{l:List (List ba7)}{k:Nat}(hk:k<l.length) {r ld:Bool}{sum:Int}{out:List Int}(h:ww7 x l k l[k] l[k].length r ld sum out):sqb7 x l (k+1) r (ld&&decide (sum≤x.troom)) out:=by
 refine⟨h.len,fun hr=>?_,h.no⟩
 obtain⟨⟨m,hm,ht⟩,h1,h2,h3,h4⟩:=h.yes hr
 rw[List.drop_length,List.foldl_nil]at ht
 rw[List.take_length]at h3
 refine⟨?_, ?_, ?_⟩
 ·rw[h1,List.drop_eq_getElem_cons hk,tn7 ht,decide_eq_true h2,Bool.and_true]
  congr 2
  rw[Bool.eq_iff_iff];simp
 ·rw[gc7 _ _ _ _ hk,h3];rfl
 ·rw[uk7 hk];exact h4
theorem ww7.start2 {x:ca7}{l:List (List ba7)}{k:Nat}{t:List ba7}{r ld:Bool}{out:List Int}(h:sqb7 x l k r ld out) (hk:k<l.length) (ht:t=l[k]):ww7 x l k t 0 (r&&decide (0<t.length)) ld 0 out:=by
 subst ht;exact ww7.start h hk
theorem ww7.stop2 {x:ca7}{l:List (List ba7)}{k:Nat}(hk:k<l.length) {t:List ba7}(ht:t=l[k]) {j:Nat}{r ld:Bool}{sum:Int}{out:List Int}(h:ww7 x l k t j r ld sum out) (hj:j<t.length)
  (hr:(r&&gi7 x (t.take j) t[j])=false):ww7 x l k t (j+1) false ld sum out:=by
 subst ht;exact h.stop hk hj hr
theorem ww7.done2 {x:ca7}{l:List (List ba7)}{k:Nat}(hk:k<l.length) {t:List ba7}(ht:t=l[k]) {r ld:Bool}{sum:Int}{out:List Int}(h:ww7 x l k t t.length r ld sum out):sqb7 x l (k+1) r (ld&&decide (sum≤x.troom)) out:=by
 subst ht;exact h.done hk
theorem sqb7.done {x:ca7}{l:List (List ba7)}{r ld:Bool}{out:List Int}(h:sqb7 x l l.length r ld out):(r=true→zi7 x l=(true,ld)∧out=uec7 x l)∧(r=false→(zi7 x l).1=false) :=
 ⟨fun hr=>by
  obtain⟨h1,h2,-⟩:=h.yes hr
  rw[List.drop_length]at h1
  rw[List.take_length]at h2
  exact⟨h1,h2⟩,h.no⟩
/-! Bikes. -/
def go7 (m n:Nat):List Int:=(List.range n).map fun i=>if m.testBit i then 1 else 0
theorem reb7 (m n:Nat):(go7 m n).length=n:=by simp[go7]
theorem qx7 (m n i:Nat) (h:i<(go7 m n).length):(go7 m n)[i]=if m.testBit i then 1 else 0:=by simp[go7]
theorem tsb7 (m n i:Nat) (v:Int) (hv:v=1):(go7 m n).set i v=go7 (m ||| 2 ^ i) n:=by
 subst hv
 refine List.ext_getElem (by simp[go7]) fun j h1 h2=>?_
 rw[List.getElem_set]
 simp only[go7,List.getElem_map,List.getElem_range,Nat.testBit_or,Nat.testBit_two_pow]
 by_cases e:i=j <;> simp[e]
theorem drb7 (n:Nat):go7 0 n=gf7 n:=by
 refine List.ext_getElem (by simp[go7,gf7]) fun j h1 h2=>?_
 simp[go7,gf7]
def nu7 (x:ca7) (m:Nat) (c:Int):Bool:=((decide (0≤c))&&decide (c<x.custs.length)) && !m.testBit c.toNat
theorem nt7 (x:ca7) (m:Nat) (c:Int):nu7 x m c = !gh7 x m c:=by
 unfold nu7 gh7
 rw[Bool.eq_iff_iff]
 simp only[Bool.and_eq_true,decide_eq_true_eq,Bool.not_eq_true',Bool.or_eq_false_iff,decide_eq_false_iff_not]
 constructor
 ·rintro⟨⟨h1,h2⟩,h3⟩
  exact⟨⟨by omega,by omega⟩,h3⟩
 ·rintro⟨⟨h1,h2⟩,h3⟩
  exact⟨⟨by omega,by omega⟩,h3⟩
structure BInv (x:ca7) (l:List ga7) (tr lt:Bool) (k:Nat) (r ld:Bool) (sv out:List Int):Prop where
 len:out.length=x.sats.length
 svL:sv.length=x.custs.length
 yes:r=true→tr=true∧(∃(m:Nat) (lb:Bool),mm7 x l=gk7 x (l.drop k) m lb∧ld=(lt&&lb)∧sv=go7 m x.custs.length∧m<2 ^ x.custs.length)∧out=(l.take k).foldl (vlb7 x) (List.replicate x.sats.length 0)∧ah7 out (ic7 l k)
 no:r=false→tr=false∨(mm7 x l).1=false
theorem BInv.start (x:ca7) (l:List ga7) (tr lt:Bool):BInv x l tr lt 0 tr lt (gf7 x.custs.length) (gf7 x.sats.length) :=
 ⟨by simp[gf7],by simp[gf7],fun h=>⟨h,⟨0,true,rfl,by simp,(drb7 _).symm,Nat.two_pow_pos _⟩,rfl,ah7.zero _⟩,fun h=>.inl h⟩
structure ho7 (x:ca7) (l:List ga7) (tr lt:Bool) (k:Nat) (b:ga7) (j:Nat) (r ld:Bool) (sum:Int) (sv out:List Int):Prop where
 len:out.length=x.sats.length
 svL:sv.length=x.custs.length
 sumB:0≤sum∧sum≤1000000000*(j:Int)
 yes:r=true→tr=true∧(∃(m0 m:Nat) (lb:Bool),mm7 x l=gk7 x (l.drop k) m0 lb∧ld=(lt&&lb)∧ll7 x b=false∧jw7 x m0 b.stops=(b.stops.drop j).foldl (jo7 x) (some (m,x.broom-sum)) ∧
  sv=go7 m x.custs.length∧m<2 ^ x.custs.length)∧out=(b.stops.take j).foldl (ro7 x b.sat) ((l.take k).foldl (vlb7 x) (List.replicate x.sats.length 0))∧ah7 out (ic7 l k+j)
 no:r=false→tr=false∨(mm7 x l).1=false
theorem tl7 (x:ca7) (b:ga7):ll7 x b = !(decide (0<b.stops.length)&&ug7 x b.sat):=by
 unfold ll7 ug7
 rw[Bool.eq_iff_iff]
 simp only[Bool.or_eq_true,decide_eq_true_eq,Bool.not_eq_true',Bool.and_eq_false_iff,decide_eq_false_iff_not]
 omega
theorem ho7.start {x:ca7}{l:List ga7}{tr lt:Bool}{k:Nat}{r ld:Bool}{sv out:List Int}(h:BInv x l tr lt k r ld sv out) (hk:k<l.length) :
  ho7 x l tr lt k l[k] 0 ((r&&decide (0<l[k].stops.length))&&ug7 x l[k].sat) ld 0 sv out:=by
 refine⟨h.len,h.svL,by decide,fun hr=>?_,fun hr=>?_⟩
 ·rw[Bool.and_assoc,Bool.and_eq_true]at hr
  obtain⟨h0,⟨m,lb,h1,h2,h3,h4⟩,h5,h6⟩:=h.yes hr.1
  exact⟨h0,⟨m,m,lb,h1,h2,by rw[tl7,hr.2];rfl,by simp only[jw7,List.drop_zero,Int.sub_zero],h3,h4⟩,h5,h6⟩
 ·cases r with
  | false=>exact h.no rfl
  | true =>
   rw[Bool.true_and]at hr
   obtain⟨h0,⟨m,lb,h1,h2,h3,h4⟩,h5,h6⟩:=h.yes rfl
   refine .inr ?_
   rw[h1,List.drop_eq_getElem_cons hk,kr7 (by rw[tl7,hr];rfl)]
theorem ho7.addLoad_eq {x:ca7}{sat:Int}{out:List Int}{c:Int}(hs:ug7 x sat=true) (hl:out.length=x.sats.length) (hc:0≤c∧c<x.custs.length) :
  ro7 x sat out c=out.set sat.toNat (out.getD sat.toNat 0+(x.custs.getD c.toNat ⟨0,0,0,0⟩).load):=by
 simp only[ug7,Bool.and_eq_true,decide_eq_true_eq]at hs
 unfold ro7
 rw[if_pos (by rw[hl];omega)]
theorem ho7.step {x:ca7}{l:List ga7}{tr lt:Bool}{k:Nat}{b:ga7}{j:Nat}{ld:Bool}{sum:Int}{sv out:List Int}(h:ho7 x l tr lt k b j true ld sum sv out) (hj:j<b.stops.length)
  (hcu:∀c∈x.custs,0≤c.load∧c.load≤1000000000) (hc:0≤b.stops[j]∧b.stops[j]<x.custs.length) (h0:sv.getD (b.stops[j]).toNat 0=0) :
  ho7 x l tr lt k b (j+1) true ld (sum+(x.custs.getD (b.stops[j]).toNat ⟨0,0,0,0⟩).load) (sv.set (b.stops[j]).toNat 1) (ro7 x b.sat out b.stops[j]):=by
 obtain⟨t0,⟨m0,m,lb,h1,h2,h3,h4,h5,h6⟩,h7,h8⟩:=h.yes rfl
 obtain⟨c,hce⟩:∃c,c=b.stops[j]:=⟨_,rfl⟩
 rw[← hce]at hc h0 ⊢
 have hcl:c.toNat<x.custs.length:=by omega
 have hld:=hcu _ (List.getElem_mem hcl)
 have hcd:(x.custs.getD c.toNat ⟨0,0,0,0⟩)=x.custs[c.toNat]:=by rw[List.getD_eq_getElem?_getD,List.getElem?_eq_getElem hcl];rfl
 have hsb:=h.sumB
 have htb:m.testBit c.toNat=false:=by
  rw[h5,List.getD_eq_getElem?_getD,List.getElem?_eq_getElem (by rw[reb7];exact hcl),Option.getD_some,qx7]at h0
  cases e:m.testBit c.toNat with
  | false=>rfl
  | true=>rw[e]at h0;cases h0
 have hcb:gh7 x m c=false:=by
  have:=nt7 x m c
  unfold nu7 at this
  rw[decide_eq_true hc.1,decide_eq_true hc.2,htb]at this
  simpa using this.symm
 have hth:ug7 x b.sat=true:=by
  rw[tl7]at h3
  have:(decide (0<b.stops.length)&&ug7 x b.sat)=true:=by simpa using h3
  exact (Bool.and_eq_true_iff.1 this).2
 refine⟨by rw[xlb7];exact h.len,by rw[List.length_set];exact h.svL,by rw[hcd];push_cast;omega,fun _=>⟨t0,⟨m0,m ||| 2 ^ c.toNat,lb,h1,h2,h3, ?_, ?_, ?_⟩, ?_, ?_⟩,fun h=>by cases h⟩
 ·rw[h4,List.drop_eq_getElem_cons hj,List.foldl_cons,← hce,yw7 hcb]
  show List.foldl (jo7 x) (some (m ||| 2 ^ c.toNat,x.broom-sum-(x.custs.getD c.toNat ⟨0,0,0,0⟩).load)) _=_
  rw[Int.sub_sub]
 ·rw[h5,tsb7 _ _ _ _ rfl]
 ·exact Nat.or_lt_two_pow h6 (Nat.pow_lt_pow_right (by decide) hcl)
 ·rw[gc7 _ _ _ _ hj,← h7,← hce]
 ·rw[ho7.addLoad_eq hth h.len hc,← Nat.add_assoc]
  have hs2:b.sat.toNat<out.length:=by
   simp only[ug7,Bool.and_eq_true,decide_eq_true_eq]at hth
   rw[h.len];omega
  refine h8.add ?_ (by rw[hcd];exact hld)
  rw[List.getD_eq_getElem?_getD,List.getElem?_eq_getElem hs2]
  exact h8.get hs2
theorem ho7.twice {x:ca7}{l:List ga7}{tr lt:Bool}{k:Nat}(hk:k<l.length) {j:Nat}{r ld:Bool}{sum:Int}{sv out:List Int}(h:ho7 x l tr lt k l[k] j r ld sum sv out) (hj:j<l[k].stops.length)
  (hr:r=true→¬((0≤(l[k]).stops[j]∧(l[k]).stops[j]<x.custs.length)∧sv.getD ((l[k]).stops[j]).toNat 0=0)):r=true→(mm7 x l).1=false:=by
 intro hrt
 obtain⟨t0,⟨m0,m,lb,h1,h2,h3,h4,h5,h6⟩,h7,h8⟩:=h.yes hrt
 have hr:=hr hrt
 obtain⟨c,hce⟩:∃c,c=(l[k]).stops[j]:=⟨_,rfl⟩
 rw[← hce]at hr
 have hcb:gh7 x m c=true:=by
  have:=nt7 x m c
  cases e:gh7 x m c with
  | true=>rfl
  | false =>
   rw[e]at this
   simp only[nu7,Bool.and_eq_true,decide_eq_true_eq,Bool.not_eq_true',Bool.not_false]at this
   refine absurd ⟨this.1, ?_⟩ hr
   rw[h5,List.getD_eq_getElem?_getD,List.getElem?_eq_getElem (by rw[reb7];omega),Option.getD_some,qx7,this.2];rfl
 rw[h1,List.drop_eq_getElem_cons hk,qo7 (by rw[h4,List.drop_eq_getElem_cons hj,List.foldl_cons,← hce,us7 hcb,ns7])]
theorem ho7.stop {x:ca7}{l:List ga7}{tr lt:Bool}{k:Nat}(hk:k<l.length) {j:Nat}{r ld:Bool}{sum sum':Int}{sv out sv' out':List Int}(h:ho7 x l tr lt k l[k] j r ld sum sv out) (hj:j<l[k].stops.length)
  (hr:r=true→¬((0≤(l[k]).stops[j]∧(l[k]).stops[j]<x.custs.length)∧sv.getD ((l[k]).stops[j]).toNat 0=0)) (hl:out'.length=x.sats.length) (hs:sv'.length=x.custs.length) (hb:0≤sum'∧sum'≤1000000000*((j+1:Nat):Int)) :
  ho7 x l tr lt k l[k] (j+1) false ld sum' sv' out' :=
 ⟨hl,hs,hb,(fun h=>by cases h),fun _=>(by
  rcases Bool.eq_false_or_eq_true r with e | e
  ·exact .inr (h.twice hk hj hr e)
  ·exact h.no e)⟩
theorem ho7.done {x:ca7}{l:List ga7}{tr lt:Bool}{k:Nat}(hk:k<l.length) {r ld:Bool}{sum:Int}{sv out:List Int}(h:ho7 x l tr lt k l[k] l[k].stops.length r ld sum sv out) :
  BInv x l tr lt (k+1) r (ld&&decide (sum≤x.broom)) sv out:=by
 refine⟨h.len,h.svL,fun hr=>?_,h.no⟩
 obtain⟨t0,⟨m0,m,lb,h1,h2,h3,h4,h5,h6⟩,h7,h8⟩:=h.yes hr
 rw[List.drop_length,List.foldl_nil]at h4
 rw[List.take_length]at h7
 refine⟨t0,⟨m,lb&&decide (0≤x.broom-sum), ?_, ?_,h5,h6⟩, ?_, ?_⟩
 ·rw[h1,List.drop_eq_getElem_cons hk,gy7 h3 h4]
 ·rw[h2,Bool.and_assoc]
  congr 2
  rw[Bool.eq_iff_iff];simp
 ·rw[gc7 _ _ _ _ hk,h7];rfl
 ·rw[th7 hk];exact h8
theorem ho7.start2 {x:ca7}{l:List ga7}{tr lt:Bool}{k:Nat}{r ld:Bool}{sv out:List Int}(h:BInv x l tr lt k r ld sv out) (hk:k<l.length) {b:ga7}(hb:b=l[k]) :
  ho7 x l tr lt k b 0 ((r&&decide (0<b.stops.length))&&ug7 x b.sat) ld 0 sv out:=by
 subst hb;exact ho7.start h hk
theorem ho7.stop2 {x:ca7}{l:List ga7}{tr lt:Bool}{k:Nat}(hk:k<l.length) {b:ga7}(hbe:b=l[k]) {j:Nat}{r ld:Bool}{sum sum':Int}{sv out sv' out':List Int}(h:ho7 x l tr lt k b j r ld sum sv out) (hj:j<b.stops.length)
  (hr:r=true→¬((0≤b.stops[j]∧b.stops[j]<x.custs.length)∧sv.getD (b.stops[j]).toNat 0=0)) (hl:out'.length=x.sats.length) (hs:sv'.length=x.custs.length) (hb:0≤sum'∧sum'≤1000000000*((j+1:Nat):Int)) :
  ho7 x l tr lt k b (j+1) false ld sum' sv' out':=by
 subst hbe;exact h.stop hk hj hr hl hs hb
theorem ho7.done2 {x:ca7}{l:List ga7}{tr lt:Bool}{k:Nat}(hk:k<l.length) {b:ga7}(hb:b=l[k]) {r ld:Bool}{sum:Int}{sv out:List Int}(h:ho7 x l tr lt k b b.stops.length r ld sum sv out) :
  BInv x l tr lt (k+1) r (ld&&decide (sum≤x.broom)) sv out:=by
 subst hb;exact h.done hk
theorem ho7.facts {x:ca7}{l:List ga7}{tr lt:Bool}{k:Nat}{b:ga7}{j:Nat}{ld:Bool}{sum:Int}{sv out:List Int}(h:ho7 x l tr lt k b j true ld sum sv out) (c:Nat) :
  (0≤b.sat∧b.sat<x.sats.length)∧(0≤sv.getD c 0∧sv.getD c 0≤1)∧ah7 out (ic7 l k+j):=by
 obtain⟨t0,⟨m0,m,lb,h1,h2,h3,h4,h5,h6⟩,h7,h8⟩:=h.yes rfl
 refine⟨?_, ?_,h8⟩
 ·rw[tl7]at h3
  have:(decide (0<b.stops.length)&&ug7 x b.sat)=true:=by simpa using h3
  have:=(Bool.and_eq_true_iff.1 this).2
  simpa[ug7]using this
 ·rw[h5,List.getD_eq_getElem?_getD]
  by_cases hc:c<(go7 m x.custs.length).length
  ·rw[List.getElem?_eq_getElem hc,Option.getD_some,qx7];split <;> decide
  ·rw[List.getElem?_eq_none (by omega)];decide
theorem ho7.go {x:ca7}{l:List ga7}{tr lt:Bool}{k:Nat}(hk:k<l.length) {b:ga7}(hbe:b=l[k]) {j:Nat}{ld:Bool}{sum:Int}{sv out:List Int}(h:ho7 x l tr lt k b j true ld sum sv out) (hj:j<b.stops.length)
  (hcu:∀c∈x.custs,0≤c.load∧c.load≤1000000000) {c:Int} (hce:c=b.stops[j]) (hc:0≤c∧c<x.custs.length) {v ov lo:Int} (hv:sv.getD c.toNat 0=v) (hov:out.getD b.sat.toNat 0=ov) (hlo:(x.custs.getD c.toNat ⟨0,0,0,0⟩).load=lo) :
  ho7 x l tr lt k b (j+1) (v+1==1) ld (sum+lo) (sv.set c.toNat (v+1)) (out.set b.sat.toNat (ov+lo)):=by
 subst hce hv hov hlo
 have hf:=h.facts 0
 have hcl:(b.stops[j]).toNat<x.custs.length:=by omega
 have hld:=hcu _ (List.getElem_mem hcl)
 have hcd:(x.custs.getD (b.stops[j]).toNat ⟨0,0,0,0⟩)=x.custs[(b.stops[j]).toNat]:=by rw[List.getD_eq_getElem?_getD,List.getElem?_eq_getElem hcl];rfl
 by_cases h0:sv.getD (b.stops[j]).toNat 0=0
 ·have:=h.step hj hcu hc h0
  rw[ho7.addLoad_eq (by simp[ug7,hf.1]) h.len hc]at this
  rw[h0]
  exact this
 ·have e:(sv.getD (b.stops[j]).toNat 0+1==1)=false:=by rw[beq_eq_false_iff_ne];omega
  rw[e]
  have hs:=h.sumB
  exact h.stop2 hk hbe hj (fun _ hn=>h0 hn.2) (by rw[List.length_set];exact h.len) (by rw[List.length_set];exact h.svL) (by rw[hcd];push_cast;omega)
theorem tbc7:∀n,n≤6→∀m,m<2 ^ n→(Lib.onesCount m=n↔∀i,i<n→m.testBit i=true):=by decide +kernel
theorem gac7 {x:ca7}{p:ua7}{tr lt r ld:Bool}{dr sv out:List Int}(hn:x.custs.length≤6) (hck:check x=0) (hT:sqb7 x p.trucks p.trucks.length tr lt dr) (hB:BInv x p.bikes tr lt p.bikes.length r ld sv out)
  (hf:¬(x.tmany<p.trucks.length∨x.bmany<p.bikes.length)):fb7 x p=if r=false then 15 else if 0∈sv then 8 else if (ld && !rt7 x out x.sats.length)=false then 10 else if out=dr then 0 else 13:=by
 unfold fb7
 rw[if_neg (by simpa using hck),if_neg hf]
 have ht:=hT.done
 cases r with
 | false =>
  rw[if_pos rfl,if_pos]
  rcases hB.no rfl with h | h
  ·exact .inl (ht.2 h)
  ·exact .inr h
 | true =>
  obtain⟨htr,⟨m,lb,h1,h2,h3,h4⟩,h5,h6⟩:=hB.yes rfl
  obtain⟨h7,h8⟩:=ht.1 htr
  rw[List.drop_length]at h1
  rw[List.take_length]at h5
  have h9:mm7 x p.bikes=(true,decide (Lib.onesCount m=x.custs.length),lb):=h1
  have h10:out=fvb7 x p.bikes:=h5
  rw[h7,h9,← h10,← h8]
  have hz:(0∈sv)↔¬Lib.onesCount m=x.custs.length:=by
   rw[tbc7 _ hn _ h4,h3]
   simp only[go7,List.mem_map,List.mem_range]
   constructor
   ·rintro⟨i,hi,e⟩ hall
    rw[hall i hi]at e;cases e
   ·intro hna
    obtain⟨i,hi⟩:=Classical.not_forall.1 hna
    obtain⟨hi,e⟩:=Classical.not_imp.1 hi
    exact⟨i,hi,by rw[if_neg e]⟩
  simp only[Bool.true_eq_false,or_self,if_false]
  by_cases hon:Lib.onesCount m=x.custs.length
  ·have hz2:¬(0∈sv):=fun h=>hz.1 h hon
   rw[decide_eq_true hon,if_neg hz2]
   subst h2
   cases lt <;> cases lb <;> cases rt7 x out x.sats.length <;> simp
  ·rw[decide_eq_false hon,if_pos rfl,if_pos (hz.2 hon)]
end Go.Proofs.YtedahhjopmkbbaaGreat




namespace Go.Proofs.YtedahhjopmkbbaaGreat
open Go.RowKit
/-! Sums. -/
theorem hvb7:∀(l:List Int) (k:Nat) (h:k<l.length) (v:Int),(l.set k v).sum=l.sum+(v-l[k])
 | a::l,0,_,v=>by simp;omega
 | a::l,k+1,h,v=>by
  rw[List.set_cons_succ,List.sum_cons,List.sum_cons,hvb7 l k (Nat.lt_of_succ_lt_succ h) v,List.getElem_cons_succ];omega
def bump (l:List Int) (k:Nat) (v:Int):List Int:=l.set k (l.getD k 0+v)
theorem yt7 {l:List Int}{k:Nat}(h:k<l.length) (v:Int):(bump l k v).sum=l.sum+v:=by
 unfold bump
 rw[hvb7 l k h,List.getD_eq_getElem?_getD,List.getElem?_eq_getElem h,Option.getD_some];omega
/-! Trucks that may go. -/
def nx7 (t:List ba7):Int:=(t.map ba7.load).sum
theorem qt7 (t:List ba7) (s:ba7):nx7 (t++[s])=nx7 t+s.load:=by
 unfold nx7;rw[List.map_append,List.sum_append];simp
structure wzb7 (x:ca7) (t:List ba7):Prop where
 pos:0<t.length
 ok:∀o∈t,bi7 x o
 nodup:(t.map ba7.sat).Nodup
 room:nx7 t≤x.troom
theorem pj7 (l:List (List ba7)) (t:List ba7) (s:ba7):cb7 (l++[t]) s=l++[t++[s]]:=by
 unfold cb7
 rw[List.length_append,List.length_singleton,Nat.add_sub_cancel,List.getD_eq_getElem?_getD,List.getElem?_append_right (Nat.le_refl _),Nat.sub_self,List.set_append_right _ _ (Nat.le_refl _),Nat.sub_self];rfl
theorem cs7 (l:List (List ba7)) (t:List ba7):lastT (l++[t])=t:=by
 unfold lastT
 rw[List.length_append,List.length_singleton,Nat.add_sub_cancel,List.getD_eq_getElem?_getD,List.getElem?_append_right (Nat.le_refl _),Nat.sub_self];rfl
theorem yo7 {α:Type}{l:List α}(h:0<l.length):∃l' a,l=l'++[a]:=⟨l.dropLast,l.getLast (List.ne_nil_of_length_pos h),(List.dropLast_concat_getLast _).symm⟩
structure Fit (x:ca7) (D:Nat→Prop) (dr:List Int) (out:List (List ba7)) (left:Int):Prop where
 drop:out.foldl qn7 (gf7 x.sats.length)=dr
 many:(out.length:Int)≤x.tmany
 leftB:0≤left∧left<x.troom
 sum:dr.sum=x.troom*(out.length:Int)-left
 cnt:(((out.map List.length).sum:Nat):Int)≤dr.sum
 trucks:∀t∈out,wzb7 x t
 last:0<left→0<out.length∧nx7 (lastT out)=x.troom-left
 sats:∀t∈out,∀o∈t,D o.sat.toNat
theorem Fit.len {x:ca7}{D:Nat→Prop}{dr:List Int}{out:List (List ba7)}{left:Int}(h:Fit x D dr out left):dr.length=x.sats.length:=by
 rw[← h.drop,pcb7];simp[gf7]
theorem Fit.nil {x:ca7}{D:Nat→Prop}(hr:1≤x.troom) (hm:0≤x.tmany):Fit x D (gf7 x.sats.length) [] 0 :=
 ⟨rfl,hm,by omega,by simp[gf7],by simp[gf7],(fun _ h=>by cases h),fun h=>absurd h (by decide),fun _ h=>by cases h⟩
theorem Fit.imp {x:ca7}{D D':Nat→Prop}{dr:List Int}{out:List (List ba7)}{left:Int}(h:Fit x D dr out left) (hd:∀s,D s→D' s):Fit x D' dr out left :=
 ⟨h.drop,h.many,h.leftB,h.sum,h.cnt,h.trucks,h.last,fun t ht o ho=>hd _ (h.sats t ht o ho)⟩
theorem Fit.stop {x:ca7}{D:Nat→Prop}{dr:List Int}{out:List (List ba7)}{left k:Int}{s:Nat}(h:Fit x D dr out left) (hl:0<left) (hs:s<x.sats.length) (hD:D s) (hns:∀o∈lastT out,o.sat≠s) (hk:1≤k∧k≤left) (hr:x.troom≤1000000000) :
  Fit x D (bump dr s k) (cb7 out ⟨s,k⟩) (left-k):=by
 obtain⟨h1,h2⟩:=h.last hl
 obtain⟨l,t,rfl⟩:=yo7 h1
 rw[cs7]at h2 hns
 have hb:=h.leftB
 have hsum:=h.sum
 have hcnt:=h.cnt
 have hsl:s<dr.length:=by rw[h.len];exact hs
 have ht:=h.trucks t (by simp)
 rw[pj7]
 refine⟨?_, ?_,by omega, ?_, ?_,fun t' ht'=>?_,fun _=>⟨by simp, ?_⟩,fun t' ht' o ho=>?_⟩
 ·have hd:=h.drop
  rw[List.foldl_append,List.foldl_cons,List.foldl_nil]at hd ⊢
  unfold qn7 at hd ⊢
  rw[List.foldl_append,hd];rfl
 ·have:=h.many;simp only[List.length_append,List.length_singleton]at this ⊢; exact this
 ·rw[yt7 hsl,hsum];simp only[List.length_append,List.length_singleton];omega
 ·rw[yt7 hsl]
  simp only[List.map_append,List.sum_append,List.map_cons,List.map_nil,List.sum_cons,List.sum_nil,List.length_append,List.length_singleton,Nat.add_zero]at hcnt ⊢
  push_cast at hcnt ⊢; omega
 ·rcases List.mem_append.1 ht' with ht' | ht'
  ·exact h.trucks t' (List.mem_append_left _ ht')
  ·obtain rfl:=List.mem_singleton.1 ht'
   refine⟨by simp,fun o ho=>?_, ?_,by rw[qt7];show _+k≤_;omega⟩
   ·rcases List.mem_append.1 ho with ho | ho
    ·exact ht.ok o ho
    ·obtain rfl:=List.mem_singleton.1 ho
     exact⟨⟨Int.natCast_nonneg _,by show ((s:Nat):Int)<_;omega⟩,by show 1≤k;omega,by show k≤_;omega⟩
   ·rw[List.map_append,List.nodup_append]
    refine⟨ht.nodup,by simp,fun a ha b hb e=>?_⟩
    obtain⟨o,ho,rfl⟩:=List.mem_map.1 ha
    simp only[List.map_cons,List.map_nil,List.mem_singleton]at hb
    exact hns o ho (e.trans hb)
 ·rw[cs7,qt7,h2];show _+k=_;omega
 ·rcases List.mem_append.1 ht' with ht' | ht'
  ·exact h.sats t' (List.mem_append_left _ ht') o ho
  ·obtain rfl:=List.mem_singleton.1 ht'
   rcases List.mem_append.1 ho with ho | ho
   ·exact h.sats t (by simp) o ho
   ·obtain rfl:=List.mem_singleton.1 ho
    show D ((s:Int)).toNat
    rw[Int.toNat_natCast];exact hD
theorem Fit.push {x:ca7}{D:Nat→Prop}{dr:List Int}{out:List (List ba7)}{k:Int}{s:Nat}(h:Fit x D dr out 0) (hm:(out.length:Int)≠x.tmany) (hs:s<x.sats.length) (hD:D s) (hk:1≤k∧k≤x.troom) (hr:x.troom≤1000000000) :
  Fit x D (bump dr s k) (cb7 (out++[[]]) ⟨s,k⟩) (x.troom-k):=by
 have hb:=h.leftB
 have hsum:=h.sum
 have hcnt:=h.cnt
 have hsl:s<dr.length:=by rw[h.len];exact hs
 have hmm:=h.many
 rw[pj7,List.nil_append]
 refine⟨?_, ?_,by omega, ?_, ?_,fun t' ht'=>?_,fun _=>⟨by simp, ?_⟩,fun t' ht' o ho=>?_⟩
 ·rw[List.foldl_append,h.drop];rfl
 ·simp only[List.length_append,List.length_singleton];push_cast;omega
 ·rw[yt7 hsl,hsum];simp only[List.length_append,List.length_singleton];push_cast;rw[Int.mul_add];omega
 ·rw[yt7 hsl]
  simp only[List.map_append,List.sum_append,List.map_cons,List.map_nil,List.sum_cons,List.sum_nil,List.length_singleton,Nat.add_zero]at hcnt ⊢
  push_cast at hcnt ⊢; omega
 ·rcases List.mem_append.1 ht' with ht' | ht'
  ·exact h.trucks t' ht'
  ·obtain rfl:=List.mem_singleton.1 ht'
   refine⟨by simp,fun o ho=>?_,by simp,by show (List.map ba7.load [⟨(s:Int),k⟩]).sum≤_;simp;omega⟩
   obtain rfl:=List.mem_singleton.1 ho
   exact⟨⟨Int.natCast_nonneg _,by show ((s:Nat):Int)<_;omega⟩,by show 1≤k;omega,by show k≤_;omega⟩
 ·rw[cs7];show (List.map ba7.load [⟨(s:Int),k⟩]).sum=_;simp;omega
 ·rcases List.mem_append.1 ht' with ht' | ht'
  ·exact h.sats t' ht' o ho
  ·obtain rfl:=List.mem_singleton.1 ht'
   obtain rfl:=List.mem_singleton.1 ho
   show D ((s:Int)).toNat
   rw[Int.toNat_natCast];exact hD
/-! The loads of a draft's bikes, all together. -/
end Go.Proofs.YtedahhjopmkbbaaGreat

namespace Go.Proofs.YtedahhjopmkbbaaGreat
open Go.RowKit
structure nm7 (x:jb7):Prop where
 fin:wf8 x.fin
 trucks:wf8 x.trucks
 troom:wf8 x.troom
 bikes:wf8 x.bikes
 broom:wf8 x.broom
 sats:∀s∈x.sats,wf8 s.room∧wf8 s.hold
 custs:∀c∈x.custs,wf8 c.load∧wf8 c.opn∧wf8 c.wide∧wf8 c.stay
theorem lcc7 {w:World}{F:Nat→Prop}{x:jb7}{cs:List Value}(h:bt7.rep w F x cs):nm7 x:=by
 obtain⟨_,_,_,_,rfl,h0,h1,h2,-,-⟩:=h
 obtain⟨_,_,_,_,-,-,-,-,-,-,hs⟩:=gbb7 h1
 obtain⟨_,_,_,_,-,-,-,-,-,-,hc⟩:=kz7 h2
 exact⟨h0.1,h0.2.1,h0.2.2.1,h0.2.2.2.1,h0.2.2.2.2,hs,hc⟩
theorem ucb7 (x:jb7):qe7 x=1∨qe7 x=9:=by unfold qe7;split <;> simp
theorem kab7 (l:List Int) (n i k0:Nat):∀m j:Nat,0≤(jg7 l n i k0 m).1.getD j 0∧(jg7 l n i k0 m).1.getD j 0≤29∧(i=j→(jg7 l n i k0 m).1.getD j 0=0)
 | 0,j=>by
  have:(List.replicate n (0:Int)).getD j 0=0:=by rw[List.getD_eq_getElem?_getD,List.getElem?_replicate];split <;> rfl
  show 0≤(List.replicate n (0:Int)).getD j 0∧(List.replicate n (0:Int)).getD j 0≤29∧(i=j→(List.replicate n (0:Int)).getD j 0=0)
  rw[this];simp
 | m+1,j=>by
  have ih:=kab7 l n i k0 m j
  simp only[jg7]
  split
  ·rename_i hc
   simp only[List.getD_eq_getElem?_getD,List.getElem?_set]at ih ⊢
   split
   ·rename_i e
    split
    ·simp only[Option.getD_some]
     refine⟨by omega,by omega,fun h=>absurd (h.trans e.symm) hc.1⟩
    ·simp
   ·exact ih
  ·exact ih
theorem zcb7 (l:List Int) (n:Nat):∀i j (h:j<(lr7 l n i).1.length),((lr7 l n i).1[j]).length=n∧∀k,0≤((lr7 l n i).1[j]).getD k 0∧((lr7 l n i).1[j]).getD k 0≤29∧(j=k→((lr7 l n i).1[j]).getD k 0=0)
 | 0,j,h=>by simp[lr7]at h
 | i+1,j,h=>by
  have hl:=wk7 l n i
  by_cases hj:j<i
  ·have e:(lr7 l n (i+1)).1[j]=(lr7 l n i).1[j]'(by omega):=by
    simp only[lr7];rw[List.getElem_append_left (by omega)]
   rw[e];exact zcb7 l n i j _
  ·have hji:j=i:=by rw[wk7]at h;omega
   subst hji
   have e:(lr7 l n (j+1)).1[j]=(jg7 l n j (lr7 l n j).2 n).1:=by
    simp only[lr7];rw[List.getElem_append_right (by omega)];simp[hl]
   rw[e]
   exact⟨zhb7 _ _ _ _ _,fun k=>kab7 l n j _ n k⟩
theorem jl7 (l:List Int) (n:Nat):is7 (ke7 l n) (n:Int)=true∧kkc7 (ke7 l n) (ke7 l n).length=true:=by
 have hl:(ke7 l n).length=n:=by unfold ke7;exact wk7 l n n
 refine⟨?_, ?_⟩
 ·simp only[is7,Bool.and_eq_true,beq_iff_eq,Bool.not_eq_true',List.any_eq_false,bne_iff_ne,ne_eq,Decidable.not_not]
  refine⟨by rw[hl],fun r hr=>?_⟩
  obtain⟨j,hj,rfl⟩:=List.getElem_of_mem hr
  rw[show ((ke7 l n)[j]).length=n from (zcb7 l n n j hj).1]
 ·simp only[kkc7,List.all_eq_true,List.mem_range]
  intro i hi
  rw[List.getD_eq_getElem?_getD,List.getElem?_eq_getElem hi]
  simp only[wkc7,Option.getD_some,List.all_eq_true,List.mem_range]
  intro k _
  have h:=(zcb7 l n n i hi).2 k
  simp only[hjc7,ijb7,Bool.and_eq_true,decide_eq_true_eq,Bool.or_eq_true,bne_iff_ne,ne_eq,beq_iff_eq]
  refine⟨⟨h.1,by have:=h.2.1;show ((lr7 l n n).1[i]).getD k 0≤_;omega⟩, ?_⟩
  by_cases e:i=k
  ·exact .inr (h.2.2 e)
  ·left;omega
theorem ejc7 {x:jb7}(h:nm7 x):∀s∈he7 x,(0≤s.room∧s.room≤1000)∧0≤s.hold∧s.hold≤1000:=by
 intro s hs
 have hw:=ucb7 x
 unfold he7 at hs
 split at hs
 ·simp at hs;subst hs;simp
 ·unfold xd7 at hs
  obtain⟨t,ht,rfl⟩:=List.mem_map.1 hs
  have:=h.sats t (List.mem_of_mem_take (List.mem_of_mem_take ht))
  unfold wf8 at this
  unfold lub7
  rcases hw with e | e <;> rw[e] <;> simp only[] <;> omega
theorem epb7 {x:jb7}(h:nm7 x):∀c∈dd7 x,(1≤c.load∧c.load≤1000)∧(0≤c.opn∧c.opn≤1000)∧(c.opn≤c.cls∧c.cls≤10000)∧0≤c.stay∧c.stay≤1000:=by
 intro s hs
 have hw:=ucb7 x
 unfold dd7 at hs
 split at hs
 ·simp at hs;subst hs;simp
 ·unfold tb7 at hs
  obtain⟨t,ht,rfl⟩:=List.mem_map.1 hs
  have:=h.custs t (List.mem_of_mem_take (List.mem_of_mem_take ht))
  unfold wf8 at this
  unfold hz7 xab7
  rcases hw with e | e <;> rw[e] <;> simp only[] <;> split <;> omega
theorem ar7 {n l:Int}(h:l≤n) (h2:n≤1000000000):ijb7 n l=true:=by simp[ijb7,h,h2]
theorem ss7 {x:jb7}(h:nm7 x):check (yj7 x)=0:=by
 have hw:=ucb7 x
 have h0:=h.fin
 have h1:=h.trucks
 have h2:=h.troom
 have h3:=h.bikes
 have h4:=h.broom
 unfold wf8 at h0 h1 h2 h3 h4
 have hs:=vn7 x
 have hc:=el7 x
 have hcount:countB (yj7 x)=true:=by
  show (manyB (1+x.trucks % 4) 60&&manyB (1+x.bikes % 6) 60&&manyB (he7 x).length 12&&manyB (dd7 x).length 48)=true
  simp only[manyB,Bool.and_eq_true,decide_eq_true_eq];omega
 have hsize:zzb7 (yj7 x)=true:=by
  have e:nodes (yj7 x)=ag7 x:=rfl
  simp only[zzb7,e,Bool.and_eq_true]
  exact⟨(jl7 _ _).1,(jl7 _ _).1⟩
 have hnum:vu7 (yj7 x)=true:=by
  simp only[vu7,vrb7,Bool.and_eq_true,List.all_eq_true]
  refine⟨⟨⟨⟨⟨⟨?_, ?_⟩, ?_⟩,fun s hs=>?_⟩,fun c hc=>?_⟩,(jl7 _ _).2⟩,(jl7 _ _).2⟩
  ·refine ar7 ?_ ?_ <;> simp only[yj7] <;> rcases hw with e | e <;> rw[e] <;> omega
  ·refine ar7 ?_ ?_ <;> simp only[yj7] <;> rcases hw with e | e <;> rw[e] <;> omega
  ·refine ar7 ?_ ?_ <;> simp only[yj7] <;> rcases hw with e | e <;> rw[e] <;> omega
  ·have:=ejc7 h s hs
   simp only[atc7,Bool.and_eq_true];exact⟨ar7 (by omega) (by omega),ar7 (by omega) (by omega)⟩
  ·have:=epb7 h c hc
   simp only[pic7,Bool.and_eq_true];exact⟨⟨⟨ar7 (by omega) (by omega),ar7 (by omega) (by omega)⟩,ar7 (by omega) (by omega)⟩,ar7 (by omega) (by omega)⟩
 unfold check
 rw[hcount,hsize,hnum];rfl
theorem hzb7 {x:jb7}(h:nm7 x):sub7 (yj7 x):=by
 have g:=rl7 (ss7 h)
 have hn:=oz7 x
 have e:nodes (yj7 x)=ag7 x:=rfl
 refine⟨?_,fun s hs=>?_,fun c hc=>?_,fun r hr=>?_,fun r hr=>?_⟩
 ·have h1:=g.fin;have h2:=g.tmany;have h3:=g.troom;have h4:=g.bmany;have h5:=g.broom
  unfold oa7;omega
 ·have:=g.sat s hs;unfold oa7;omega
 ·have:=g.cust c hc;unfold oa7;omega
 ·exact⟨by rw[g.costR r hr];unfold maxLen;omega,fun v hv=>by have:=g.cost r hr v hv;unfold oa7;omega⟩
 ·exact⟨by rw[g.timeR r hr];unfold maxLen;omega,fun v hv=>by have:=g.time r hr v hv;unfold oa7;omega⟩
end Go.Proofs.YtedahhjopmkbbaaGreat


namespace Go.Proofs.YtedahhjopmkbbaaGreat
open Go.RowKit
theorem tqb7 {x:jb7}(h:nm7 x):1≤(yj7 x).troom:=by
 have:=h.troom
 have hw:=ucb7 x
 unfold wf8 at this
 show 1≤5+qe7 x*(x.troom % 40)
 rcases hw with e | e <;> rw[e] <;> omega
structure ewb7 (p:ua7):Prop where
 tl:p.trucks.length≤100000
 bl:p.bikes.length≤100
 ts:∀t∈p.trucks,t.length≤100000∧∀s∈t,(-1000000000≤s.sat∧s.sat≤1000000000) ∧ -1000000000≤s.load∧s.load≤1000000000
 bs:∀b∈p.bikes,(-1000000000≤b.sat∧b.sat≤1000000000)∧b.stops.length≤100∧∀c∈b.stops,-1000000000≤c∧c≤1000000000
theorem wub7 {many room:Int}{q:Bool}{s:Nat}(hr:1≤room) (hs:s≤1000):∀(f:Nat) (n:Int) (cnt:Nat) (out:List (List ba7)) (left:Int),ie7 room cnt out left→ie7 room (cnt+n.toNat) (bx7 many room q s f n (out,left)).1 (bx7 many room q s f n (out,left)).2
 | 0,n,cnt,out,left,h=>⟨h.leftB,by have:=h.lenB;show out.length≤_;omega,h.someB,fun t ht=>by have:=h.stB t ht;exact⟨by omega,fun u hu=>by have:=this.2 u hu;omega⟩⟩
 | f+1,n,cnt,out,left,h=>by
  by_cases hn:n≤0
  ·rw[ufb7 hn]
   exact⟨h.leftB,by have:=h.lenB;show out.length≤_;omega,h.someB,fun t ht=>by have:=h.stB t ht;exact⟨by omega,fun u hu=>by have:=this.2 u hu;omega⟩⟩
  ·obtain⟨o,l,hrd,h1,h2,h3,h4,h5⟩:=h.readyQ (many:=many) (q:=q) hr
   have hb:=ie7.batch (room:=room) (l:=l) (much:=min n l) (s:=s) ⟨h1,h2⟩ ⟨h3,h4⟩ h5 (by omega) hs
   have ih:=wub7 (many:=many) (q:=q) hr hs f (n-min n l) _ _ _ hb
   have e:bx7 many room q s (f+1) n (out,left)=bx7 many room q s f (n-min n l) (cb7 o ⟨s,min n l⟩,l-min n l):=by
    show (if n≤0 then _ else _)=_
    rw[if_neg hn,hrd]
   rw[e]
   have ec:cnt+(min n l).toNat+(n-min n l).toNat=cnt+n.toNat:=by omega
   rw[ec]at ih
   exact ih
theorem sdc7 {x:ca7}{w:df7}{lo:List Int}(hr:1≤x.troom) (hl:∀s,0≤lo.getD s 0∧lo.getD s 0≤6000):∀s,s≤1000→ie7 x.troom (6000*s) (dUp x w lo s).1 (dUp x w lo s).2
 | 0,_=>ie7.nil (by omega)
 | s+1,hs=>by
  have ih:=sdc7 (w:=w) hr hl s (by omega)
  have h:=wub7 (many:=x.tmany) (q:=bsb7 w s) (s:=s) hr (by omega) (lo.getD s 0).toNat (lo.getD s 0) (6000*s) (dUp x w lo s).1 (dUp x w lo s).2 ih
  have:=hl s
  refine⟨h.leftB, ?_,h.someB,fun t ht=>?_⟩
  ·have hL:(bx7 x.tmany x.troom (bsb7 w s) s (lo.getD s 0).toNat (lo.getD s 0) (dUp x w lo s)).1.length≤6000*s+(lo.getD s 0).toNat:=h.lenB
   show (bx7 x.tmany x.troom (bsb7 w s) s (lo.getD s 0).toNat (lo.getD s 0) (dUp x w lo s)).1.length≤6000*(s+1)
   omega
  ·have:=h.stB t ht;exact⟨by omega,fun u hu=>by have:=this.2 u hu;omega⟩
theorem vk7 {x:ca7}(w:df7) (hns:1≤x.sats.length∧x.sats.length≤3) (hnc:1≤x.custs.length∧x.custs.length≤6) (hcl:∀c∈x.custs,1≤c.load∧c.load≤1000) (htr:1≤x.troom):ewb7 (fg7 x w):=by
 have hol:(jd7 x w).length=x.custs.length:=fh7 _ _
 have hk:=fk7 (x:=x) w (os:=jd7 x w) (fun c hc=>by have:=hcl c hc;omega) (by omega) (nk7 _ _) (jd7 x w).length (Nat.le_refl _)
 have hlv:∀s,0≤(ib7 x w).1.getD s 0∧(ib7 x w).1.getD s 0≤6000:=fun s=>by
  rw[List.getD_eq_getElem?_getD]
  by_cases hs:s<(ib7 x w).1.length
  ·rw[List.getElem?_eq_getElem hs]
   have:=hk.loB _ (List.getElem_mem hs)
   exact⟨this.1,Int.le_trans this.2 (by rw[hol];omega)⟩
  ·rw[List.getElem?_eq_none (by omega)];simp
 have hd:=sdc7 (x:=x) (w:=w) htr hlv (ib7 x w).1.length (by unfold ib7;rw[hk.loL];omega)
 have hll:(ib7 x w).1.length≤3:=by unfold ib7;rw[hk.loL];omega
 refine⟨?_, ?_,fun t ht=>?_,fun b hb=>?_⟩
 ·have:=hd.lenB;show (dUp x w (ib7 x w).1 (ib7 x w).1.length).1.length≤_;omega
 ·have:=hk.bsL;show (ib7 x w).2.length≤_;unfold ib7;omega
 ·have:=hd.stB t ht;exact⟨by omega,fun u hu=>by have:=this.2 u hu;omega⟩
 ·have:=hk.bsB b hb;exact⟨by omega,by omega,fun c hc=>by have:=this.2.2 c hc;omega⟩
theorem rab7 {l:List ga7}{m:Nat}(h:∀b∈l,b.stops.length≤m):∀k,k≤l.length→ic7 l k≤m*k
 | 0,_=>by unfold ic7;simp
 | k+1,hk=>by
  have ih:=rab7 h k (by omega)
  have:=h _ (List.getElem_mem (show k<l.length by omega))
  rw[th7 (show k<l.length by omega),Nat.mul_add,Nat.mul_one]
  omega
end Go.Proofs.YtedahhjopmkbbaaGreat
