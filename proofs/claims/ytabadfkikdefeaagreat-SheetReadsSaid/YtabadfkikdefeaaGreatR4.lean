/- Texts of the proof, joined: SoonM, Pc2, SameT, Same18, Run, GlC, LawO, LawK, Awake20, Split, Parse1, ParseP, Words, Next, Dec, Deep, Frame, Reader, TruckR, BikeR, Clos. -/
import Derived.Recover
import Derived.Test.YtabadfkikdefeaaGreatCan
set_option linter.all false
set_option maxRecDepth 100000
set_option maxHeartbeats 6400000
namespace Go.Proofs.YtabadfkikdefeaaGreat.Ab
open Go.RowKit
def tsH (id:Nat):List (List Int)→AV
 | []=>.nils
 | l=>.h id 0 l.length
def tsR:List (List Int)→Root
 | []=>.dead
 | l=>.live false 78 1 (.gen (l.map fun r=>[ckb7 r]))
def headL (x:ba7) (p:ab7) (ts:List (List Int)) (t:List ea7) (ready l:List Int):List Root :=
 [.live false 57 9 (.box (imc7 x)),.live false 37 2 (.box (eo7 p)),.live false 41 2 (.box [.nils,.nils]),.live false 41 2 (.box [tsH 5 ts,.nils]),.live false 2 1 (.ints .i64 ready),tsR ts,.live false 124 1 (.box [vm7 t]),lR l]
end Go.Proofs.YtabadfkikdefeaaGreat.Ab

namespace Go.Proofs.YtabadfkikdefeaaGreat.Ab
open Go.RowKit
theorem mzb7 {xs ys:List Int}(hx:∀v∈xs,za7 v) (hy:∀v∈ys,za7 v):PCall Tryz.prog 77 [.c (kf7 xs),.c (kf7 ys)] (fun r=>r = .c (.bool (decide (xs=ys)))) :=
 bq7 ⟨_,_,Tryz.func77,by kernel_rfl,rfl⟩ fun rho w vs hcv=>by
  obtain⟨_,_,rfl,h1,_,_,rfl,h2,rfl⟩:=hcv
  refine (ubb7 (bs (e:=fun (x:Int) _=>I6 x) 0 gwb7 h1 hx) (bs (e:=fun (x:Int) _=>I6 x) 0 gwb7 h2 hy)).mono ?_
  rintro e w' ⟨rfl,n,rfl⟩
  exact⟨_,_,rfl,rfl,rfl,below_drewN (Below.refl _ _) n⟩
theorem fqb7 {t:qb7}(h:lmb7 t) (k:Nat):∀v∈kab7 t k,za7 v:=by
 unfold kab7
 rw[List.getD_eq_getElem?_getD]
 by_cases hk:k<t.trucks.length
 ·rw[List.getElem?_eq_getElem hk];exact h.trucks _ (List.getElem_mem hk)
 ·rw[List.getElem?_eq_none (by omega)];intro v hv;cases hv
theorem yrb7 {t:qb7}(h:lmb7 t) (k:Nat):qzb7 (jl7 t k):=by
 unfold jl7
 rw[List.getD_eq_getElem?_getD]
 by_cases hk:k<t.bikes.length
 ·rw[List.getElem?_eq_getElem hk];exact h.bikes _ (List.getElem_mem hk)
 ·rw[List.getElem?_eq_none (by omega)];exact⟨by unfold za7;simp,by unfold za7;simp,fun v hv=>by cases hv⟩
theorem xob7 {a b:qb7}(h1:a.trucks.length=b.trucks.length) (h2:a.bikes.length=b.bikes.length) (h3:∀i,i<a.trucks.length→kab7 a i=kab7 b i) (h4:∀i,i<a.bikes.length→jl7 a i=jl7 b i):a=b:=by
 obtain⟨at_,ab⟩:=a
 obtain⟨bt,bb⟩:=b
 simp only[qb7.mk.injEq]
 constructor
 ·refine List.ext_getElem h1 fun i k1 k2=>?_
  have:=h3 i k1
  unfold kab7 at this
  rw[en7 k1,en7 k2]at this
  exact this
 ·refine List.ext_getElem h2 fun i k1 k2=>?_
  have:=h4 i k1
  unfold jl7 at this
  rw[en7 k1,en7 k2]at this
  exact this
theorem lwb7 {r q:qa7}(h1:r.out=q.out) (h2:r.starts=q.starts) (h3:r.back=q.back):r=q:=by
 cases r;cases q;cases h1;cases h2;cases h3;rfl
theorem vfc7 {a b:qb7}(ha:lmb7 a) (hb:lmb7 b) (hla:a.trucks.length≤1000000000000000∧a.bikes.length≤1000000000000000):PCall Tryz.prog 28 [.agg (ri7 a),.agg (ri7 b)] (fun r=>r = .c (.bool (decide (a=b)))):=by
 refine he7 vc7 (by kernel_rfl) (fun _=>([],0,none)) Tryz.func28 rfl (by kernel_rfl) Tryz.ntmps28 (congrArg Array.toList Tryz.results28) (by kernel_rfl) (by simp) ?_
 simp -implicitDefEqProofs only [go_sem,ri7]
 refine⟨fun h=>?_,fun h=>?_⟩
 ·simp only[Bool.or_eq_true,decide_eq_true_eq]at h
  rw[decide_eq_false]
  rintro rfl
  simp at h
 ·simp only[Bool.or_eq_false_iff,decide_eq_false_iff_not,Decidable.not_not]at h
  obtain⟨hl1,hl2⟩:a.trucks.length=b.trucks.length∧a.bikes.length=b.bikes.length:=by omega
  refine wg7 (ι:=Nat) [2,3,25] [26] (fun k=>k≤a.trucks.length∧∀i,i<k→kab7 a i=kab7 b i) (fun k=>[.c (I6 k)]) (fun _=>_) (fun k=>a.trucks.length-k) (by kernel_rfl) ⟨0,⟨Nat.zero_le _,fun i hi=>absurd hi (Nat.not_lt_zero _)⟩,rfl,rfl⟩ (fun k _=>⟨rfl,rfl,rfl,rfl⟩) ?_
  rintro k ⟨hk,hi⟩
  simp -implicitDefEqProofs only [go_sem]
  refine⟨fun h=>?_,fun h=>?_⟩
  ·have hlt:k<a.trucks.length:=by omega
   refine⟨by omega,by omega, ?_⟩
   refine be7 (mzb7 (fqb7 ha k) (fqb7 hb k)) ⟨trivial,trivial,trivial⟩ rfl (fun r h=>by subst h;rfl) ?_
   rintro r rfl
   simp -implicitDefEqProofs only [go_sem]
   refine⟨fun hne=>?_,fun he=>?_⟩
   ·rw[decide_eq_false]
    rintro rfl
    exact hne rfl
   ·simp only[Bool.not_eq_false',decide_eq_true_eq]at he
    refine⟨by omega,k+1,⟨by omega,fun i h=>?_⟩,rfl,by omega⟩
    by_cases e:i=k
    ·subst e;exact he
    ·exact hi i (by omega)
  ·obtain rfl:k=a.trucks.length:=by omega
   refine wg7 (ι:=Nat) [2,3,44] [45] (fun k=>k≤a.bikes.length∧∀i,i<k→jl7 a i=jl7 b i) (fun k=>[.c (I6 k)]) (fun _=>_) (fun k=>a.bikes.length-k) (by kernel_rfl) ⟨0,⟨Nat.zero_le _,fun i hi=>absurd hi (Nat.not_lt_zero _)⟩,rfl,rfl⟩ (fun k _=>⟨rfl,rfl,rfl,rfl⟩) ?_
   rintro k ⟨hk,hj⟩
   simp -implicitDefEqProofs only [go_sem]
   refine⟨fun h=>?_,fun h=>?_⟩
   ·have hlt:k<a.bikes.length:=by omega
    have hwa:=yrb7 ha k
    have hwb:=yrb7 hb k
    refine⟨by omega,by omega,fun _=>by omega,fun _=>by omega,fun _=>by omega,fun _=>by omega,fun h1=>?_,fun h1=>?_⟩
    ·refine be7 (mzb7 hwa.2.2 hwb.2.2) ⟨trivial,trivial,trivial⟩ rfl (fun r h=>by subst h;rfl) ?_
     rintro r rfl
     simp -implicitDefEqProofs only [go_sem]
     refine⟨fun hne=>?_,fun he=>?_⟩
     ·rw[decide_eq_false]
      rintro rfl
      simp at hne
     ·simp only[Bool.or_eq_false_iff,decide_eq_false_iff_not,Bool.not_eq_false',decide_eq_true_eq,Decidable.not_not]at he
      refine⟨by omega,k+1,⟨by omega,fun i h=>?_⟩,rfl,by omega⟩
      by_cases e:i=k
      ·subst e;exact lwb7 he.1.1 he.2 he.1.2
      ·exact hj i (by omega)
    ·have h2:(decide ¬(jl7 a k).out=(jl7 b k).out || decide ¬(jl7 a k).back=(jl7 b k).back)=true:=by
      simpa only[Bool.not_eq_false']using h1
     refine⟨fun h3=>(by rw[h2]at h3;cases h3),h2, ?_⟩
     rw[decide_eq_false]
     rintro rfl
     simp at h2
   ·obtain rfl:k=a.bikes.length:=by omega
    rw[decide_eq_true (xob7 hl1 hl2 hi hj)]
end Go.Proofs.YtabadfkikdefeaaGreat.Ab

namespace Go.Proofs.YtabadfkikdefeaaGreat.Ab
open Go.RowKit
variable {P:Program} {ty:Ty}
theorem zx7.env [Pan] {E:Env}{d:List Deferred}{M:Mp}{H:List Root}{w w':World}{ch:List PanicEntry}(h:zx7 ⟨E.W0,E.rho0,d,E.ex,E.exk⟩ M H w ch w'):zx7 E M H w ch w':=by
 obtain⟨M2,H2,r,v,e,k1,k2⟩:=h
 exact⟨M2,H2,r,v,e,k1.env2,k2⟩
theorem te7 [Pan] (hT : uh7 P ty) (hm : P.follows .mixedOrders = true) {f : FuncId} {fn : Func} {c : Code} (ord : Nat → List Nat × Nat × Option DD) (hf : P.funcs[f]? = some fn) (hb : fn.body = some c) (hname : (fn.name == "runtime.NumGoroutine") = false) {n : Nat} (hnt : fn.ntmps = n) {rs : List ResultVar} (hr : fn.results.toList = rs)
  (hok:okC n ord c=true) {args:List RV} (hn:args.length≤n) {H:List Root} {K:RV→List Root→Prop}
  (h:awp P ty ord c (jec7 ty rs K) ⟨cvb7 0 args,H⟩):ne7 P none f args H K:=by
 refine⟨⟨fn,c,hf,hname,hb⟩,fun E M w vs hrel hc=>calls_of_wp hf hb ?_⟩
 have hst:=St.enter (hrel.env []) rfl hc (n:=n) hn
 rw[hnt]
 refine wp_mono (om7 hT hm c hok hst h) fun e a' w' hA=>?_
 rcases hA with ⟨hp,M',σ',q1,q2,q3⟩ | ⟨ch,rfl,hdf,hP⟩
 case inr=>exact⟨hdf,.inr ⟨ch,rfl,hP.env⟩⟩
 have fin:(fy7 ty σ' rs).1∧K (one (fy7 ty σ' rs).2) σ'.H→a'.defers=[]∧∃v,(results fn a'.tmps).run P w' = .ok v w'∧((∃M' H' r v',Ending.returned v = .returned v'∧Rel E M' H' w'∧Kp M H w M' H' w'∧ic7 M' H' w' r v'∧(∀g,(none:Pu)=some g→bj7 (g.map M.phi) w w')∧H.length≤H'.length∧K r H')∨∃ch,Ending.returned v = .panicked ch∧zx7 E M H w ch w'):=by
  rintro⟨h1,h2⟩
  obtain⟨v,k1,k2⟩:=as7 hT q1 hr h1
  exact⟨q1.df,v,k2,.inl ⟨M',σ'.H,_,v,rfl,q1.rel.env2,q2.kp,k1,fun g e=>(by cases e),q2.len,h2⟩⟩
 cases e with
 | normal=>exact fin q3
 | ret=>exact fin q3
 | panic ch=>exact absurd rfl (hp ch)
 | exit id=>exact q3.elim
 | goto l=>exact q3.elim
 | outgrown=>exact q3.elim
theorem glob_triv {rho:Nat→Prop}{w:World}:zu7 rho w:=⟨trivial,fun _ _ h=>by cases h⟩
theorem law_of {P:Program}{f:FuncId}{args:List RV}{w:World}{vs:List Value}(h:PCall P f args (fun r=>r = .c (.bool true))) (hc:Con0RL (fun b=>b<w.heap.size) w args vs):Calls P f vs.toArray w fun e w'=>e = .returned (.bool true)∧Below w.heap.size w w':=by
 refine (h.2 _ w vs glob_triv (fun _ h=>h) hc).mono ?_
 rintro e w' ⟨r,v,rho',rfl,rfl,h1,-,h2⟩
 obtain rfl:v = .bool true:=h1
 exact⟨rfl,h2⟩
end Go.Proofs.YtabadfkikdefeaaGreat.Ab

namespace Go.Proofs.YtabadfkikdefeaaGreat
open Go.RowKit Go.Lib
theorem qic7:nj7 ⟨[[⟨0,5⟩]],[]⟩ ⟨[[4]],[]⟩ 0=[112,108,97,110,32,48,10,116,114,117,99,107,115,32,49,10,49,32,48,32,53,32,52,10,98,105,107,101,115,32,48,10,101,110,100,10]:=by
 have d0:itoa 0=[48]:=by unfold itoa decDigits;rfl
 have d1:itoa 1=[49]:=by unfold itoa decDigits;rfl
 have d4:itoa 4=[52]:=by unfold itoa decDigits;rfl
 have d5:itoa 5=[53]:=by unfold itoa decDigits;rfl
 simp[nj7,ylb7,vi7,rg7,mi7,mfb7,wi7,lnS,ci7,tCells,tItem,pk7,d0,d1,d4,d5]
theorem qoc7:ye7 ⟨[[⟨0,5⟩]],[]⟩ ⟨[[4]],[]⟩ 0 where
 nt:=by decide
 nb:=by decide
 st:=by unfold za7;decide
 sb:=fun b hb=>by cases hb
 tt:=by unfold za7;decide
 tb:=fun b hb=>by cases hb
 c:=by unfold za7;decide
theorem aqb7 {P:Program}{f:FuncId}{args:List Ab.RV}{w:World}{vs:List Value}{b:ByteArray}(h:Ab.PCall P f args (fun r=>r = .c (.str b))) (hc:Ab.Con0RL (fun b=>b<w.heap.size) w args vs):Calls P f vs.toArray w fun e w'=>e = .returned (.string b)∧Below w.heap.size w w':=by
 refine (h.2 _ w vs Ab.glob_triv (fun _ h=>h) hc).mono ?_
 rintro e w' ⟨r,v,rho',rfl,rfl,h1,-,h2⟩
 obtain rfl:v = .string b:=h1
 exact⟨rfl,h2⟩
theorem uhc7 {w:World}{F:Nat→Prop}{s:ld7}{cs:List Value}(h:ye7 s.plan s.times s.cost) (hs:an7.rep w F s cs) :
  Calls Tryz.prog 14 #[.agg cs.toArray] w fun e w'=>e = .returned (.string (S (nj7 s.plan s.times s.cost)))∧Below w.heap.size w w' :=
 aqb7 (vs:=[.agg cs.toArray]) (Ab.sheet_p h) ⟨_,_,rfl,⟨_,rfl,Ab.sheet_f (an7.old hs)⟩,rfl⟩
theorem hdb7 {α:Type}{S:Shape α}{h0:0<S.sz}(w:World):(ia7 S h0).rep w (fun _=>True) [] [.slice none 0 0] :=
 ⟨none,0,0,0,rfl,Nat.le_refl _,Nat.zero_le _,fun h=>absurd h (Nat.not_lt_zero _),fun i h=>absurd h (Nat.not_lt_zero _)⟩
theorem hpb7 (w:World):Calls Tryz.prog 12 #[] w fun e w'=>e = .returned (.bool true)∧Below w.heap.size w w':=by
 obtain⟨W,hW,hold,r1,r2,r3,r4,r5,hz⟩:=vib7 w [.int .i64 0,.int .i64 5] [.slice (some ⟨w.heap.size,0,none⟩) 1 1] [.int .i64 4] [.slice (some ⟨w.heap.size+2,0,none⟩) 1 1]
  [.slice (some ⟨w.heap.size+1,0,none⟩) 1 1,.slice none 0 0,.slice (some ⟨w.heap.size+3,0,none⟩) 1 1,.slice none 0 0,.int .i64 0] 121 124 2 78 43
 have HW:=hid hW
 have HB:=hid hold
 have e1:(ia7 oe7).rep W (fun _=>True) [⟨0,5⟩] [.slice (some ⟨w.heap.size,0,none⟩) 1 1]:=iyb7 (S:=oe7) ⟨rfl,by unfold za7;decide,by unfold za7;decide⟩ r1 trivial
 have e2:mm7.rep W (fun _=>True) [[⟨0,5⟩]] [.slice (some ⟨w.heap.size+1,0,none⟩) 1 1]:=iyb7 (S:=ia7 oe7) e1 r2 trivial
 have e3:(ia7 hf7).rep W (fun _=>True) [4] [.slice (some ⟨w.heap.size+2,0,none⟩) 1 1]:=iyb7 (S:=hf7) ⟨rfl,by unfold za7;decide⟩ r3 trivial
 have e4:sh7.rep W (fun _=>True) [[4]] [.slice (some ⟨w.heap.size+3,0,none⟩) 1 1]:=iyb7 (S:=ia7 hf7) e3 r4 trivial
 have HS:=hid (show an7.rep W (fun _=>True) ⟨⟨[[⟨0,5⟩]],[]⟩,⟨[[4]],[]⟩,0⟩ [.slice (some ⟨w.heap.size+1,0,none⟩) 1 1,.slice none 0 0,.slice (some ⟨w.heap.size+3,0,none⟩) 1 1,.slice none 0 0,.int .i64 0] from
  ⟨_,_,_,_,rfl,by unfold za7;decide,⟨_,_,rfl,e2,hdb7 _⟩,⟨_,_,rfl,e4,hdb7 _⟩⟩)
 have HR:=hid r5
 clear hW hold r1 r2 r3 r4 r5 e1 e2 e3 e4
 obtain⟨q0,q1,q2,q3,q4⟩:=awb7 HR.out
 go_enter Tryz.func12,Tryz.ntmps12
 go_upto_region 2 with fail
 rw[show w.heap.size+1+1+1=w.heap.size+3 from rfl,show w.heap.size+1+1=w.heap.size+2 from rfl,← HW.out]
 rw[show w.heap.size+1+1+1+1=w.heap.size+4 from rfl]
 go_wp2_with fail
 refine (uhc7 qoc7 HS.out).mono ?_
 rintro e w5 ⟨rfl,hb5⟩
 rw[qic7]
 have HB5:=hid (ca7 HB.out hb5)
 clear hb5 q0 q1 q2 q3 q4 HS HR
 go_wp2_with fail
 refine (epb7 _).mono ?_
 rintro e w6 ⟨rfl,hb6⟩
 have HB6:=hid (ca7 HB5.out hb6)
 clear hb6 HB5
 go_wp2
 go_ret
 exact⟨rfl,HB6.out⟩
end Go.Proofs.YtabadfkikdefeaaGreat
namespace Go.Proofs.YtabadfkikdefeaaGreat.Ab
theorem afb7:PCall Tryz.prog 12 [] (fun r=>r = .c (.bool true)) :=
 bq7 ⟨_,_,Tryz.func12,by kernel_rfl,rfl⟩ fun rho w vs hcv=>by
  obtain rfl:=hcv
  refine (hpb7 w).mono ?_
  rintro e w' ⟨rfl,hb⟩
  exact⟨_,_,rfl,rfl,rfl,hb⟩
open Go.RowKit
def frI:Option Nat→Int
 | none=>-1
 | some a=>a
theorem lrb7 (l:List UInt8) (k:Nat):kac7 (S l) (k:Int)=((l.getD k 0).toNat:Int):=rfl
def wH (id:Nat):List (List UInt8×Nat)→AV
 | []=>.nils
 | l=>.h id 0 l.length
def wR:List (List UInt8×Nat)→Root
 | []=>.dead
 | l=>.live false 230 2 (.gen (l.map fun r=>[.str (S r.1),I6 r.2]))
abbrev fj7 (l:List (List UInt8×Nat)):AV:=.sl l.length 2 (fun i=>ix2 (.str (S (l.getD i ([],0)).1)) (I6 (l.getD i ([],0)).2))
theorem gic7 (s:List UInt8) (a b:Nat):(S s).extract a b=S (lgb7 s a b):=by
 apply ByteArray.ext
 rw[ByteArray.data_extract]
 show s.toArray.extract a b=(lgb7 s a b).toArray
 rw[List.extract_toArray,List.extract_eq_take_drop];rfl
theorem pdb7 (l:List (List UInt8×Nat)):Eqv (.sl l.length 2 fun i j=>nth ((l.map fun r=>[AV.str (S r.1),I6 r.2]).getD i []) j) (fj7 l):=by
 refine⟨_,rfl,fun i hi j hj=>?_⟩
 have e:(l.map fun r=>[AV.str (S r.1),I6 r.2]).getD i []=[AV.str (S (l.getD i ([],0)).1),I6 (l.getD i ([],0)).2]:=by
  simp only[List.getD_eq_getElem?_getD,List.getElem?_map,List.getElem?_eq_getElem hi];rfl
 show Eqv (nth ((l.map fun r=>[AV.str (S r.1),I6 r.2]).getD i []) j) _
 rw[e]
 match j,hj with
 | 0,_=>rfl
 | 1,_=>rfl
def ti7 (s:List UInt8):RV :=
 if 131072<s.length then .tup [.c .nils,.c (I6 0),.c (I6 4)]
 else if np7 s<s.length then .tup [.c .nils,.c (I6 (np7 s)),.c (I6 3)]
 else .tup [.c (fj7 (jb7 s)),.c (I6 0),.c (I6 0)]
theorem ehb7 (s:List UInt8) (hl:s.length≤1000000000000):PCall Tryz.prog 127 [.c (.str (S s))] (fun r=>r=ti7 s):=by
 refine he7 vc7 (by kernel_rfl) (fun _=>([],0,none)) Tryz.func127 rfl (by kernel_rfl) Tryz.ntmps127 (congrArg Array.toList Tryz.results127) (by kernel_rfl) (by simp) ?_
 have hsz:(S s).size=s.length:=rfl
 simp -implicitDefEqProofs only [go_sem,hsz]
 refine⟨fun h=>?_,fun h=>?_⟩
 ·have h0:ti7 s = .tup [.c .nils,.c (I6 0),.c (I6 4)]:=by unfold ti7;rw[if_pos (by omega)]
  rw[h0]
  exact⟨_,⟨_,rfl,⟨_,_,rfl,.inl rfl,_,_,rfl,.inl rfl,_,_,rfl,.inl rfl,rfl⟩⟩,rfl⟩
 ·refine se7 (ι:=Nat) 1 [0] [5,6,7,8] (fun k=>k≤s.length+1∧cjb7 s k) (fun k=>[.c (wH 0 (scan s k).out),.c (I6 (frI (scan s k).fr)),.c (.bool (scan s k).note),.c (I6 k)]) (fun k=>[wR (scan s k).out]) (fun k=>s.length+1-k) (by kernel_rfl) ⟨0,⟨Nat.zero_le _,sdb7 s⟩,rfl,rfl⟩ (fun k _=>rfl) ?_
  rintro k ⟨hk,hok⟩
  have hst:=vhc7 s k
  have hfr:=djb7 s k
  have hln:=tt7 s k
  have hbv:k<s.length→kac7 (S s) (k:Int)=((s.getD k 10).toNat:Int):=fun h=>by
   rw[lrb7,List.getD_eq_getElem?_getD,List.getD_eq_getElem?_getD,List.getElem?_eq_getElem h];rfl
  have hve:k=s.length→((s.getD k 10).toNat:Int)=10:=fun h=>by
   rw[List.getD_eq_getElem?_getD,List.getElem?_eq_none (by omega)];rfl
  have hb0:=qlb7 (s.getD k 10)
  have hok1:jxb7 ((s.getD k 10).toNat:Int)=false→cjb7 s (k+1):=fun h=>dfb7 hok (by rw[hb0];exact h)
  have hbad:jxb7 ((s.getD k 10).toNat:Int)=true→k<s.length→ti7 s = .tup [.c .nils,.c (I6 k),.c (I6 3)]:=fun hb hkl=>by
   have e:=ajb7 hok hkl (by rw[hb0];exact hb)
   unfold ti7
   rw[if_neg (by omega),if_pos (by omega),e]
  have hfin:k=s.length+1→ti7 s = .tup [.c (fj7 (scan s k).out),.c (I6 0),.c (I6 0)]:=fun e=>by
   subst e
   have e:=iu7 (fun i hi=>hok i (by omega))
   unfold ti7
   rw[if_neg (by omega),if_neg (by omega)];rfl
  generalize scan s k=σ at hst hfr hln hfin
  generalize ((s.getD k 10).toNat:Int)=v at hst hbv hve hb0 hok1 hbad
  obtain⟨out,fr,note⟩:=σ
  have hA:∀a,(S s).extract a k=S (lgb7 s a k):=fun a=>gic7 s a k
  have h1:note=true→scan s (k+1)=⟨out,fr,decide (¬v=10)⟩:=fun e=>by rw[hst];unfold ocb7;rw[if_pos e]
  have h2:note=false→fr=none→(decide (v=32) || decide (v=10) || decide (v=35))=true→scan s (k+1)=⟨out,none,decide (v=35)⟩:=fun e e2 h=>by
   subst e;subst e2;rw[hst];unfold ocb7;rw[if_neg (by simp),if_pos (by unfold bpb7;exact h)]
  have h3:∀a,note=false→fr=some a→(decide (v=32) || decide (v=10) || decide (v=35))=true→scan s (k+1)=⟨out++[(lgb7 s a k,a)],none,decide (v=35)⟩:=fun a e e2 h=>by
   subst e;subst e2;rw[hst];unfold ocb7;rw[if_neg (by simp),if_pos (by unfold bpb7;exact h)]
  have h4:note=false→fr=none→(decide (v=32) || decide (v=10) || decide (v=35))=false→scan s (k+1)=⟨out,some k,false⟩:=fun e e2 h=>by
   subst e;subst e2;rw[hst];unfold ocb7;rw[if_neg (by simp),if_neg (by unfold bpb7;rw[h];simp)]
  have h5:∀a,note=false→fr=some a→(decide (v=32) || decide (v=10) || decide (v=35))=false→scan s (k+1)=⟨out,some a,false⟩:=fun a e e2 h=>by
   subst e;subst e2;rw[hst];unfold ocb7;rw[if_neg (by simp),if_neg (by unfold bpb7;rw[h];simp)]
  have hbad1:k<s.length→¬v=10→(decide (v<32) || decide (126<v))=true→ti7 s = .tup [.c .nils,.c (I6 k),.c (I6 3)]:=fun h a b=>hbad (by unfold jxb7;rw[b];simp[a]) h
  have hok2:(decide ¬v=10&&(decide (v<32) || decide (126<v)))=false→cjb7 s (k+1):=hok1
  clear hst hok1 hbad hb0 hok
  have hcs:k<s.length∨k=s.length∨k=s.length+1:=by omega
  rcases note with _ | _ <;> rcases fr with _ | a <;> rcases out with _ | ⟨o,out⟩
  all_goals first
   | (exfalso;have:=(hfr _ rfl).2;cases this;done)
   | skip
  all_goals
   simp -implicitDefEqProofs only [go_sem,hsz,wH,wR,frI]
   rcases hcs with hlt | he | hf
  all_goals first
   | (have hb:=hbv hlt;rw[hb];refine⟨fun _=>⟨fun _=>⟨⟨by omega,by omega⟩,fun h6 h7=>?_,fun hnb=>?_⟩,fun h=>absurd hlt (by omega)⟩,fun h=>by omega⟩)
   | (have hv:=hve he;subst hv;refine⟨fun _=>⟨fun h=>absurd h (by omega),fun _=>⟨fun h=>absurd trivial h,fun hnb=>?_⟩⟩,fun h=>by omega⟩)
   | (refine⟨fun h=>by omega,fun _=>?_⟩)
  all_goals first
   | (rw[hbad1 hlt h6 h7];exact⟨_,⟨_,rfl,⟨_,_,rfl,.inl rfl,_,_,rfl,.inl rfl,_,_,rfl,.inl rfl,rfl⟩⟩,rfl⟩)
   | (have hnn:=h1 rfl;refine⟨⟨by omega,by omega⟩,k+1,[0],⟨by omega,hok2 hnb⟩,⟨rfl,rfl⟩,by rw[hnn];rfl,by rw[hnn];rfl,by omega⟩)
   | (rw[hfin hf];exact⟨_,⟨_,rfl,⟨_,_,rfl,.inr ⟨_,rfl,.inr (.inr ⟨_,_,rfl⟩)⟩,_,_,rfl,.inl rfl,_,_,rfl,.inl rfl,rfl⟩⟩,rfl⟩)
   | (rw[hfin hf];refine⟨by simp,_,⟨_,rfl,⟨_,_,rfl,.inr ⟨_,rfl,.inr (pdb7 (o::out))⟩,_,_,rfl,.inl rfl,_,_,rfl,.inl rfl,rfl⟩⟩,rfl⟩)
   | skip
  all_goals
   (try rw[hA])
   refine⟨fun hd=>⟨fun h0=>?_,fun h0=>?_⟩,fun hd=>⟨fun h0=>?_,fun h0=>?_⟩⟩
  all_goals first
   | (exfalso;omega)
   | (exfalso;exact absurd hd (by decide))
   | skip
  all_goals first
   | (have hnn:=h2 rfl rfl (by first | exact hd | decide);refine⟨⟨by omega,by omega⟩,k+1,[0],⟨by omega,hok2 hnb⟩,⟨rfl,rfl⟩,by rw[hnn];rfl,by rw[hnn];rfl,by omega⟩)
   | (have hnn:=h4 rfl rfl hd;refine⟨⟨by omega,by omega⟩,k+1,[0],⟨by omega,hok2 hnb⟩,⟨rfl,rfl⟩,by rw[hnn];rfl,by rw[hnn];rfl,by omega⟩)
   | (have hnn:=h5 a rfl rfl hd;refine⟨⟨by omega,by omega⟩,k+1,[0],⟨by omega,hok2 hnb⟩,⟨rfl,rfl⟩,by rw[hnn];rfl,by rw[hnn];rfl,by omega⟩)
   | (have hak:=(hfr a rfl).1;have hnn:=h3 a rfl rfl (by first | exact hd | decide);refine⟨⟨by omega,by omega,by omega⟩,⟨by omega,by omega⟩,k+1,[2],⟨by omega,hok2 hnb⟩,⟨rfl,rfl⟩,by rw[hnn];rfl,by rw[hnn];rfl,by omega⟩)
   | (have hak:=(hfr a rfl).1;have hln2:out.length+1≤k:=hln;have hnn:=h3 a rfl rfl (by first | exact hd | decide);refine⟨⟨by omega,by omega,by omega⟩,⟨by simp,by omega⟩,⟨by omega,by omega⟩,k+1,[0],⟨by omega,hok2 hnb⟩,⟨rfl,rfl⟩,by rw[hnn];simp[mkH,pos],by rw[hnn];simp[rt7,da7,vg7,cx7],by omega⟩)
open Go.RowKit Go.Lib
def fz7 (o:Option Nat):RV:=match o with
 | some n=>.tup [.c (I6 n),.c (.bool true)]
 | none=>.tup [.c (I6 0),.c (.bool false)]
theorem lyb7 (s:List UInt8) (hl:s.length≤1000000000000):PCall Tryz.prog 133 [.c (.str (S s))] (fun r=>r=fz7 (fe7 s)):=by
 refine he7 vc7 (by kernel_rfl) (fun _=>([],0,none)) Tryz.func133 rfl (by kernel_rfl) Tryz.ntmps133 (congrArg Array.toList Tryz.results133) (by kernel_rfl) (by simp) ?_
 have hsz:(S s).size=s.length:=rfl
 simp -implicitDefEqProofs only [go_sem,hsz]
 refine⟨fun h1=>?_,fun h1=>?_⟩
 ·have e:fe7 s=none:=by unfold fe7;rw[if_neg (fun h=>by omega)]
  rw[e]
  exact⟨_,⟨_,rfl,⟨_,_,rfl,.inl rfl,_,_,rfl,.inl rfl,rfl⟩⟩,rfl⟩
 ·have hl16:s.length≤16:=by omega
  refine wg7 (ι:=Nat) [0] [4,5] (fun k=>k≤s.length∧hib7 s k) (fun k=>[.c (I6 (em7 (s.take k))),.c (I6 k)]) (fun _=>_) (fun k=>s.length-k) (by kernel_rfl) ⟨0,⟨Nat.zero_le _,fun _ h=>absurd h (Nat.not_lt_zero _)⟩,rfl,rfl⟩ (fun k _=>⟨rfl,rfl,rfl,rfl⟩) ?_
  rintro k ⟨hk,hd⟩
  have hv:=elb7 k hk hd
  have hv2:10 ^ k≤10 ^ 16:=Nat.pow_le_pow_right (by omega) (by omega)
  have h16:10 ^ 16=10000000000000000:=by decide
  have hvn:=fun h:k<s.length=>ku7 h
  have hval:k=s.length→em7 s=em7 (s.take k):=fun e=>by rw[e,List.take_length]
  generalize em7 (s.take k)=n at hv hvn hval
  simp -implicitDefEqProofs only [go_sem,hsz]
  refine⟨fun h2=>?_,fun h2=>?_⟩
  ·have hlt:k<s.length:=by omega
   have hb:kac7 (S s) (k:Int)=((s.getD k 0).toNat:Int):=lrb7 s k
   have hno:¬hh7 (s.getD k 0)→fe7 s=none:=fun h=>by
    unfold fe7
    refine if_neg fun h3=>h (h3.2.1 _ ?_)
    rw[List.getD_eq_getElem?_getD,List.getElem?_eq_getElem hlt]
    exact List.getElem_mem hlt
   have hyes:=fun h:hh7 (s.getD k 0)=>zr7 hd h
   have hvk:=hvn hlt
   have hcl:=(s.getD k 0).toNat_lt
   rw[hb]
   unfold hh7 at hno hyes
   unfold bwb7 at hvk
   generalize (s.getD k 0).toNat=c at hno hyes hvk hcl
   refine⟨⟨by omega,h2⟩,fun _=>⟨by omega,h2⟩,fun h3=>?_,fun h3=>?_⟩
   ·simp only[Bool.or_eq_true,decide_eq_true_eq]at h3
    rw[hno (by omega)]
    exact⟨_,⟨_,rfl,⟨_,_,rfl,.inl rfl,_,_,rfl,.inl rfl,rfl⟩⟩,rfl⟩
   ·simp only[Bool.or_eq_false_iff,decide_eq_false_iff_not]at h3
    refine⟨⟨by omega,by omega⟩,⟨by omega,h2⟩,⟨by omega,by omega⟩,⟨by omega,by omega⟩,⟨by omega,by omega⟩,⟨by omega,by omega⟩,k+1,⟨by omega,hyes (by omega)⟩, ?_,by omega⟩
    rw[hvk,show ((n*10+(c-48):Nat):Int)=(n:Int)*10+((c:Int)-48) by omega];rfl
  ·obtain rfl:k=s.length:=by omega
   clear hvn
   have hall:=mv7 hd
   have hpd:fe7 s=if decDigits n=s∧n≤1000000000000000 then some n else none:=by
    unfold fe7
    rw[hval rfl]
    by_cases h:decDigits n=s∧n≤1000000000000000
    ·rw[if_pos ⟨hl16,hall,h⟩,if_pos h]
    ·rw[if_neg (fun h3=>h h3.2.2),if_neg h]
   have hit:itoa (n:Int)=decDigits n:=by unfold itoa;rw[if_neg (by omega)];rfl
   rw[hpd]
   have hwn:za7 (n:Int):=by unfold za7;omega
   refine⟨fun h3=>?_,fun h3=>?_⟩
   ·refine be7 (hcc7 hwn) (by simp -implicitDefEqProofs only [go_sem]) rfl (fun r h=>by subst h;rfl) ?_
    rintro r rfl
    simp -implicitDefEqProofs only [go_sem,hit]
    have hq:eqS (S (decDigits n)) (S s)=decide (decDigits n=s):=rfl
    rw[hq,decide_eq_false h3,Bool.false_or]
    refine⟨fun h4=>?_,fun h4=>?_⟩
    ·have h5:¬decDigits n=s:=by simpa using h4
     rw[if_neg (fun h=>h5 h.1)]
     exact⟨_,⟨_,rfl,⟨_,_,rfl,.inl rfl,_,_,rfl,.inl rfl,rfl⟩⟩,rfl⟩
    ·have h5:decDigits n=s:=by simpa using h4
     rw[if_pos ⟨h5,by omega⟩]
     exact⟨_,⟨_,rfl,⟨_,_,rfl,.inl rfl,_,_,rfl,.inl rfl,rfl⟩⟩,rfl⟩
   ·have h4:(1000000000000000:Int)<(n:Int):=by simpa using h3
    rw[if_neg (fun h=>by omega)]
    exact⟨fun h=>h h4,h4,_,⟨_,rfl,⟨_,_,rfl,.inl rfl,_,_,rfl,.inl rfl,rfl⟩⟩,rfl⟩
end Go.Proofs.YtabadfkikdefeaaGreat.Ab
namespace Go.Proofs.YtabadfkikdefeaaGreat.Ab
open Go.RowKit
theorem cxb7 (s:List UInt8) (ha:∀c∈s,c.toNat<128):PCall Tryz.prog 132 [.c (.str (S s))] (fun r=>r=fz7 (fe7 s)) :=
 bq7 ⟨_,_,Tryz.func132,by kernel_rfl,rfl⟩ fun rho w vs hcv=>by
  obtain⟨_,_,rfl,rfl,rfl⟩:=hcv
  refine (svb7 ha w).mono ?_
  rintro e w' ⟨rfl,hb⟩
  refine⟨_,_,rfl,rfl, ?_,hb⟩
  cases fe7 s with
  | none=>exact⟨[.int .i64 0,.bool false],rfl,_,_,rfl,rfl,_,_,rfl,rfl,rfl⟩
  | some n=>exact⟨[.int .i64 n,.bool true],rfl,_,_,rfl,rfl,_,_,rfl,rfl,rfl⟩
def wR5:List (List UInt8×Nat)→Root
 | []=>.dead
 | l=>.live false 160 2 (.gen (l.map fun r=>[.str (S r.1),I6 r.2]))
theorem dzb7 (l:List (List UInt8×Nat)):by7 0 [0] (wH 0 l)=wH 0 l:=by cases l <;> rfl
theorem zyb7 (l:List (List UInt8×Nat)):igb7 1 [wR5 l]=true:=by cases l <;> rfl
theorem fic7 (l:List (List UInt8×Nat)):(wH 0 l).scp 1=true:=by cases l <;> rfl
theorem fkb7 (l:List (List UInt8×Nat)):rt7 0 [0] [wR5 l] [0]=[wR5 l]:=by cases l <;> rfl
def ow7 (s:List UInt8):RV :=
 if np7 s<s.length then .tup [.c .nils,.c (I6 (np7 s))] else .tup [.c (fj7 (jb7 s)),.c (I6 (-1))]
theorem nub7 {s:List UInt8}{j:Nat}(h:s.length≤j):s.getD j 10=10:=by rw[List.getD_eq_getElem?_getD,List.getElem?_eq_none h];rfl
theorem bac7 (s:List UInt8) (hl:s.length≤1000000000000):PCall Tryz.prog 67 [.c (.str (S s))] (fun r=>r=ow7 s):=by
 refine he7 vc7 (by kernel_rfl) (fun _=>([],0,none)) Tryz.func67 rfl (by kernel_rfl) Tryz.ntmps67 (congrArg Array.toList Tryz.results67) (by kernel_rfl) (by simp) ?_
 have hsz:(S s).size=s.length:=rfl
 have hbv:∀k,k<s.length→kac7 (S s) (k:Int)=((s.getD k 10).toNat:Int):=fun k h=>by
  rw[lrb7,List.getD_eq_getElem?_getD,List.getD_eq_getElem?_getD,List.getElem?_eq_getElem h];rfl
 simp -implicitDefEqProofs only [go_sem,hsz]
 refine wg7 (ι:=Nat) [0,4] [5] (fun k=>k≤s.length∧cjb7 s k) (fun k=>[.c (I6 k)]) (fun _=>_) (fun k=>s.length-k) (by kernel_rfl) ⟨0,⟨Nat.zero_le _,sdb7 s⟩,rfl,rfl⟩ (fun k _=>⟨rfl,rfl,rfl,rfl⟩) ?_
 rintro k ⟨hk,hok⟩
 simp -implicitDefEqProofs only [go_sem,hsz]
 have hb0:=qlb7 (s.getD k 10)
 refine⟨fun h1=>?_,fun h1=>?_⟩
 ·have hlt:k<s.length:=by omega
  have hbad:jxb7 ((s.getD k 10).toNat:Int)=true→ow7 s = .tup [.c .nils,.c (I6 k)]:=fun hb=>by
   have e:=ajb7 hok hlt (by rw[hb0];exact hb)
   unfold ow7
   rw[if_pos (by omega),e]
  rw[hbv k hlt]
  refine⟨⟨by omega,h1⟩,fun _=>⟨by omega,h1⟩,fun _ _=>⟨by omega,h1⟩,fun h6 h7=>?_,fun hnb=>⟨⟨by omega,by omega⟩,k+1,⟨by omega,dfb7 hok (by rw[hb0];exact hnb)⟩,rfl,by omega⟩⟩
  rw[hbad (by unfold jxb7;rw[h7,decide_eq_true h6];rfl)]
  exact⟨_,⟨_,rfl,⟨_,_,rfl,.inl rfl,_,_,rfl,.inl rfl,rfl⟩⟩,rfl⟩
 ·obtain rfl:k=s.length:=by omega
  have hfin:ow7 s = .tup [.c (fj7 (jb7 s)),.c (I6 (-1))]:=by
   have e:=iu7 hok
   unfold ow7
   rw[if_neg (by omega)]
  clear hok hb0 hk h1
  have key:∀j,j<s.length→∀d:UInt8,((s.getD j 10).toNat:Int)=(d.toNat:Int)→s.getD j 10=d:=fun j _ d h=>by rw[zrb7];exact h
  refine se7 (ι:=Nat) 1 [0] [4,6] (fun k=>k≤s.length∧dy7 s k) (fun k=>[.c (wH 0 (qd7 s k)),.c (I6 k)]) (fun k=>[wR5 (qd7 s k)]) (fun k=>s.length-k) (by kernel_rfl) ⟨0,⟨Nat.zero_le _,ypb7 s⟩,rfl,rfl⟩ (fun k _=>rfl) ?_
  rintro k ⟨hk,hg⟩
  simp -implicitDefEqProofs only [go_sem,hsz]
  refine⟨fun h1=>?_,fun h1=>?_⟩
  ·have hlt:k<s.length:=by omega
   rw[hbv k hlt]
   refine⟨⟨by omega,h1⟩,fun h2=>?_,fun h2=>⟨⟨by omega,h1⟩,fun _=>⟨by omega,h1⟩,fun h3=>?_,fun h3=>?_⟩⟩
   ·have hc:=key k hlt 35 h2
    refine wg7 (ι:=Nat) [0,4] [6] (fun j=>k≤j∧j≤s.length∧(k<j→scan s j=⟨qd7 s k,none,true⟩)) (fun j=>[.c (I6 j)]) (fun _=>_) (fun j=>s.length-j) (by kernel_rfl) ⟨k,⟨Nat.le_refl _,hk,fun h=>absurd h (Nat.lt_irrefl _)⟩,rfl,rfl⟩ (fun k _=>by refine⟨?_, ?_, ?_, ?_⟩ <;> first | rfl | exact zyb7 _ | exact fic7 _) ?_
    rintro j ⟨hkj,hj,hsj⟩
    simp -implicitDefEqProofs only [go_sem,hsz]
    refine⟨fun h=>⟨by omega,h⟩,fun h h6=>⟨⟨by omega,by omega⟩,j+1,⟨by omega,by omega,fun _=>?_⟩,rfl,by omega⟩,fun h=>?_⟩
    ·rw[hbv j (by omega)]at h6
     by_cases e:k=j
     ·subst e;exact wob7 hg hc
     ·exact hub7 (hsj (by omega)) (fun e=>h6 (by rw[e];rfl))
    ·simp only[Bool.and_eq_false_iff,decide_eq_false_iff_not,Decidable.not_not]at h
     have hcc:s.getD j 10=10:=by
      by_cases hjl:j<s.length
      ·rw[hbv j hjl]at h
       exact key j hjl 10 (h.elim (fun h=>absurd (by omega) h) id)
      ·exact nub7 (by omega)
     have hkj2:k<j:=by
      by_cases e:k=j
      ·subst e;rw[hc]at hcc;exact absurd hcc (by decide)
      ·omega
     obtain⟨g1,g2⟩:=rwb7 (hsj hkj2) hcc
     exact⟨j,[0],⟨hj,g1⟩,⟨rfl,rfl⟩,by rw[g2,dzb7],by rw[g2,fkb7],by omega⟩
   ·obtain⟨g1,g2⟩:=pr7 hg (by
     simp only[Bool.or_eq_true,decide_eq_true_eq]at h3
     exact h3.elim (fun h=>.inl (key k hlt 32 h)) (fun h=>.inr (key k hlt 10 h)))
    refine⟨⟨by omega,by omega⟩,k+1,[0],⟨by omega,g1⟩,⟨rfl,rfl⟩,by rw[g2,dzb7];rfl,by rw[g2,fkb7],by omega⟩
   ·have hd:jgb7 (s.getD k 10)=false:=by
     rw[yeb7]
     unfold bpb7
     rw[h3,decide_eq_false h2];rfl
    have hw:=ueb7 hg hd
    refine wg7 (ι:=Nat) [0,4,7] [6] (fun j=>k≤j∧j≤s.length∧(k<j→scan s j=⟨qd7 s k,some k,false⟩)) (fun j=>[.c (I6 j)]) (fun _=>_) (fun j=>s.length-j) (by kernel_rfl) ⟨k,⟨Nat.le_refl _,hk,fun h=>absurd h (Nat.lt_irrefl _)⟩,rfl,rfl⟩ (fun k _=>by refine⟨?_, ?_, ?_, ?_⟩ <;> first | rfl | exact zyb7 _ | exact fic7 _) ?_
    rintro j ⟨hkj,hj,hsj⟩
    simp -implicitDefEqProofs only [go_sem,hsz]
    refine⟨fun h=>⟨by omega,h⟩,fun h _=>⟨by omega,h⟩,fun h _ _=>⟨by omega,h⟩,fun h a1 a2 a3=>⟨⟨by omega,by omega⟩,j+1,⟨by omega,by omega,fun _=>?_⟩,rfl,by omega⟩,fun h=>?_⟩
    ·rw[hbv j (by omega)]at a1 a2 a3
     by_cases e:k=j
     ·subst e;exact hw
     ·exact pcb7 (hsj (by omega)) (by rw[yeb7];unfold bpb7;rw[decide_eq_false a1,decide_eq_false a2,decide_eq_false a3];rfl)
    ·simp only[Bool.and_eq_false_iff,decide_eq_false_iff_not,Decidable.not_not]at h
     have hcc:jgb7 (s.getD j 10)=true:=by
      by_cases hjl:j<s.length
      ·rw[hbv j hjl]at h
       rw[yeb7]
       unfold bpb7
       simp only[Bool.or_eq_true,decide_eq_true_eq]
       rcases h with ((h | h) | h) | h
       ·exact absurd (by omega) h
       ·exact .inl (.inl h)
       ·exact .inl (.inr h)
       ·exact .inr h
      ·rw[nub7 (by omega)];rfl
     have hkj2:k<j:=by
      by_cases e:k=j
      ·subst e;rw[hd]at hcc;cases hcc
      ·omega
     obtain⟨g1,g2⟩:=wlb7 (hsj hkj2) hcc
     have hll:=oob7 s k
     rw[gic7]
     refine⟨⟨by omega,by omega,by omega⟩, ?_⟩
     clear hsj hw
     generalize qd7 s k=l at g2 hll
     rcases l with _ | ⟨o,l⟩
     ·exact⟨j,[2],⟨hj,g1⟩,⟨rfl,rfl⟩,by rw[g2];rfl,by rw[g2];rfl,by omega⟩
     ·rw[List.length_cons]at hll
      simp -implicitDefEqProofs only [go_sem,wH,wR5]
      refine⟨⟨by simp,by omega⟩,j,[0],⟨hj,g1⟩,⟨rfl,rfl⟩,by rw[g2];simp[mkH,pos],by rw[g2];simp[rt7,da7,vg7,cx7],by omega⟩
  ·obtain rfl:k=s.length:=by omega
   rw[hfin,← clb7 hg]
   generalize qd7 s s.length=l
   rcases l with _ | ⟨o,l⟩
   ·exact⟨trivial,_,⟨_,rfl,⟨_,_,rfl,.inr ⟨_,rfl,.inr (.inr ⟨_,_,rfl⟩)⟩,_,_,rfl,.inl rfl,rfl⟩⟩,rfl⟩
   ·simp -implicitDefEqProofs only [go_sem,wH,wR5]
    exact⟨by simp,_,⟨_,rfl,⟨_,_,rfl,.inr ⟨_,rfl,.inr (pdb7 (o::l))⟩,_,_,rfl,.inl rfl,rfl⟩⟩,rfl⟩
def cc7 (ws:List (List UInt8×Nat)) (i len:Nat) (code:Int):Root:=.live false 157 4 (.box [fj7 ws,I6 i,I6 len,I6 code])
theorem yjb7 {A:Root}{R:List Root}{ws:List (List UInt8×Nat)}{i len:Nat}{code most:Int}{K:RV→List Root→Prop}(hi:i≤1000000000000) (hw:∀w∈ws,w.1.length≤1000000000000)
  (hK:K (.c (I6 (vz7 ws i code most).1)) (A::cc7 ws (vz7 ws i code most).2.1 len (vz7 ws i code most).2.2::R)) :
  ne7 Tryz.prog none 69 [.c (.ptr 1 1 0 0),.c (I6 most)] (A::cc7 ws i len code::R) K:=by
 refine te7 vc7 (by kernel_rfl) (fun n=>match n with | 3=>([0,4,1,2,3,5,6,7,8,9],0,none) | 6=>([0,4,1,2,3,5,6,7,8,9,10,11,12,13,14,15,16],0,none) | _=>([],0,none)) Tryz.func69 rfl (by kernel_rfl) Tryz.ntmps69 (congrArg Array.toList Tryz.results69) (by kernel_rfl) (by simp) ?_
 simp -implicitDefEqProofs only [go_sem,cc7]
 have hwl:(wdN ws i).length≤1000000000000:=by
  unfold wdN
  rw[List.getD_eq_getElem?_getD]
  by_cases h:i<ws.length
  ·rw[List.getElem?_eq_getElem h];exact hw _ (List.getElem_mem h)
  ·rw[List.getElem?_eq_none (by omega)];simp
 have hp:=lyb7 (wdN ws i) hwl
 refine⟨fun hc=>?_,fun hc=>⟨fun h1=>?_,fun h1=>⟨⟨by omega,by omega⟩, ?_⟩⟩⟩
 ·rw[show vz7 ws i code most=(0,i,code) from if_pos hc]at hK
  exact hK
 ·rw[show vz7 ws i code most=(0,i,3) by unfold vz7;rw[if_neg (by simpa using hc),if_pos (by omega)]]at hK
  exact hK
 ·have hn:vz7 ws i code most=match fe7 (wdN ws i) with
    | none=>(0,i,3)
    | some x=>if most<(x:Int) then (0,i,2) else (x,i+1,0):=by unfold vz7;rw[if_neg (by simpa using hc),if_neg (by omega)];cases fe7 (wdN ws i) <;> rfl
  rw[hn]at hK
  subst hc
  clear hn
  generalize fe7 (wdN ws i)=o at hp hK
  rcases o with _ | x
  ·refine be7 hp (by simp -implicitDefEqProofs only [go_sem]) rfl (fun r h=>by subst h;rfl) ?_
   rintro r rfl
   simp -implicitDefEqProofs only [go_sem,fz7]
   exact⟨hK,fun h=>by cases h⟩
  ·refine be7 hp (by simp -implicitDefEqProofs only [go_sem]) rfl (fun r h=>by subst h;rfl) ?_
   rintro r rfl
   simp -implicitDefEqProofs only [go_sem,fz7]
   refine fun _=>⟨fun h2=>?_,fun h2=>⟨⟨by omega,by omega⟩, ?_⟩⟩
   ·simp only[if_pos h2]at hK
    exact hK
   ·simp only[if_neg h2]at hK
    exact hK
theorem agc7 {A:Root}{R:List Root}{ws:List (List UInt8×Nat)}{i len:Nat}{code:Int}{w:List UInt8}{K:RV→List Root→Prop}(hi:i≤1000000000000)
  (hK:∀r,K r (A::cc7 ws (ks7 ws i code w).1 len (ks7 ws i code w).2::R)) :
  ne7 Tryz.prog none 68 [.c (.ptr 1 1 0 0),.c (.str (S w))] (A::cc7 ws i len code::R) K:=by
 refine te7 vc7 (by kernel_rfl) (fun n=>match n with | 1=>([0,4,1,2,3,5,6,7,8,9,10,11,15,22,12,13,14,16,17,18,19,20,21,23,24],0,none) | _=>([],0,none)) Tryz.func68 rfl (by kernel_rfl) Tryz.ntmps68 (congrArg Array.toList Tryz.results68) (by kernel_rfl) (by simp) ?_
 simp -implicitDefEqProofs only [go_sem,cc7]
 refine⟨fun hc=>?_,fun hc=>⟨fun h=>⟨by omega,by omega⟩,fun h=>?_,fun h=>?_⟩⟩
 ·rw[show ks7 ws i code w=(i,code) from if_pos hc]at hK
  exact hK _
 ·simp only[Bool.or_eq_true,decide_eq_true_eq,Bool.not_eq_true']at h
  have hm:ks7 ws i code w=(i,5):=by
   unfold ks7
   rw[if_neg (by simpa using hc),if_pos]
   exact h.elim (fun h=>.inl (by omega)) (fun h=>.inr (of_decide_eq_false h))
  rw[hm]at hK
  exact hK _
 ·simp only[Bool.or_eq_false_iff,decide_eq_false_iff_not,Bool.not_eq_false']at h
  obtain⟨h1,h2⟩:=h
  have h3:wdN ws i=w:=of_decide_eq_true h2
  have hm:ks7 ws i code w=(i+1,0):=by
   unfold ks7
   rw[if_neg (by simpa using hc),if_neg (fun h=>h.elim (fun h=>by omega) (fun h=>h h3))]
  rw[hm]at hK
  subst hc
  exact⟨⟨by omega,by omega⟩,hK _⟩
instance (k:IntKind) (n:Int):Decidable (inK k n):=match k with
 | .i8=>inferInstanceAs (Decidable (_∧_))
 | .i16=>inferInstanceAs (Decidable (_∧_))
 | .i32=>inferInstanceAs (Decidable (_∧_))
 | .i64=>inferInstanceAs (Decidable (_∧_))
 | .u8=>inferInstanceAs (Decidable (_∧_))
 | .u16=>inferInstanceAs (Decidable (_∧_))
 | .u32=>inferInstanceAs (Decidable (_∧_))
 | .u64=>inferInstanceAs (Decidable (_∧_))
instance decNo:Decidable no.1:=isFalse id
instance (op:BinOp) (a b:Int):Decidable (fgc7 op a b).1:=by
 unfold fgc7;split <;> first | exact isTrue trivial | exact decNo
instance (op:BinOp) (k:IntKind) (a b:Int):Decidable (ib7 op k a b).1:=by
 unfold ib7;split <;> infer_instance
instance (op:BinOp) (a b:ByteArray):Decidable (wac7 op a b).1:=by
 unfold wac7;split <;> first | exact isTrue trivial | exact decNo | exact inferInstanceAs (Decidable (_≤_))
instance (s:ByteArray) (a b:Int):Decidable (nec7 s a b).1:=inferInstanceAs (Decidable (_∧_))
instance (op:BinOp) (t:TyK) (x y:RV):Decidable (jvb7 op t x y).1:=by
 unfold jvb7
 split
 ·infer_instance
 ·split
  ·split <;> first | exact isTrue trivial | exact decNo
  ·exact decNo
 ·infer_instance
 ·exact decNo
instance (op:UnOp) (x:RV):Decidable (unV op x).1:=by
 unfold unV
 split
 ·split <;> first | exact isTrue trivial | exact decNo
 ·split <;> first | infer_instance | exact decNo
 ·exact decNo
instance (a b c:RV):Decidable (shb7 a b c).1:=by
 unfold shb7;split <;> first | exact isTrue trivial | exact decNo | infer_instance
instance (H:List Root) (id st len:Nat):Decidable (vld H id st len):=by
 unfold vld;split <;> infer_instance
instance (H:List Root) (id n:Nat):Decidable (mec7 H id n):=by
 unfold mec7;split <;> infer_instance
instance (H:List Root) (id st len:Nat):Decidable (gmb7 H id st len):=by
 unfold gmb7;split <;> infer_instance
instance (k:TyK) (H:List Root) (x:RV):Decidable (yac7 k H x).1:=by
 unfold yac7;repeat' split
 all_goals first | exact decNo | exact isTrue trivial | infer_instance
instance (k:TyK) (H:List Root) (x:RV) (f:Nat):Decidable (bv7 k H x f).1:=by
 unfold bv7;repeat' split
 all_goals first | exact decNo | exact isTrue trivial | infer_instance
instance (ty:Ty) (k:TyK) (H:List Root) (x y:RV):Decidable (fx7 ty k H x y).1:=by
 unfold fx7;repeat' split
 all_goals first | exact decNo | exact isTrue trivial | infer_instance
instance (c:Option CK):Decidable (jhc7 c).1:=by
 unfold jhc7;split <;> first | exact decNo | exact isTrue trivial
instance (e:TyE) (H:List Root) (x:RV):Decidable (hcb7 e H x).1:=by
 unfold hcb7;repeat' split
 all_goals first | exact decNo | exact isTrue trivial | infer_instance
instance decNth:∀(l:List RV) (i:Nat),Decidable (fec7 l i).1
 | [],_=>decNo
 | _::_,0=>isTrue trivial
 | _::l,i+1=>decNth l i
instance (x:RV) (i:Nat):Decidable (cec7 x i).1:=by
 unfold cec7;repeat' split
 all_goals first | exact decNo | exact isTrue trivial | infer_instance
instance (s k:TyK) (x:RV):Decidable (pgb7 s k x).1:=by
 unfold pgb7;repeat' split
 all_goals first | exact decNo | exact isTrue trivial | infer_instance
instance (b:Bool) (x y:RV):Decidable (mmV b x y).1:=by
 unfold mmV;repeat' split
 all_goals first | exact decNo | exact isTrue trivial | infer_instance
instance (k:TyK) (x y:RV):Decidable (pbc7 k x y).1:=by
 unfold pbc7;repeat' split
 all_goals first | exact decNo | exact isTrue trivial | infer_instance
instance (H:List Root) (x:RV):Decidable (zhc7 H x).1:=by
 unfold zhc7;repeat' split
 all_goals first | exact decNo | exact isTrue trivial | infer_instance
instance (k:TyK) (x y:RV):Decidable (mcc7 k x y).1:=by
 unfold mcc7;repeat' split
 all_goals first | exact decNo | exact isTrue trivial | infer_instance
instance (ty:Ty) (k:TyK) (x y:RV):Decidable (ebc7 ty k x y).1:=by
 unfold ebc7;repeat' split
 all_goals first | exact decNo | exact isTrue trivial | infer_instance
instance (k:TyK) (x y z:RV):Decidable (scc7 k x y z).1:=by
 unfold scc7;repeat' split
 all_goals first | exact decNo | exact isTrue trivial | infer_instance
instance (ty:Ty) (k:TyK) (rd:Operand→Bool×RV) (x:RV) (a b c:Option Operand):Decidable (qhc7 ty k rd x a b c).1:=by
 unfold qhc7;repeat' split
 all_goals first | exact decNo | exact isTrue trivial | infer_instance
instance decG (g:Bool):∀l:List Bool,Decidable (gOk g l)
 | []=>isTrue trivial
 | h::l => @instDecidableAnd _ _ (inferInstance) (decG g l)
instance decBd (pl:Nat→Nat×Nat) (rd:Operand→Bool×RV):∀(l:List AV) (ps:List (Nat×Operand)),Decidable (ig7 pl rd l ps).1
 | l,[]=>isTrue trivial
 | l,(i,x)::ps => @instDecidableAnd _ _ (inferInstance) (decBd pl rd _ ps)
instance (fn:Fn) (a:List Operand) (l:List RV):Decidable (yec7 fn a l).1:=by
 unfold yec7;repeat' split
 ·unfold kjc7;split <;> first | exact decNo | exact isTrue trivial
 ·exact decNo
instance (ty:Ty) (H:List Root) (b:Builtin) (ts:List TypeId) (l:List RV):Decidable (zgc7 ty H b ts l).1:=by
 unfold zgc7;repeat' split
 all_goals first | exact decNo | exact isTrue trivial | infer_instance
instance (ty:Ty) (g:Bool) (rd:Operand→Bool×RV) (H:List Root) (o:Op):Decidable (opV ty g rd H o).1:=by
 unfold opV;repeat' split
 all_goals first | exact decNo | exact isTrue trivial | infer_instance
example:decide (jvb7 .add .b (.c (.int .i64 3)) (.c (.int .i64 4))).1=true:=by decide +kernel
example:(match (if (jvb7 .add .b (.c (.int .i64 3)) (.c (.int .i64 4))).1 then (jvb7 .add .b (.c (.int .i64 3)) (.c (.int .i64 4))).2 else .c .junk) with | .c (.int _ n)=>n==7 | _=>false)=true:=by decide +kernel
theorem zk7.up {M:Mp}{H:List Root}{w:World}{bx:Bool}{a:AV}{v:Value}(h:zk7 M H w bx a v):Con M H w a v:=by
 unfold zk7 at h;split at h
 ·exact h
 ·exact Con.of0 h
section
variable {P:Program} {E:Env} {M:Mp} {H:List Root} {w:World}
theorem wtb7 {M:Mp}{H:List Root}{w:World}{rho:Nat→Prop}{x:AV}{v:Value}(hs:x.scal=true) (h:Con M H w x v):mf7 rho w x v:=by
 cases x <;> first | exact h | cases hs
theorem pjb7 {M:Mp}{H:List Root}{w:World}{rho:Nat→Prop}:∀{l:List AV}{vs:List Value},dnb7 l=true→of7 M H w l vs→dg7 rho w l vs
 | [],_,_,h=>h
 | _::_,_,hs,⟨v,r,e,h1,h2⟩=>by
  simp only[dnb7,Bool.and_eq_true]at hs
  exact⟨v,r,e,wtb7 hs.1 h1,pjb7 hs.2 h2⟩
theorem ybb7 {M:Mp}{H:List Root}{w:World}{rho:Nat→Prop}{x:RV}{v:Value}(hs:owb7 x=true) (h:ic7 M H w x v):yj7 rho w x v:=by
 cases x with
 | c a=>exact wtb7 hs h
 | agg l=>obtain⟨vs,e,h⟩:=h;exact⟨vs,e,pjb7 hs h⟩
 | fn=>cases hs
 | tup=>cases hs
 | ifc=>cases hs
theorem tdb7 {M:Mp}{H:List Root}{w:World}{rho:Nat→Prop}:∀{l:List RV}{vs:List Value},wz7 l=true→ud7 M H w l vs→Con0RL rho w l vs
 | [],_,_,h=>h
 | _::_,_,hs,⟨v,r,e,h1,h2⟩=>by
  simp only[wz7,Bool.and_eq_true]at hs
  exact⟨v,r,e,ybb7 hs.1 h1,tdb7 hs.2 h2⟩
theorem kq7 {M:Mp}{H:List Root}{w:World}{rho:Nat→Prop}{x:RV}{v:Value}(hs:fdb7 x=true) (h:ic7 M H w x v):gi7 rho w x v:=by
 cases x with
 | tup l=>obtain⟨vs,e,h⟩:=h;exact⟨vs,e,tdb7 hs h⟩
 | c a=>exact ybb7 (x:=.c a) hs h
 | agg l=>exact ybb7 (x:=.agg l) hs h
 | fn f l=>cases hs
 | ifc=>cases hs
end
variable {P:Program}
def only:Nat→List Root→List Root
 | _,[]=>[]
 | 0,r::l=>r::l.map fun _=>.dead
 | k+1,_::l=>.dead::only k l
theorem ikb7:∀(k:Nat) (H:List Root),(only k H).length=H.length
 | _,[]=>by cases ‹Nat› <;> rfl
 | 0,_::_=>by simp[only]
 | k+1,_::l=>by simp[only,ikb7 k l]
theorem akb7:∀(l:List Root) (i:Nat),da7 (l.map fun _=>Root.dead) i = .dead
 | [],_=>rfl
 | _::_,0=>rfl
 | _::l,i+1=>akb7 l i
theorem gab7:∀(k:Nat) (H:List Root) (i:Nat),da7 (only k H) i=if i=k then da7 H k else .dead
 | k,[],i=>by
  have e:only k []=[]:=by cases k <;> rfl
  rw[e]
  split <;> rfl
 | 0,r::l,i=>by
  cases i with
  | zero=>rfl
  | succ i=>rw[if_neg (by omega)];exact akb7 l i
 | k+1,r::l,i=>by
  cases i with
  | zero=>rw[if_neg (by omega)];rfl
  | succ i =>
   show da7 (only k l) i=_
   rw[gab7 k l i]
   by_cases e:i=k
   ·rw[if_pos e,if_pos (by omega)];rfl
   ·rw[if_neg e,if_neg (by omega)]
theorem dub7:∀(l:List AV) (o:Nat),l.all AV.fr=true→(nth l o).fr=true∨nth l o = .junk
 | [],_,_=>.inr rfl
 | a::l,o,h=>by
  simp only[List.all_cons,Bool.and_eq_true]at h
  cases o with
  | zero=>exact .inl h.1
  | succ o=>exact dub7 l o h.2
def Env.frm (w:World) (rho:Nat→Prop) (g:Nat) (hg:∀w,qq7 w):Env:=⟨w,rho,[],fun b=>b=g,.inr hg⟩
section
variable {E:Env} {M:Mp} {H:List Root} {w w':World}
theorem Rel.only (hgl:∀w,qq7 w) (h:Rel E M H w) {k:Nat}{t:TypeId}{sz:Nat}{l:List AV}(hk:da7 H k = .live false t sz (.box l)) (hl:l.all AV.fr=true):Rel (Env.frm w M.rho (M.phi k) hgl) ⟨M.phi,M.off,M.rho,fun _=>none⟩ (only k H) w:=by
 have lift:∀{i:Nat} {fz:Bool} {t2:TypeId} {s2:Nat} {r2:Row},da7 (Ab.only k H) i = .live fz t2 s2 r2→i=k∧da7 H k = .live fz t2 s2 r2:=fun {i fz t2 s2 r2} hr=>by
  rw[gab7]at hr
  split at hr
  ·rename_i e;exact⟨e,hr⟩
  ·cases hr
 refine⟨⟨rfl,rfl,rfl,Nat.le_refl _,fun _ _ _=>rfl⟩,fun i fz t2 s2 r2 hr=>?_,fun i fz t2 s2 r2 hr=>?_,fun i t2 s2 r2 hr=>?_,fun i t2 s2 r2 hr=>?_,fun i j t1 s1 r1 t2 s2 r2 hi hj _=>by rw[(lift hi).1,(lift hj).1],h.rlt,⟨fun b hb=>.inl hb,h.glob⟩,⟨fun _ _ h=>(by cases h),fun _ _ _ _ _ _ _ h=>(by cases h),fun _ _ _ h=>(by cases h)⟩⟩
 ·obtain⟨rfl,-⟩:=lift hr;exact .inr rfl
 ·obtain⟨rfl,hr⟩:=lift hr
  obtain⟨cur,c1,c2,c3,c4,c5,c6⟩:=h.row _ _ _ _ _ hr
  refine⟨cur,c1,c2,c3,c4,c5,fun a ha o ho=>?_⟩
  obtain⟨v,v1,v2,v3⟩:=c6 a ha o ho
  refine⟨v,v1,v2, ?_⟩
  rw[hk]at hr
  cases hr
  unfold zk7 at v3 ⊢
  simp only[Row.isBox,if_true]at v3 ⊢
  have hf:(nth l o).fr=true∨nth l o = .junk:=dub7 l o hl
  rcases hf with hf | hf
  ·have v3:Con M H w (nth l o) v:=v3
   show Con _ _ w (nth l o) v
   cases hx:nth l o <;> rw[hx]at hf v3 <;> first | exact v3 | cases hf
  ·show Con _ _ w (nth l o) v
   rw[hf];trivial
 ·obtain⟨rfl,hr⟩:=lift hr;rw[hk]at hr;cases hr
 ·obtain⟨rfl,hr⟩:=lift hr;exact h.thaw _ _ _ _ hr
theorem Rel.back (hgl:∀w,qq7 w) (h:Rel E M H w) {k:Nat}{t:TypeId}{sz:Nat}{l l':List AV}(hk:da7 H k = .live false t sz (.box l)) {M2:Mp}{H2:List Root}(q1:Rel (Env.frm w M.rho (M.phi k) hgl) M2 H2 w') (q2:Kp ⟨M.phi,M.off,M.rho,fun _=>none⟩ (Ab.only k H) w M2 H2 w')
  (hk':da7 H2 k = .live false t sz (.box l')) (hl':l'.all AV.fr=true) :
  Rel E ⟨M.phi,M.off,M2.rho,M.tau⟩ (ja7 H k (.live false t sz (.box l'))) w'∧Kp M H w ⟨M.phi,M.off,M2.rho,M.tau⟩ (ja7 H k (.live false t sz (.box l'))) w'∧bj7 (some (M.phi k)) w w':=by
 have hlt:k<H.length:=sf7 hk
 have hsz:w.heap.size≤w'.heap.size:=q1.bel.size
 have hblk:∀b,b<w.heap.size→b≠M.phi k→w'.heap[b]? = w.heap[b]? := fun b hb hne=>q1.bel.block b hb hne
 have hrho:∀b,M.rho b→M2.rho b:=fun b hb=>by
  obtain⟨b',o',e,hb',-⟩:=q2 (.rp 0 fun _=>.junk) (.pointer (some ⟨b,0,none⟩)) ⟨b,0,rfl,hb,fun j hj=>absurd hj (Nat.not_lt_zero _)⟩
  simp only[Value.pointer.injEq,Option.some.injEq,Addr.mk.injEq]at e
  rw[e.1];exact hb'
 have hko:da7 (Ab.only k H) k = .live false t sz (.box l):=by rw[gab7,if_pos rfl,hk]
 have hphi:M2.phi k=M.phi k:=ulb7 (M:=⟨M.phi,M.off,M.rho,fun _=>none⟩) q2 (by unfold qjb7;rw[hko];exact⟨rfl,rfl⟩) (by unfold qjb7;rw[hk'];exact⟨rfl,rfl⟩)
 obtain⟨cur,a1,a2,a3,a4,a5,a6⟩:=h.row _ _ _ _ _ hk
 obtain⟨cur2,b1,b2,b3,b4,b5,b6⟩:=q1.row _ _ _ _ _ hk'
 obtain⟨o1,s1⟩:=a5 rfl
 obtain⟨o2,s2⟩:=b5 rfl
 rw[hphi]at b1
 rw[o2]at b3 b6
 have hbr:∀b,M.rho b→w'.heap[b]? = w.heap[b]? := fun b hb=>hblk b (h.rlt b hb) fun e=>h.thaw _ _ _ _ hk (e ▸ hb)
 have hbt:∀b q,M.tau b=some q→w'.heap[b]? = w.heap[b]? := fun b q hq=>hblk b (h.tau.lt hq) fun e=>h.tau.row _ _ _ _ _ _ _ hq hk e.symm
 have hn:∀b,M2.rho b→M.rho b∨w.heap.size≤b∨b=M.phi k:=fun b hb=>q1.src.1 b hb
 have at3:∀{i:Nat} {fz:Bool} {t2:TypeId} {sz2:Nat} {r2:Row},da7 (ja7 H k (.live false t sz (.box l'))) i = .live fz t2 sz2 r2→(i=k∧fz=false∧t2=t∧sz2=sz∧r2 = .box l')∨(i≠k∧da7 H i = .live fz t2 sz2 r2):=fun {i fz t2 sz2 r2} hr=>by
  rw[rc7]at hr
  by_cases e:i=k
  ·rw[if_pos ⟨e,hlt⟩]at hr
   cases hr;exact .inl ⟨e,rfl,rfl,rfl,rfl⟩
  ·rw[if_neg (fun hh=>e hh.1)]at hr;exact .inr ⟨e,hr⟩
 have hne:∀{i:Nat} {fz:Bool} {t2:TypeId} {sz2:Nat} {r2:Row},i≠k→da7 H i = .live fz t2 sz2 r2→M.phi i≠M.phi k:=fun {i fz t2 sz2 r2} e hr he=>by
  cases fz with
  | false=>exact e (h.inj _ _ _ _ _ _ _ _ hr hk he)
  | true=>exact h.thaw _ _ _ _ hk (he ▸ h.froz _ _ _ _ hr)
 have hkp:Kp M H w ⟨M.phi,M.off,M2.rho,M.tau⟩ (ja7 H k (.live false t sz (.box l'))) w':=by
  intro a v c
  cases a with
  | ptr id n i o =>
   refine⟨⟨by rw[va7];exact c.1.1,c.1.2⟩,fun fz t2 sz2 r2 hr=>?_⟩
   rcases at3 hr with ⟨rfl,rfl,rfl,rfl,rfl⟩ | ⟨-,hr⟩
   ·have:=c.2 _ _ _ _ hk;exact this
   ·exact c.2 _ _ _ _ hr
  | h id st len =>
   refine⟨⟨by rw[va7];exact c.1.1,c.1.2⟩,fun fz t2 sz2 r2 hr=>?_⟩
   rcases at3 hr with ⟨rfl,rfl,rfl,rfl,rfl⟩ | ⟨e,hr⟩
   ·obtain⟨c1,c2⟩:=c.2 _ _ _ _ hk
    refine⟨c1,fun hh=>?_⟩
    obtain⟨cap,cu,ad,k1,k2,k3,k4,k5,k6⟩:=c2 hh
    rw[a1]at k4
    cases k4
    exact⟨cap,cur2,ad,k1,k2,k3,b1,by show M.off id+_=_;omega,k6⟩
   ·obtain⟨c1,c2⟩:=c.2 _ _ _ _ hr
    refine⟨c1,fun hh=>?_⟩
    obtain⟨cap,cu,ad,k1,k2,k3,k4,k5⟩:=c2 hh
    exact⟨cap,cu,ad,k1,k2,k3,by rw[show (Mp.phi ⟨M.phi,M.off,M2.rho,M.tau⟩ id)=M.phi id from rfl,hblk _ (h.lt hr) (hne e hr)];exact k4,k5⟩
  | ws=>exact WSl.keep (gl7.of rfl hbt) c
  | wu=>obtain⟨n,hb',c⟩:=c;exact⟨n,hb',WSl.keep (gl7.of rfl hbt) c⟩
  | wp=>exact WPt.keep (gl7.of rfl hbt) c
  | junk=>trivial
  | _=>exact mf7.keep hbr hrho c
 refine⟨⟨⟨q1.bel.os.trans h.bel.os,q1.bel.tape.trans h.bel.tape,q1.bel.output.trans h.bel.output,Nat.le_trans h.bel.size hsz,fun b hb hx=>?_⟩,fun i fz t2 s2 r2 hr=>?_,fun i fz t2 s2 r2 hr=>?_,fun i t2 s2 r2 hr=>?_,fun i t2 s2 r2 hr=>?_,fun i j t1 s1 r1 t2 s2 r2 hi hj he=>?_,fun b hb=>q1.rlt b hb,⟨fun b hb=>?_,h.src.2.mono hrho⟩, ?_⟩,hkp,hsz,fun b hb hx=>hblk b hb fun e=>hx (by rw[e])⟩
 ·have hb1:=h.bel.size
  refine (hblk b (by omega) fun e=>?_).trans (h.bel.block b hb hx)
  rcases h.low _ _ _ _ _ hk with h1 | h1
  ·omega
  ·exact hx (e ▸ h1)
 ·rcases at3 hr with ⟨rfl,rfl,rfl,rfl,rfl⟩ | ⟨-,hr⟩
  ·exact h.low _ _ _ _ _ hk
  ·exact h.low _ _ _ _ _ hr
 ·rcases at3 hr with ⟨rfl,rfl,rfl,rfl,rfl⟩ | ⟨e,hr⟩
  ·refine⟨cur2,b1,b2,by show M.off i+_≤_;rw[o1];exact b3,⟨1,by show M.off i+_=_;omega⟩,fun _=>⟨o1,s2⟩,fun a ha o ho=>?_⟩
   obtain⟨v,v1,v2,v3⟩:=b6 a ha o ho
   refine⟨v,by rw[show (Mp.off ⟨M.phi,M.off,M2.rho,M.tau⟩ i)=0 from o1];exact v1,v2, ?_⟩
   unfold zk7 at v3 ⊢
   simp only[Row.isBox,if_true]at v3 ⊢
   have v3:Con M2 H2 w' (nth l' o) v:=v3
   show Con _ _ w' (nth l' o) v
   have hf:(nth l' o).fr=true∨nth l' o = .junk:=dub7 l' o hl'
   rcases hf with hf | hf
   ·cases hx:nth l' o <;> rw[hx]at hf v3 <;> first | exact v3 | cases hf
   ·rw[hf];trivial
  ·exact (h.row _ _ _ _ _ hr).keep hkp hbr hrho (hblk _ (h.lt hr) (hne e hr))
 ·rcases at3 hr with ⟨-,h1,-⟩ | ⟨-,hr⟩
  ·cases h1
  ·exact hrho _ (h.froz _ _ _ _ hr)
 ·rcases at3 hr with ⟨rfl,-,rfl,rfl,rfl⟩ | ⟨e,hr⟩
  ·have:=q1.thaw _ _ _ _ hk'
   rwa [hphi]at this
  ·intro hb
   rcases hn _ hb with h1 | h1 | h1
   ·exact h.thaw _ _ _ _ hr h1
   ·have:=h.lt hr;have h1:w.heap.size≤M.phi i:=h1;omega
   ·exact hne e hr h1
 ·rcases at3 hi with ⟨e1,-⟩ | ⟨e1,hi2⟩ <;> rcases at3 hj with ⟨e2,-⟩ | ⟨e2,hj2⟩
  ·rw[e1,e2]
  ·subst e1;exact absurd he.symm (hne e2 hj2)
  ·subst e2;exact absurd he (hne e1 hi2)
  ·exact h.inj _ _ _ _ _ _ _ _ hi2 hj2 he
 ·rcases hn b hb with h1 | h1 | h1
  ·exact h.src.1 b h1
  ·exact .inr (.inl (Nat.le_trans h.bel.size h1))
  ·exact .inr (by rw[h1];exact h.low _ _ _ _ _ hk)
 ·refine h.tau.keep rfl hbt (fun b q hq hb=>?_) fun b q i fz t2 s2 r2 hq hr=>?_
  ·rcases hn b hb with h1 | h1 | h1
   ·exact (h.tau.new b q hq).2 h1
   ·have:=h.tau.lt hq;omega
   ·exact h.tau.row _ _ _ _ _ _ _ hq hk h1.symm
  ·rcases at3 hr with ⟨rfl,-,rfl,rfl,rfl⟩ | ⟨-,hr⟩
   ·exact h.tau.row _ _ _ _ _ _ _ hq hk
   ·exact h.tau.row _ _ _ _ _ _ _ hq hr
def AV.onl (k:Nat):AV→Bool
 | .ptr id .. => decide (id=k)
 | a=>a.fr
def kkc7 (k:Nat):RV→Bool
 | .c a=>a.onl k
 | _=>false
theorem ddc7 {M2:Mp}(hp:M2.phi=M.phi) (ho:M2.off=M.off) (hr:M2.rho=M.rho) {k:Nat}{x:RV}{v:Value}(hx:kkc7 k x=true) (h:ic7 M H w x v):ic7 M2 (only k H) w x v:=by
 cases x with
 | c a =>
  have h:Con M H w a v:=h
  have hx:a.onl k=true:=hx
  show Con M2 (only k H) w a v
  cases a with
  | ptr id n i o =>
   obtain rfl:id=k:=by simpa[AV.onl]using hx
   refine⟨⟨by rw[ikb7];exact h.1.1,h.1.2⟩,fun fz t sz r hr2=>?_⟩
   rw[gab7,if_pos rfl]at hr2
   have:=h.2 _ _ _ _ hr2
   rw[hp,ho];exact this
  | h=>cases hx
  | ws=>cases hx
  | wu=>cases hx
  | wp=>cases hx
  | junk=>trivial
  | _=>exact mf7.keep (fun _ _=>rfl) (fun b hb=>by rw[hr];exact hb) h
 | _=>cases hx
theorem slb7 {M2:Mp}(hp:M2.phi=M.phi) (ho:M2.off=M.off) (hr:M2.rho=M.rho) {k:Nat}:∀{l:List RV}{vs:List Value},l.all (kkc7 k)=true→ud7 M H w l vs→ud7 M2 (only k H) w l vs
 | [],_,_,h=>h
 | _::_,_,hx,⟨v,r,e,h1,h2⟩=>by
  simp only[List.all_cons,Bool.and_eq_true]at hx
  exact⟨v,r,e,ddc7 hp ho hr hx.1 h1,slb7 hp ho hr hx.2 h2⟩
def ugc7:RV→Bool
 | .ifc _ x=>fdb7 x
 | x=>fdb7 x
theorem zxb7 {M2:Mp}{H2:List Root}{x:RV}{v:Value}(hs:ugc7 x=true) (h:ic7 M H w x v):ic7 M2 H2 w x v:=by
 cases x with
 | ifc t x =>
  obtain⟨u,rfl,h⟩:=h
  exact⟨u,rfl,gi7.up (kq7 (rho:=M2.rho) hs h)⟩
 | c a=>exact gi7.up (x:=.c a) (kq7 (rho:=M2.rho) hs h)
 | agg l=>exact gi7.up (x:=.agg l) (kq7 (rho:=M2.rho) hs h)
 | fn=>cases hs
 | tup l=>exact gi7.up (x:=.tup l) (kq7 (rho:=M2.rho) hs h)
def cnc7 (k:Nat) (t:TypeId) (sz:Nat) (H:List Root) (C:List Root→Prop) (H':List Root):Prop:=∃l',da7 H' k = .live false t sz (.box l')∧l'.all AV.fr=true∧C (ja7 H k (.live false t sz (.box l')))
abbrev vmc7 [Pan] (k:Nat) (t:TypeId) (sz:Nat) (H:List Root):Pan:=⟨fun r H'=>ugc7 r=true∧cnc7 k t sz H (Pan.px r) H'⟩
theorem heb7 [X:Pan] (hgl:∀w,qq7 w) {f:FuncId}{args:List RV}{k:Nat}{t:TypeId}{sz:Nat}{l:List AV}{K:RV→List Root→Prop}(hk:da7 H k = .live false t sz (.box l)) (hl:l.all AV.fr=true) (ha:args.all (kkc7 k)=true)
  (hc : @ne7 P (vmc7 k t sz H) none f args (only k H) (fun r H'=>fdb7 r=true∧cnc7 k t sz H (K r) H')):ne7 P (some (some k)) f args H K:=by
 refine⟨hc.1,fun E M w vs h hv=>?_⟩
 refine (hc.2 _ ⟨M.phi,M.off,M.rho,fun _=>none⟩ w vs (h.only hgl hk hl) (slb7 (M:=M) (M2:=⟨M.phi,M.off,M.rho,fun _=>none⟩) rfl rfl rfl ha hv)).mono ?_
 rintro e w' (⟨M2,H2,r,v,rfl,q1,q2,q3,q4,q5,q6,l',q7,q8,q9⟩ | ⟨ch,rfl,M2,H2,r,v,rfl,q1,q2,q5,q3,q6,l',q7,q8,q9⟩)
 ·obtain⟨r1,r2,r3⟩:=h.back hgl hk q1 q2 q7 q8
  exact .inl ⟨_,_,r,v,rfl,r1,r2,gi7.up (kq7 (rho:=M2.rho) q6 q3),fun g e=>(by cases e;exact r3),by rw[va7];exact Nat.le_refl _,q9⟩
 ·obtain⟨r1,r2,r3⟩:=h.back hgl hk q1 q2 q7 q8
  exact .inr ⟨_,rfl,_,_,r,v,rfl,r1,r2,by rw[va7];exact Nat.le_refl _,zxb7 q6 q3,q9⟩
end
def ub7 (ws:List (List UInt8×Nat)) (i len:Nat):Root:=.live false 226 3 (.box [fj7 ws,I6 i,I6 len])
def isD (ws:List (List UInt8×Nat)) (i:Nat) (w:List UInt8):Bool:=decide (i<ws.length)&&decide (wdN ws i=w)
theorem lnc7 [Pan] {A B C D:Root}{R:List Root}{ws:List (List UInt8×Nat)}{i len:Nat}{w:List UInt8}{K:RV→List Root→Prop}(hi:i≤1000000000000)
  (hK:K (.c (.bool (isD ws i w))) (A::B::C::D::ub7 ws (if isD ws i w then i+1 else i) len::R)) :
  ne7 Tryz.prog none 131 [.c (.ptr 4 1 0 0),.c (.str (S w))] (A::B::C::D::ub7 ws i len::R) K:=by
 refine te7 vc7 (by kernel_rfl) (fun n=>match n with | 1=>([0,4,1,2,3,5,6,7,8,9,10,11,15,22,12,13,14,16,17,18,19,20,21,23,24],0,none) | _=>([],0,none)) Tryz.func131 rfl (by kernel_rfl) Tryz.ntmps131 (congrArg Array.toList Tryz.results131) (by kernel_rfl) (by simp) ?_
 simp -implicitDefEqProofs only [go_sem,ub7]
 refine⟨fun h=>⟨by omega,h⟩,fun h1 h2=>⟨⟨by omega,by omega⟩, ?_⟩,fun h=>?_⟩
 ·have h3:wdN ws i=w:=of_decide_eq_true h2
  have hd:isD ws i w=true:=by unfold isD;rw[decide_eq_true (show i<ws.length by omega),decide_eq_true h3];rfl
  rw[hd,if_pos rfl]at hK
  exact hK
 ·have hd:isD ws i w=false:=by
   rw[Bool.and_eq_false_iff]at h
   unfold isD
   rcases h with h | h
   ·rw[decide_eq_false (show ¬i<ws.length by have:=of_decide_eq_false h;omega)];rfl
   ·rw[decide_eq_false (show ¬wdN ws i=w from of_decide_eq_false h),Bool.and_false]
  rw[hd,if_neg (by simp)]at hK
  exact hK
theorem hdc7 [Pan] {A B C D:Root}{R:List Root}{ws:List (List UInt8×Nat)}{i len:Nat}{K:RV→List Root→Prop}
  (hK:K (.c (.bool (decide (i<ws.length)))) (A::B::C::D::ub7 ws i len::R)) :
  ne7 Tryz.prog none 129 [.c (.ptr 4 1 0 0)] (A::B::C::D::ub7 ws i len::R) K:=by
 refine te7 vc7 (by kernel_rfl) (fun n=>match n with | 1=>([0,4,1,2,3,5,6,7,8,9,10],0,none) | _=>([],0,none)) Tryz.func129 rfl (by kernel_rfl) Tryz.ntmps129 (congrArg Array.toList Tryz.results129) (by kernel_rfl) (by simp) ?_
 simp -implicitDefEqProofs only [go_sem,ub7]
 rw[show decide ((i:Int)<(ws.length:Int))=decide (i<ws.length) from decide_eq_decide.2 (by omega)]
 exact hK
theorem udc7 [Pan] {A B C D:Root}{R:List Root}{ws:List (List UInt8×Nat)}{i len:Nat}{K:RV→List Root→Prop}
  (hK:K (.c (I6 (vf7 ws len i))) (A::B::C::D::ub7 ws i len::R)) :
  ne7 Tryz.prog none 180 [.c (.ptr 4 1 0 0)] (A::B::C::D::ub7 ws i len::R) K:=by
 refine te7 vc7 (by kernel_rfl) (fun n=>match n with | 1=>([0,4,1,2,3,5,6,7,8,9],0,none) | 2=>([0,4,1,2,3,5,6,7,8,9,10,11],0,none) | _=>([],0,none)) Tryz.func180 rfl (by kernel_rfl) Tryz.ntmps180 (congrArg Array.toList Tryz.results180) (by kernel_rfl) (by simp) ?_
 simp -implicitDefEqProofs only [go_sem,ub7]
 refine⟨fun h=>⟨⟨by omega,h⟩, ?_⟩,fun h=>?_⟩
 ·rw[show vf7 ws len i=((ws.getD i ([],0)).2:Int) from if_pos (by omega)]at hK
  exact hK
 ·rw[show vf7 ws len i=(len:Int) from if_neg (by omega)]at hK
  exact hK
theorem oub7:djc7 Tryz.prog 223=true:=by kernel_rfl
def dw7 (at_ code:Int):RV:=.ifc 223 (.agg [I6 at_,I6 code])
theorem ldb7 [Pan] {A B C D:Root}{R:List Root}{ws:List (List UInt8×Nat)}{i len:Nat}{code:Int}{K:RV→List Root→Prop}
  (hP:Pan.px (dw7 (vf7 ws len i) code) (A::B::C::D::ub7 ws i len::R)) :
  ne7 Tryz.prog none 130 [.c (.ptr 4 1 0 0),.c (I6 code)] (A::B::C::D::ub7 ws i len::R) K:=by
 refine te7 vc7 (by kernel_rfl) (fun _=>([],0,none)) Tryz.func130 rfl (by kernel_rfl) Tryz.ntmps130 (congrArg Array.toList Tryz.results130) (by kernel_rfl) (by simp) ?_
 simp -implicitDefEqProofs only [go_sem]
 refine udc7 ?_
 simp -implicitDefEqProofs only [go_sem,oub7]
 exact hP
theorem sab7 [Pan] {A B C D:Root}{R:List Root}{ws:List (List UInt8×Nat)}{i len:Nat}{w:List UInt8}{K:RV→List Root→Prop}(hi:i≤1000000000000)
  (hK:∀r j,fi7 ws w i = .ok j→K r (A::B::C::D::ub7 ws j len::R))
  (hP:∀j c,fi7 ws w i = .error (j,c)→Pan.px (dw7 (vf7 ws len j) c) (A::B::C::D::ub7 ws j len::R)) :
  ne7 Tryz.prog none 63 [.c (.ptr 4 1 0 0),.c (.str (S w))] (A::B::C::D::ub7 ws i len::R) K:=by
 refine te7 vc7 (by kernel_rfl) (fun _=>([],0,none)) Tryz.func63 rfl (by kernel_rfl) Tryz.ntmps63 (congrArg Array.toList Tryz.results63) (by kernel_rfl) (by simp) ?_
 simp -implicitDefEqProofs only [go_sem]
 refine lnc7 hi ?_
 cases hd:isD ws i w with
 | true =>
  have hm:fi7 ws w i = .ok (i+1):=by
   unfold isD at hd
   simp only[Bool.and_eq_true,decide_eq_true_eq]at hd
   unfold fi7
   rw[if_neg (fun h=>h.elim (fun h=>by omega) (fun h=>h hd.2))]
  simp -implicitDefEqProofs only [go_sem,eq_self,not_true_eq_false,not_false_eq_true,decide_false,decide_true,Bool.not_false,Bool.not_true,Bool.or_false,Bool.false_or,Bool.true_or,Bool.or_true,Bool.and_true,Bool.true_and,Bool.false_and,Bool.and_false,true_implies]
  exact hK _ _ hm
 | false =>
  have hm:fi7 ws w i = .error (i,5):=by
   unfold isD at hd
   rw[Bool.and_eq_false_iff]at hd
   unfold fi7
   rw[if_pos (hd.elim (fun h=>.inl (by have:=of_decide_eq_false h;omega)) (fun h=>.inr (of_decide_eq_false h)))]
  simp -implicitDefEqProofs only [go_sem,eq_self,not_true_eq_false,not_false_eq_true,decide_false,decide_true,Bool.not_false,Bool.not_true,Bool.or_false,Bool.false_or,Bool.true_or,Bool.or_true,Bool.and_true,Bool.true_and,Bool.false_and,Bool.and_false,true_implies]
  exact ldb7 (hP _ _ hm)
theorem jj7 [Pan] {A B C D:Root}{R:List Root}{ws:List (List UInt8×Nat)}{i len:Nat}{most:Int}{K:RV→List Root→Prop}(hi:i≤1000000000000) (hw:∀w∈ws,(∀c∈w.1,c.toNat<128))
  (hK:∀x j,tj7 ws most i = .ok (x,j)→K (.c (I6 x)) (A::B::C::D::ub7 ws j len::R))
  (hP:∀j c,tj7 ws most i = .error (j,c)→Pan.px (dw7 (vf7 ws len j) c) (A::B::C::D::ub7 ws j len::R)) :
  ne7 Tryz.prog none 64 [.c (.ptr 4 1 0 0),.c (I6 0),.c (I6 most)] (A::B::C::D::ub7 ws i len::R) K:=by
 refine te7 vc7 (by kernel_rfl) (fun n=>match n with | 1=>([0,4,1,2,3,5,6,7,8,9],0,none) | 3=>([0,4,1,2,3,5,6,7,8,9,10,11,12,13,14,15,16],0,none) | _=>([],0,none)) Tryz.func64 rfl (by kernel_rfl) Tryz.ntmps64 (congrArg Array.toList Tryz.results64) (by kernel_rfl) (by simp) ?_
 simp -implicitDefEqProofs only [go_sem,ub7]
 refine⟨fun h=>?_,fun h=>⟨⟨by omega,by omega⟩, ?_⟩⟩
 ·exact ldb7 (hP _ _ (by unfold tj7;rw[if_pos (by omega)]))
 ·have hlo:∀c∈wdN ws i,c.toNat<128:=by
   unfold wdN
   rw[List.getD_eq_getElem?_getD,List.getElem?_eq_getElem (by omega)]
   exact hw _ (List.getElem_mem (by omega))
  have hn:tj7 ws most i=match fe7 (wdN ws i) with
    | none=>.error (i,3)
    | some x=>if most<(x:Int) then .error (i,2) else .ok ((x:Int),i+1):=by unfold tj7;rw[if_neg (by omega)];cases fe7 (wdN ws i) <;> rfl
  have hp:=cxb7 (wdN ws i) hlo
  rw[hn]at hK hP
  clear hn
  generalize fe7 (wdN ws i)=o at hp hK hP
  rcases o with _ | x
  ·refine be7 hp (by simp -implicitDefEqProofs only [go_sem]) rfl (fun r h=>by subst h;rfl) ?_
   rintro r rfl
   simp -implicitDefEqProofs only [go_sem,eq_self,not_true_eq_false,not_false_eq_true,decide_false,decide_true,Bool.not_false,Bool.not_true,Bool.or_false,Bool.false_or,Bool.true_or,Bool.or_true,Bool.and_true,Bool.true_and,Bool.false_and,Bool.and_false,true_implies,fz7]
   exact ldb7 (hP _ _ rfl)
  ·refine be7 hp (by simp -implicitDefEqProofs only [go_sem]) rfl (fun r h=>by subst h;rfl) ?_
   rintro r rfl
   simp -implicitDefEqProofs only [go_sem,eq_self,not_true_eq_false,not_false_eq_true,decide_false,decide_true,Bool.not_false,Bool.not_true,Bool.or_false,Bool.false_or,Bool.true_or,Bool.or_true,Bool.and_true,Bool.true_and,Bool.false_and,Bool.and_false,true_implies,fz7]
   rw[show decide ((x:Int)<0)=false from decide_eq_false (by omega),Bool.false_or]
   refine⟨fun h=>ldb7 (hP _ _ (by show (if most<(x:Int) then _ else _)=_;rw[if_pos (of_decide_eq_true h)])),fun h=>⟨⟨by omega,by omega⟩, ?_⟩⟩
   exact hK _ _ (by show (if most<(x:Int) then _ else _)=_;rw[if_neg (of_decide_eq_false h)])
theorem ls7 [Pan] {A B C D:Root}{R:List Root}{ws:List (List UInt8×Nat)}{i len:Nat}{most:Int}{K:RV→List Root→Prop}(hi:i≤1000000000000) (hw:∀w∈ws,(∀c∈w.1,c.toNat<128))
  (hK:∀x j,tj7 ws most i = .ok (x,j)→K (.c (I6 x)) (A::B::C::D::ub7 ws j len::R))
  (hP:∀j c,tj7 ws most i = .error (j,c)→Pan.px (dw7 (vf7 ws len j) c) (A::B::C::D::ub7 ws j len::R)) :
  ne7 Tryz.prog (some (some 4)) 64 [.c (.ptr 4 1 0 0),.c (I6 0),.c (I6 most)] (A::B::C::D::ub7 ws i len::R) K:=by
 refine heb7 (fun _=>trivial) (k:=4) (t:=226) (sz:=3) (l:=[fj7 ws,I6 i,I6 len]) rfl rfl rfl ?_
 refine @jj7 (vmc7 4 226 3 (A::B::C::D::ub7 ws i len::R)) .dead .dead .dead .dead (R.map fun _=>.dead) ws i len most _ hi hw (fun x j h=>⟨rfl,[fj7 ws,I6 j,I6 len],rfl,rfl,hK x j h⟩) fun j c h=>⟨rfl,[fj7 ws,I6 j,I6 len],rfl,rfl,hP j c h⟩
theorem rd7 {ws:List (List UInt8×Nat)}{most:Int}{i:Nat}{x:Int×Nat}(h:tj7 ws most i = .ok x):(0≤x.1∧x.1≤most)∧x.2≤ws.length:=by
 unfold tj7 at h
 split at h
 ·cases h
 ·split at h
  ·cases h
  ·split at h
   ·cases h
   ·cases h;refine⟨⟨by simp only;omega,by simp only;omega⟩,by simp only;omega⟩
theorem fab7 {ws:List (List UInt8×Nat)}{w:List UInt8}{i j:Nat}(h:fi7 ws w i = .ok j):j≤ws.length:=by
 unfold fi7 at h
 split at h
 ·cases h
 ·cases h;omega
theorem pa7 {α β:Type}{x:Except Stt α}{f:α→Except Stt β}{e:Stt}(h:x = .error e):tf7 x f = .error e:=by rw[h];rfl
theorem lb7 {α β:Type}{x:Except Stt α}{f:α→Except Stt β}{a:α}(h:x = .ok a):tf7 x f=f a:=by rw[h];rfl
theorem zi7 {α:Type}(g:α×Nat→Except Stt (α×Nat)) (n:Nat) (a:α×Nat):th7 g (n+1) a=tf7 (g a) (th7 g n):=by
 show (match g a with | .ok b=>th7 g n b | .error e=>.error e)=_
 cases g a <;> rfl
def stb7 [Pan] (A B C D:Root) (ws:List (List UInt8×Nat)) (len:Nat) {α:Type} (x:Except Stt α):Prop:=∀j c,x = .error (j,c)→∀R,Pan.px (dw7 (vf7 ws len j) c) (A::B::C::D::ub7 ws j len::R)
def is7 (m:Nat) (R:Root):Prop:=∀n ids,m≤n→vg7 n ids R=R
def stH (id:Nat):List ea7→AV
 | []=>.nils
 | l=>.h id 0 l.length
def stR:List ea7→Root
 | []=>.dead
 | l=>.live false 121 2 (.gen (l.map fun s=>[I6 s.sat,I6 s.load]))
def vi7 (A B C D E1 E2:Root) (ws:List (List UInt8×Nat)) (len:Nat) (r:AV) (a:(List ea7×List Int)×Nat):List Root :=
 [A,B,C,D,ub7 ws a.2 len,E1,E2,.live false 124 1 (.box [r]),.live false 124 1 (.box [stH 9 a.1.1]),stR a.1.1,lR a.1.2]
theorem osb7 [Pan] {A B C D E1 E2:Root}{ws:List (List UInt8×Nat)}{i len:Nat}{K:RV→List Root→Prop}(hi:i≤ws.length) (hwn:ws.length≤1000000) (hw:∀w∈ws,(∀c∈w.1,c.toNat<128)) (hA:is7 7 A) (hB:is7 7 B) (hC:is7 7 C) (hD:is7 7 D) (hE1:is7 7 E1) (hE2:is7 7 E2)
  (hK:∀a,it7 ws i = .ok a→K (.tup [.agg [stH 9 a.1.1],.c (lH 10 a.1.2)]) (vi7 A B C D E1 E2 ws len (stH 9 a.1.1) a))
  (hP:stb7 A B C D ws len (it7 ws i)) :
  ne7 Tryz.prog none 65 [.c (.ptr 4 1 0 0)] [A,B,C,D,ub7 ws i len,E1,E2] K:=by
 refine te7 vc7 (by kernel_rfl) (fun n=>match n with | 6=>([],3,some (.r 4)) | _=>([],0,none)) Tryz.func65 rfl (by kernel_rfl) Tryz.ntmps65 (congrArg Array.toList Tryz.results65) (by kernel_rfl) (by simp) ?_
 simp -implicitDefEqProofs only [go_sem]
 refine jj7 (by omega) hw (fun x j0 hx=>?_) (fun j c hx=>hP _ _ (pa7 hx) _)
 have hT:it7 ws i=th7 (lq7 ws) x.toNat (([],[]),j0):=lb7 hx
 obtain⟨hx1,hj0⟩:=rd7 hx
 simp only at hx1 hj0
 rw[hT]at hK hP
 clear hT hx
 refine se7 (ι:=Nat×((List ea7×List Int)×Nat)) 2 [0,2,4,8] [5,9] (fun s=>(s.1≤x.toNat∧s.2.1.1.length=s.1∧s.2.1.2.length=s.1∧s.2.2≤ws.length)∧th7 (lq7 ws) x.toNat (([],[]),j0)=th7 (lq7 ws) (x.toNat-s.1) s.2) (fun s=>[.c (lH 10 s.2.1.2),.c (I6 s.1)]) (fun s=>vi7 A B C D E1 E2 ws len .nils s.2) (fun s=>x.toNat-s.1) (by kernel_rfl) ⟨(0,([],[]),j0),⟨⟨Nat.zero_le _,rfl,rfl,hj0⟩,rfl⟩,rfl,rfl⟩ (fun k _=>rfl) ?_
 rintro⟨k,⟨ss,ts⟩,j⟩ ⟨⟨hk,hl1,hl2,hj⟩,he⟩
 simp only at hk hl1 hl2 hj he
 rw[he]at hP
 rcases ss with _ | ⟨s,ss⟩ <;> rcases ts with _ | ⟨v,ts⟩
 rotate_left
 ·simp only[List.length_cons,List.length_nil]at hl1 hl2;omega
 ·simp only[List.length_cons,List.length_nil]at hl1 hl2;omega
 rotate_left
 all_goals
  simp -implicitDefEqProofs only [go_sem,vi7,stH,lH,stR,lR]
  refine⟨fun h=>?_,fun h=>?_⟩
 ·have hn:x.toNat-k=(x.toNat-(k+1))+1:=by omega
  rw[hn,zi7]at he hP
  refine jj7 (by omega) hw (fun y1 j1 hy1=>?_) (fun j c hy=>hP _ _ (pa7 (pa7 hy)) _)
  obtain⟨by1,bj1⟩:=rd7 hy1
  simp only at by1 bj1
  rw[show lq7 ws (([],[]),j)=_ from lb7 hy1]at he hP
  simp -implicitDefEqProofs only [go_sem,ub7]
  refine ls7 (by omega) hw (fun y2 j2 hy2=>?_) (fun j c hy=>hP _ _ (pa7 (pa7 hy)) _)
  obtain⟨by2,bj2⟩:=rd7 hy2
  simp only at by2 bj2
  rw[lb7 hy2]at he hP
  simp -implicitDefEqProofs only [go_sem,ub7]
  refine jj7 (by omega) hw (fun y3 j3 hy3=>?_) (fun j c hy=>hP _ _ (pa7 (pa7 hy)) _)
  obtain⟨by3,bj3⟩:=rd7 hy3
  simp only at by3 bj3
  rw[lb7 hy3]at he hP
  simp -implicitDefEqProofs only [go_sem,ub7]
  have he2:th7 (lq7 ws) x.toNat (([],[]),j0)=th7 (lq7 ws) (x.toNat-(k+1)) ((([]:List ea7)++[(⟨y1,y2⟩:ea7)],([]:List Int)++[y3]),j3):=he
  refine⟨by omega,(k+1,((([]:List ea7)++[(⟨y1,y2⟩:ea7)],([]:List Int)++[y3]),j3)),[12,14],⟨⟨by omega,by simp at hl1 ⊢; omega,by simp at hl2 ⊢; omega,bj3⟩,he2⟩,⟨rfl,rfl⟩,rfl, ?_,by omega⟩
  rw[hA _ _ (by decide),hB _ _ (by decide),hC _ _ (by decide),hD _ _ (by decide),hE1 _ _ (by decide),hE2 _ _ (by decide)]
  rfl
 ·have h0:x.toNat-k=0:=by omega
  rw[h0]at he
  exact hK _ he
 ·have hn:x.toNat-k=(x.toNat-(k+1))+1:=by omega
  rw[hn,zi7]at he hP
  refine jj7 (by omega) hw (fun y1 j1 hy1=>?_) (fun j c hy=>hP _ _ (pa7 (pa7 hy)) _)
  obtain⟨by1,bj1⟩:=rd7 hy1
  simp only at by1 bj1
  rw[show lq7 ws ((s::ss,v::ts),j)=_ from lb7 hy1]at he hP
  simp -implicitDefEqProofs only [go_sem,ub7]
  refine ls7 (by omega) hw (fun y2 j2 hy2=>?_) (fun j c hy=>hP _ _ (pa7 (pa7 hy)) _)
  obtain⟨by2,bj2⟩:=rd7 hy2
  simp only at by2 bj2
  rw[lb7 hy2]at he hP
  simp -implicitDefEqProofs only [go_sem,ub7]
  simp only[List.length_cons]at hl1 hl2
  refine⟨by simp;omega, ?_⟩
  refine jj7 (by omega) hw (fun y3 j3 hy3=>?_) (fun j c hy=>hP _ _ (pa7 (pa7 hy)) _)
  obtain⟨by3,bj3⟩:=rd7 hy3
  simp only at by3 bj3
  rw[lb7 hy3]at he hP
  simp -implicitDefEqProofs only [go_sem,ub7]
  have he2:th7 (lq7 ws) x.toNat (([],[]),j0)=th7 (lq7 ws) (x.toNat-(k+1)) (((s::ss)++[(⟨y1,y2⟩:ea7)],(v::ts)++[y3]),j3):=he
  refine⟨by omega,by omega,(k+1,(((s::ss)++[(⟨y1,y2⟩:ea7)],(v::ts)++[y3]),j3)),[9,10],⟨⟨by omega,by simp at hl1 ⊢; omega,by simp at hl2 ⊢; omega,bj3⟩,he2⟩,⟨rfl,rfl⟩, ?_, ?_,by omega⟩
  ·simp only[List.cons_append,List.length_cons,List.length_append,List.length_nil];rfl
  ·rw[hA _ _ (by decide),hB _ _ (by decide),hC _ _ (by decide),hD _ _ (by decide),hE1 _ _ (by decide),hE2 _ _ (by decide)]
   simp only[List.cons_append,List.map_cons,List.map_append,List.map_nil,List.length_cons,List.length_append,List.length_nil];rfl
 ·have h0:x.toNat-k=0:=by omega
  rw[h0]at he
  exact hK _ he
def iR:List Int→Root
 | []=>.dead
 | l=>.live false 3 1 (.ints .i64 l)
def jw7 (A B C D E1 E2 E3 E4:Root) (ws:List (List UInt8×Nat)) (len:Nat) (b t:List AV) (sat out back:Int) (a:(List Int×List Int)×Nat):List Root :=
 [A,B,C,D,ub7 ws a.2 len,E1,E2,E3,E4,.live false 70 2 (.box b),.live false 136 3 (.box t),.live false 70 2 (.box [I6 sat,lH 13 a.1.1]),.live false 136 3 (.box [I6 out,lH 14 a.1.2,I6 back]),iR a.1.1,lR a.1.2]
theorem ryb7 [Pan] {A B C D E1 E2 E3 E4:Root}{ws:List (List UInt8×Nat)}{i len:Nat}{K:RV→List Root→Prop}(hi:i≤ws.length) (hwn:ws.length≤1000000) (hw:∀w∈ws,(∀c∈w.1,c.toNat<128)) (hA:is7 9 A) (hB:is7 9 B) (hC:is7 9 C) (hD:is7 9 D) (hE1:is7 9 E1) (hE2:is7 9 E2) (hE3:is7 9 E3) (hE4:is7 9 E4)
  (hK:∀a,seb7 ws i = .ok a→K (.tup [.agg [I6 a.1.1.sat,lH 13 a.1.1.stops],.agg [I6 a.1.2.out,lH 14 a.1.2.starts,I6 a.1.2.back]]) (jw7 A B C D E1 E2 E3 E4 ws len [I6 a.1.1.sat,lH 13 a.1.1.stops] [I6 a.1.2.out,lH 14 a.1.2.starts,I6 a.1.2.back] a.1.1.sat a.1.2.out a.1.2.back ((a.1.1.stops,a.1.2.starts),a.2)))
  (hP:stb7 A B C D ws len (seb7 ws i)) :
  ne7 Tryz.prog none 66 [.c (.ptr 4 1 0 0)] [A,B,C,D,ub7 ws i len,E1,E2,E3,E4] K:=by
 refine te7 vc7 (by kernel_rfl) (fun n=>match n with | 5=>([],3,some (.r 4)) | 6=>([],3,some (.r 4)) | 9=>([],1,some (.r 9)) | _=>([],0,none)) Tryz.func66 rfl (by kernel_rfl) Tryz.ntmps66 (congrArg Array.toList Tryz.results66) (by kernel_rfl) (by simp) ?_
 simp -implicitDefEqProofs only [go_sem]
 refine jj7 (by omega) hw (fun sat j1 h1=>?_) (fun j c hx=>hP _ _ (pa7 hx) _)
 rw[show seb7 ws i=_ from lb7 h1]at hK hP
 obtain⟨b1,c1⟩:=rd7 h1
 simp only at b1 c1
 simp -implicitDefEqProofs only [go_sem]
 refine jj7 (by omega) hw (fun out j2 h2=>?_) (fun j c hx=>hP _ _ (pa7 hx) _)
 rw[lb7 h2]at hK hP
 obtain⟨b2,c2⟩:=rd7 h2
 simp only at b2 c2
 simp -implicitDefEqProofs only [go_sem]
 refine jj7 (by omega) hw (fun x j0 hx=>?_) (fun j c hx=>hP _ _ (pa7 hx) _)
 rw[lb7 hx]at hK hP
 obtain⟨hx1,hj0⟩:=rd7 hx
 simp only at hx1 hj0
 clear h1 h2 hx
 refine se7 (ι:=Nat×((List Int×List Int)×Nat)) 2 [0,2,3,4,5,13] [14] (fun s=>(s.1≤x.toNat∧s.2.1.1.length=s.1∧s.2.1.2.length=s.1∧s.2.2≤ws.length)∧th7 (hp7 ws) x.toNat (([],[]),j0)=th7 (hp7 ws) (x.toNat-s.1) s.2) (fun s=>[.c (I6 s.1)]) (fun s=>jw7 A B C D E1 E2 E3 E4 ws len [I6 0,.nils] [I6 0,.nils,I6 0] sat out 0 s.2) (fun s=>x.toNat-s.1) (by kernel_rfl) ⟨(0,([],[]),j0),⟨⟨Nat.zero_le _,rfl,rfl,hj0⟩,rfl⟩,rfl,rfl⟩ (fun k _=>rfl) ?_
 rintro⟨k,⟨ss,ts⟩,j⟩ ⟨⟨hk,hl1,hl2,hj⟩,he⟩
 simp only at hk hl1 hl2 hj he
 rw[he]at hP hK
 rcases ss with _ | ⟨s,ss⟩ <;> rcases ts with _ | ⟨v,ts⟩
 rotate_left
 ·simp only[List.length_cons,List.length_nil]at hl1 hl2;omega
 ·simp only[List.length_cons,List.length_nil]at hl1 hl2;omega
 rotate_left
 all_goals
  simp -implicitDefEqProofs only [go_sem,jw7,lH,iR,lR,ub7]
  refine⟨fun h=>?_,fun h=>?_⟩
 ·have hn:x.toNat-k=(x.toNat-(k+1))+1:=by omega
  rw[hn,zi7]at he hP
  refine ls7 (by omega) hw (fun y1 j1 hy1=>?_) (fun j c hy=>hP _ _ (pa7 (pa7 (pa7 hy))) _)
  obtain⟨by1,bj1⟩:=rd7 hy1
  simp only at by1 bj1
  rw[show hp7 ws (([],[]),j)=_ from lb7 hy1]at he hP
  simp -implicitDefEqProofs only [go_sem,ub7]
  refine ls7 (by omega) hw (fun y2 j2 hy2=>?_) (fun j c hy=>hP _ _ (pa7 (pa7 (pa7 hy))) _)
  obtain⟨by2,bj2⟩:=rd7 hy2
  simp only at by2 bj2
  rw[lb7 hy2]at he hP
  simp -implicitDefEqProofs only [go_sem,ub7]
  have he2:th7 (hp7 ws) x.toNat (([],[]),j0)=th7 (hp7 ws) (x.toNat-(k+1)) ((([]:List Int)++[y1],([]:List Int)++[y2]),j2):=he
  refine⟨by omega,(k+1,((([]:List Int)++[y1],([]:List Int)++[y2]),j2)),[16,18],⟨⟨by omega,by simp at hl1 ⊢; omega,by simp at hl2 ⊢; omega,bj2⟩,he2⟩,⟨rfl,rfl⟩,rfl, ?_,by omega⟩
  rw[hA _ _ (by decide),hB _ _ (by decide),hC _ _ (by decide),hD _ _ (by decide),hE1 _ _ (by decide),hE2 _ _ (by decide),hE3 _ _ (by decide),hE4 _ _ (by decide)]
  rfl
 ·have h0:x.toNat-k=0:=by omega
  rw[h0]at hK hP
  rw[lb7 (show th7 (hp7 ws) 0 (([],[]),j) = .ok (([],[]),j) from rfl)]at hK hP
  refine jj7 (by omega) hw (fun bk j3 h3=>?_) (fun j c hy=>hP _ _ (pa7 hy) _)
  rw[lb7 h3]at hK
  simp -implicitDefEqProofs only [go_sem,ub7]
  exact hK _ rfl
 ·have hn:x.toNat-k=(x.toNat-(k+1))+1:=by omega
  rw[hn,zi7]at he hP
  simp only[List.length_cons]at hl1 hl2
  refine ls7 (by omega) hw (fun y1 j1 hy1=>?_) (fun j c hy=>hP _ _ (pa7 (pa7 (pa7 hy))) _)
  obtain⟨by1,bj1⟩:=rd7 hy1
  simp only at by1 bj1
  rw[show hp7 ws ((s::ss,v::ts),j)=_ from lb7 hy1]at he hP
  simp -implicitDefEqProofs only [go_sem,ub7]
  refine⟨by omega, ?_⟩
  refine ls7 (by omega) hw (fun y2 j2 hy2=>?_) (fun j c hy=>hP _ _ (pa7 (pa7 (pa7 hy))) _)
  obtain⟨by2,bj2⟩:=rd7 hy2
  simp only at by2 bj2
  rw[lb7 hy2]at he hP
  simp -implicitDefEqProofs only [go_sem,ub7]
  have he2:th7 (hp7 ws) x.toNat (([],[]),j0)=th7 (hp7 ws) (x.toNat-(k+1)) (((s::ss)++[y1],(v::ts)++[y2]),j2):=he
  refine⟨by omega,by omega,(k+1,(((s::ss)++[y1],(v::ts)++[y2]),j2)),[13,14],⟨⟨by omega,by simp at hl1 ⊢; omega,by simp at hl2 ⊢; omega,bj2⟩,he2⟩,⟨rfl,rfl⟩,rfl, ?_,by omega⟩
  rw[hA _ _ (by decide),hB _ _ (by decide),hC _ _ (by decide),hD _ _ (by decide),hE1 _ _ (by decide),hE2 _ _ (by decide),hE3 _ _ (by decide),hE4 _ _ (by decide)]
  simp only[List.cons_append,List.length_cons,List.length_append,List.length_nil];rfl
 ·have h0:x.toNat-k=0:=by omega
  rw[h0]at hK hP
  rw[lb7 (show th7 (hp7 ws) 0 ((s::ss,v::ts),j) = .ok ((s::ss,v::ts),j) from rfl)]at hK hP
  refine jj7 (by omega) hw (fun bk j3 h3=>?_) (fun j c hy=>hP _ _ (pa7 hy) _)
  rw[lb7 h3]at hK
  simp -implicitDefEqProofs only [go_sem,ub7]
  exact hK _ rfl
section
variable {P:Program} {ops:Array Oper} {a:Act} {w:World} {o:Oper} {v:Value}
theorem zp7 (hg:o.guard=none) (f:Nat→Option Bool):Region.wanted o f=true:=by
 unfold Region.wanted;rw[hg]
theorem ayb7 {Q:Exit→Act→List Frame→World→Prop}{i:Nat}{rest:List Nat}{cs cs':List Frame}(ho:ops[i]? = some o) (hg:o.guard=none) (hx:(execOp a.eval o).run P w = .ok .recover w) (hr:recoverD cs=some (v,cs')) (hn:wpOpsS P ops Q rest (a.put o.dst v) cs' w):wpOpsS P ops Q (i::rest) a cs w:=by
 unfold wpOpsS
 simp only[ho,zp7 hg,if_true,hx,hr]
 exact hn
theorem fbc7 {Q:Exit→Act→List Frame→World→Prop}{i:Nat}{rest:List Nat}{cs:List Frame}(ho:ops[i]? = some o) (hg:o.guard=none) (hx:(execOp a.eval o).run P w = .ok .recover w) (hr:recoverD cs=none) (hn:wpOpsS P ops Q rest (a.put o.dst .nilIface) cs w):wpOpsS P ops Q (i::rest) a cs w:=by
 unfold wpOpsS
 simp only[ho,zp7 hg,if_true,hx,hr]
 exact hn
theorem xkb7 {Q:Exit→Act→List Frame→World→Prop}{i:Nat}{rest:List Nat}{cs:List Frame}(ho:ops[i]? = some o) (hg:o.guard=none) (hx:(execOp a.eval o).run P w = .ok (.value v) w) (hn:wpOpsS P ops Q rest (a.put o.dst v) cs w):wpOpsS P ops Q (i::rest) a cs w:=by
 unfold wpOpsS
 simp only[ho,zp7 hg,if_true,hx]
 exact hn
theorem sl7 {Q:Exit→Act→World→Prop}{l:List Oper}(hg:o.guard=none) (hx:(execOp a.eval o).run P w = .ok (.value v) w) (hn:wpList P ops Q l (a.put o.dst v) w):wpList P ops Q (o::l) a w:=by
 unfold wpList
 rw[if_pos (zp7 hg _)]
 refine .inl ?_
 unfold Oper.wp
 rw[hx]
 exact hn
theorem tcc7 [Pan] {ty:Ty}{E:Env}{nt:Nat}{M:Mp}{σ:AS}{Q:Exit→Act→World→Prop}{l:List Oper}{K:AS→Prop}(hT:uh7 P ty) (h:St E nt M σ a w) (hd:∀t,o.dst=some t→t<nt) (hw:kbb7 P ty none none ops σ o K)
  (hn:∀M' σ' a' w',St E nt M' σ' a' w'→Kp M σ.H w M' σ'.H w'→σ.H.length≤σ'.H.length→K σ'→wpList P ops Q l a' w') (hP:∀ch w',zx7 E M σ.H w ch w'→Q (.panic ch) a w'):wpList P ops Q (o::l) a w:=by
 have:=pob7 (Q:=Q) (next:=wpList P ops Q l) hT h hd hw (fun M' σ' a' w' q1 _ q3 q4=>hn M' σ' a' w' q1 q3.kp q3.len q4) hP
 unfold wpList
 split
 ·rename_i hwt;rw[if_pos hwt]at this;exact .inl this
 ·rename_i hwt;rw[if_neg hwt]at this;exact this
end
theorem vrb7 (p q:Value) (w:World):CallsD Tryz.prog 128 #[p,q] .returning w fun e u' w'=>(∃v,e = .returned v)∧u' = .returning∧w'=w:=by
 refine callsD_of_wpS Tryz.func128 rfl fun c₀ cs hu=>?_
 rw[Tryz.ntmps128]
 apply wpS_seq
 apply wpS_region
 refine fbc7 (i:=0) rfl rfl rfl (by simp[recoverD,hu]) ?_
 refine xkb7 (i:=1) rfl rfl rfl ?_
 refine wpS_of_wp (wp_seq (wp_region_list ?_))
 refine sl7 rfl rfl ?_
 refine sl7 (v:=.bool false) rfl (by kernel_rfl) ?_
 refine wp_cond_false (by kernel_rfl) (wp_skip ?_)
 refine⟨rfl,.returning,by rw[← hu],.tuple #[], ?_,⟨_,rfl⟩,rfl,rfl⟩
 kernel_rfl
def GoK (E:Env) (nt:Nat) (M:Mp) (H:List Root) (w:World) (Z:Act→World→Prop) (σ':AS):Prop:=∀M' a' w',St E nt M' σ' a' w'→Kp M H w M' σ'.H w'→Z a' w'
section
variable {P:Program} {ty:Ty} {E:Env} {nt:Nat} {M:Mp} {σ:AS} {a:Act} {w:World} {Q:Exit→Act→World→Prop}
theorem dbc7 {M0:Mp}{H0:List Root}{w0:World}(hT:uh7 P ty) {ops:Array Oper}{l:List Oper}{nf:Nat}(h:St E nt M σ a w) (h0:Kp M0 H0 w0 M σ.H w) (hd:∀o∈l,∀t,o.dst=some t→t<nt) (hw:jx7 P ty nf none ops l (GoK E nt M0 H0 w0 (Q .normal)) σ):wpList P ops Q l a w :=
 yib7 hT l h hd hw (fun a' w' ⟨M2,σ2,r1,r2,r3⟩=>r3 M2 a' w' r1 (h0.trans r2.kp)) fun a' ch w' hd hp=>(ef7 hp).elim
def GoE (E:Env) (nt:Nat) (M:Mp) (H:List Root) (w:World) (Q:Exit→Act→World→Prop) (e:Exit) (σ':AS):Prop:=GoK E nt M H w (Q e) σ'
theorem spb7 {M0:Mp}{H0:List Root}{w0:World}(hT:uh7 P ty) (hm:P.follows .mixedOrders=true) (ord:Nat→List Nat×Nat×Option DD) {c:Code}(hok:okC nt ord c=true) (h:St E nt M σ a w) (h0:Kp M0 H0 w0 M σ.H w) (hw:awp P ty ord c (GoE E nt M0 H0 w0 Q) σ):c.wp P Q a w :=
 wp_mono (om7 hT hm c hok h hw) fun e a' w' hA=>by
  rcases hA with ⟨-,M2,σ2,r1,r2,r3⟩ | ⟨ch,-,-,hp⟩
  ·exact r3 M2 a' w' r1 (h0.trans r2.kp)
  ·exact (ef7 hp).elim
theorem ho7 {M0:Mp}{H0:List Root}{w0:World}(hT:uh7 P ty) (hm:P.follows .mixedOrders=true) (ord:Nat→List Nat×Nat×Option DD) {x y:Code}(hok:okC nt ord x=true) (h:St E nt M σ a w) (h0:Kp M0 H0 w0 M σ.H w) (hw:awp P ty ord x (GoE E nt M0 H0 w0 (Exit.then (y.wp P Q) Q)) σ):(Code.seq x y).wp P Q a w :=
 wp_seq (spb7 hT hm ord hok h h0 hw)
end
theorem js7 (x:Root):∀R:List Root,da7 (R++[x]) R.length=x
 | []=>rfl
 | _::R=>js7 x R
theorem gp7 (x y:Root):∀R:List Root,ja7 (R++[x]) R.length y=R++[y]
 | []=>rfl
 | z::R=>by show z::ja7 (R++[x]) R.length y=_;rw[gp7 x y R];rfl
theorem qnb7 {E:Env}{M:Mp}{A B:Root}{R:List Root}{x y:AV}{w:World}{p q v:Value}{at_ code:Int}(h:Rel E M (A::B :: .live false 3 1 (.box [x]) :: .live false 47 1 (.box [y])::R) w)
  (hp:Con M (A::B :: .live false 3 1 (.box [x]) :: .live false 47 1 (.box [y])::R) w (.ptr 2 1 0 0) p) (hq:Con M (A::B :: .live false 3 1 (.box [x]) :: .live false 47 1 (.box [y])::R) w (.ptr 3 1 0 0) q)
  (hv:ic7 M (A::B :: .live false 3 1 (.box [x]) :: .live false 47 1 (.box [y])::R) w (dw7 at_ code) v) :
  CallsD Tryz.prog 128 #[p,q] (.panicking [{ v:=v,recovered:=false }]) w fun e u' w'=>(∃v,e = .returned v)∧u' = .panicking [{ v:=v,recovered:=true }]∧∃M' T,Rel E M' (A::B :: .live false 3 1 (.box [I6 at_]) :: .live false 47 1 (.box [I6 code])::R++T) w'∧Kp M (A::B :: .live false 3 1 (.box [x]) :: .live false 47 1 (.box [y])::R) w M' (A::B :: .live false 3 1 (.box [I6 at_]) :: .live false 47 1 (.box [I6 code])::R++T) w':=by
 obtain⟨u,rfl,hu⟩:=hv
 refine callsD_of_wpS Tryz.func128 rfl fun c₀ cs hm=>?_
 rw[Tryz.ntmps128]
 have st:=St.enter (h.env []) rfl (args:=[.c (.ptr 2 1 0 0),.c (.ptr 3 1 0 0)]) (vs:=[p,q]) ⟨p,_,rfl,hp,q,_,rfl,hq,rfl⟩ (n:=20) (by decide)
 apply wpS_seq
 apply wpS_region
 refine ayb7 (i:=0) (v:=.iface 223 u) (cs':={ c₀ with mode:=.panicking [{ v:=.iface 223 u,recovered:=true }] }::cs) rfl rfl rfl (by simp[recoverD,hm]) ?_
 replace st:=st.putV (d:=some 5) (g:=true) (r:=.c .junk) (v:=.iface 223 u) (by simp) (fun _=>trivial) (fun e=>by cases e)
 refine xkb7 (i:=1) (v:=.iface 223 u) rfl rfl (by kernel_rfl) ?_
 replace st:=st.putV (d:=some 2) (g:=true) (r:=.c .junk) (v:=.iface 223 u) (by simp) (fun _=>trivial) (fun e=>by cases e)
 refine wpS_of_wp (wp_seq (wp_region_list ?_))
 refine sl7 (v:=.iface 223 u) rfl (by kernel_rfl) ?_
 replace st:=st.putV (d:=some 6) (g:=true) (r:=.c .junk) (v:=.iface 223 u) (by simp) (fun _=>trivial) (fun e=>by cases e)
 refine sl7 (v:=.bool true) rfl (by kernel_rfl) ?_
 replace st:=st.putV (d:=some 7) (g:=true) (r:=.c .junk) (v:=.bool true) (by simp) (fun _=>trivial) (fun e=>by cases e)
 refine wp_cond_true (by kernel_rfl) (wp_seq (wp_region_list ?_))
 refine sl7 (v:=.iface 223 u) rfl (by kernel_rfl) ?_
 replace st:=st.putV (d:=some 9) (g:=true) (r:=.c .junk) (v:=.iface 223 u) (by simp) (fun _=>trivial) (fun e=>by cases e)
 refine sl7 (v:=.tuple #[u,.bool true]) rfl (by kernel_rfl) ?_
 replace st:=st.putV (d:=some 10) (g:=true) (r:=.tup [.agg [I6 at_,I6 code],.c (.bool true)]) (v:=.tuple #[u,.bool true]) (by simp) (fun _=>⟨[u,.bool true],rfl,u,_,rfl,hu,_,_,rfl,rfl,rfl⟩) (fun e=>by cases e)
 have key:=fun (ops:Array Oper) (l:List Oper) (Q:Exit→Act→World→Prop) dd hw=>dbc7 (ops:=ops) (l:=l) (Q:=Q) (nf:=6) vc7 st (Kp.refl _ _ _) dd hw
 refine key _ _ _ (wn7 (ops:=⟨_⟩) ?dd) ?_
 case dd=>kernel_rfl
 simp -implicitDefEqProofs only [go_sem,js7,gp7]
 clear key st
 refine fun M1 a1 w1 st kp=>?_
 refine spb7 vc7 (by kernel_rfl) (fun n=>match n with | 5=>([],1,some (.r 2)) | _=>([],0,none)) (by kernel_rfl) st kp ?_
 simp -implicitDefEqProofs only [go_sem,js7,gp7]
 refine fun _ M2 a2 w2 st kp=>?_
 exact⟨st.df,_,rfl,.tuple #[],by kernel_rfl,⟨_,rfl⟩,rfl,M2,_,st.rel.env2,kp⟩
end Go.Proofs.YtabadfkikdefeaaGreat.Ab
