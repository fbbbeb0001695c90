/- Texts of the proof, joined: RunP, Awake26r, HuntD, HuntM, HuntE, HuntB, HuntP, HuntDraws, LawO. -/
import Derived.Test.YtabadfkikdefeaaGreatR5
set_option linter.all false
set_option maxRecDepth 100000
set_option maxHeartbeats 6400000
namespace Go.Proofs.YtabadfkikdefeaaGreat.Ab
open Go.RowKit
theorem rw7 {P:Program}{f:FuncId}(h:ga7 P none f [] [] (fun r _=>r = .c (.bool true))):cf7 P f [] (fun r=>r = .c (.bool true)):=by
 refine⟨h.1,fun rho w vs hgl hrho hc=>?_⟩
 cases hc
 have hrel:Rel (Env.of w rho) ⟨fun _=>0,fun _=>0,rho,fun _=>none⟩ [] w:=⟨Bel.of _ _,fun _ _ _ _ _ h=>(by cases h),fun _ _ _ _ _ h=>(by cases h),fun _ _ _ _ h=>(by cases h),fun _ _ _ _ h=>(by cases h),fun _ _ _ _ _ _ _ _ h=>(by cases h),hrho,⟨fun b hb=>.inl hb,hgl⟩,⟨fun _ _ h=>(by cases h),fun _ _ _ _ _ _ _ h=>(by cases h),fun _ _ _ h=>(by cases h)⟩⟩
 refine (h.2 _ _ w [] hrel rfl).mono ?_
 rintro e w' (⟨M',H',r,v,rfl,h1,h2,h3,h4,h5,rfl⟩ | ⟨_,_,hP⟩)
 case inr=>exact (pa7 hP).elim
 exact⟨_,v,rho,rfl,rfl,h3,fun b hb=>.inl hb,h1.belN⟩
theorem lx7:cf7 Tryz.prog 39 [] (fun r=>r = .c (.bool true)) :=
 rw7 (kx7 (fun r G h=>by
  simp only[Bool.and_eq_true]at h
  split at h
  ·rfl
  ·cases h.1) (ecb7 (S:=[ug7,kf7,qk7,lj7,fh7,cj7,kdb7,wo7,ln7,vl7,vsb7]) (ba7 fe7 (ba7 bf7 (ba7 rq7 (ba7 vj7 (ba7 ni7 (ba7 rj7 (ba7 reb7 (ba7 ys7 (ba7 rt7 (ba7 wp7 (ba7 gib7 ka7))))))))))) (f:=39) (args:=[]) (H:=[]) (K:=fun r _=>(match r with | .c (.bool true)=>true | _=>false)&&true) (by decide +kernel)))
structure MoveD where
 kind:Int
 a:Int
 i:Int
 b:Int
 j:Int
 deriving DecidableEq
section
variable (l:List Int) (sats:Int) (B:List cb7)
def za7 (n:Int) (u:Nat):Option (Int×Nat):=if n<1 then some (0,u) else if u<l.length then some (ct7 (l.getD u 0) n,u+1) else none
def ia7 (i:Int):Int:=if i<B.length then ((B.getD i.toNat ⟨0,[]⟩).stops.length:Int) else 0
def ue7 (k a b:Int) (u:Nat):Option (MoveD×Nat) :=
 match za7 l (ia7 B a) u with
 | none=>none
 | some (i,u)=>match za7 l (ia7 B b+1) u with
  | none=>none
  | some (j,u)=>some (⟨k,a,i,b,j⟩,u)
def zd7 (u:Nat):Option (MoveD×Nat) :=
 match za7 l 6 u with
 | none=>none
 | some (k,u)=>match za7 l B.length u with
  | none=>none
  | some (a,u)=>if k=5 then (match za7 l sats u with
    | none=>none
    | some (b,u)=>some (⟨k,a,0,b,0⟩,u))
   else if k=2 then ue7 l B k a a u
   else match za7 l (B.length+1) u with
    | none=>none
    | some (b,u)=>ue7 l B k a b u
def hb7:Nat→Nat→List MoveD×Nat×Bool
 | 0,u=>([],u,true)
 | n+1,u=>match zd7 l sats B u with
  | none=>([],l.length,false)
  | some (m,u)=>(m::(hb7 n u).1,(hb7 n u).2)
def ib7 (p:Nat×Bool):Int×Nat×Bool:=if p.2=true∨l.length≤p.1 then (0,p.1,true) else (l.getD p.1 0,p.1+1,false)
def ea7 (n:Int) (p:Nat×Bool):Int×Nat×Bool:=if n<1 then (0,p) else (ct7 (ib7 l p).1 n,(ib7 l p).2)
def xg7 (k a b:Int) (p:Nat×Bool):MoveD×Nat×Bool :=
 (⟨k,a,(ea7 l (ia7 B a) p).1,b,(ea7 l (ia7 B b+1) (ea7 l (ia7 B a) p).2).1⟩,(ea7 l (ia7 B b+1) (ea7 l (ia7 B a) p).2).2)
def mfb7 (k a:Int) (p:Nat×Bool):MoveD×Nat×Bool :=
 if k=5 then (⟨k,a,0,(ea7 l sats p).1,0⟩,(ea7 l sats p).2)
 else if k=2 then xg7 l B k a a p
 else xg7 l B k a (ea7 l (B.length+1) p).1 (ea7 l (B.length+1) p).2
def va7 (p:Nat×Bool):MoveD×Nat×Bool :=
 mfb7 l sats B (ea7 l 6 p).1 (ea7 l B.length (ea7 l 6 p).2).1 (ea7 l B.length (ea7 l 6 p).2).2
def xb7:Nat→Nat×Bool→List MoveD×Nat×Bool
 | 0,p=>([],p)
 | n+1,p=>if (va7 l sats B p).2.2=true then ([],(va7 l sats B p).2)
  else ((va7 l sats B p).1::(xb7 n (va7 l sats B p).2).1,(xb7 n (va7 l sats B p).2).2)
end
section
variable {l:List Int} {sats:Int} {B:List cb7}
theorem ob7 {n:Int}{p:Nat×Bool}(h:p.2=true):(ea7 l n p).2=p:=by
 unfold ea7 ib7
 split
 ·rfl
 ·simp only[h,true_or,if_true];rw[← h]
theorem vb7 {n:Int}{u u':Nat}{x:Int}(h:za7 l n u=some (x,u')):ea7 l n (u,false)=(x,u',false):=by
 unfold za7 at h
 unfold ea7 ib7
 split at h
 ·rename_i h1
  simp only[Option.some.injEq,Prod.mk.injEq]at h
  rw[if_pos h1,h.1,h.2]
 ·rename_i h1
  split at h
  ·rename_i h2
   simp only[Option.some.injEq,Prod.mk.injEq]at h
   rw[if_neg h1,if_neg (by simp;omega)]
   simp only[h.1,h.2]
  ·cases h
theorem sa7 {n:Int}{u:Nat}(hu:u≤l.length) (h:za7 l n u=none):(ea7 l n (u,false)).2=(l.length,true):=by
 unfold za7 at h
 unfold ea7 ib7
 split at h
 ·cases h
 ·rename_i h1
  split at h
  ·cases h
  ·rename_i h2
   rw[if_neg h1,if_pos (.inr (by simp;omega))]
   simp only[Prod.mk.injEq,and_true];omega
theorem je7 {n:Int}{u u':Nat}{x:Int}(hu:u≤l.length) (h:za7 l n u=some (x,u')):u'≤l.length:=by
 unfold za7 at h
 split at h
 ·simp only[Option.some.injEq,Prod.mk.injEq]at h;omega
 ·split at h
  ·simp only[Option.some.injEq,Prod.mk.injEq]at h;omega
  ·cases h
theorem ck7 {k a b:Int}{p:Nat×Bool}(h:p.2=true):(xg7 l B k a b p).2=p:=by
 unfold xg7
 simp only
 rw[ob7 (by rw[ob7 h];exact h),ob7 h]
theorem xv7 {k a:Int}{p:Nat×Bool}(h:p.2=true):(mfb7 l sats B k a p).2=p:=by
 unfold mfb7
 split
 ·exact ob7 h
 ·split
  ·exact ck7 h
  ·rw[ck7 (by rw[ob7 h];exact h),ob7 h]
theorem om7 {k a b:Int}{u:Nat}(hu:u≤l.length):(match ue7 l B k a b u with | some (m,u')=>xg7 l B k a b (u,false)=(m,u',false)∧u'≤l.length | none=>(xg7 l B k a b (u,false)).2=(l.length,true)):=by
 unfold ue7
 cases h1:za7 l (ia7 B a) u with
 | none=>simp only[xg7];rw[ob7 (by rw[sa7 hu h1]),sa7 hu h1]
 | some r =>
  obtain⟨i,v⟩:=r
  have hv:=je7 hu h1
  simp only
  cases h2:za7 l (ia7 B b+1) v with
  | none=>simp only[xg7];rw[vb7 h1,sa7 hv h2]
  | some r =>
   obtain⟨j,v'⟩:=r
   simp only[xg7]
   rw[vb7 h1,vb7 h2]
   exact⟨rfl,je7 hv h2⟩
theorem ji7 {u:Nat}(hu:u≤l.length):(match zd7 l sats B u with | some (m,u')=>va7 l sats B (u,false)=(m,u',false)∧u'≤l.length | none=>(va7 l sats B (u,false)).2=(l.length,true)):=by
 unfold zd7
 cases h1:za7 l 6 u with
 | none =>
  simp only[va7]
  rw[xv7 (by rw[ob7 (by rw[sa7 hu h1]),sa7 hu h1]),ob7 (by rw[sa7 hu h1]),sa7 hu h1]
 | some r =>
  obtain⟨k,v⟩:=r
  have hv:=je7 hu h1
  simp only[va7]
  rw[vb7 h1]
  cases h2:za7 l B.length v with
  | none=>simp only;rw[xv7 (by rw[sa7 hv h2]),sa7 hv h2]
  | some r =>
   obtain⟨a,w⟩:=r
   have hw:=je7 hv h2
   simp only
   rw[vb7 h2]
   simp only[mfb7]
   by_cases hk:k=5
   ·simp only[hk,if_true]
    cases h3:za7 l sats w with
    | none=>simp only;rw[sa7 hw h3]
    | some r=>obtain⟨b,z⟩:=r;simp only;rw[vb7 h3];exact⟨rfl,je7 hw h3⟩
   ·simp only[if_neg hk]
    by_cases h2:k=2
    ·simp only[h2,if_true];exact om7 hw
    ·simp only[if_neg h2]
     cases h3:za7 l (B.length+1) w with
     | none=>simp only;rw[ck7 (by rw[sa7 hw h3]),sa7 hw h3]
     | some r=>obtain⟨b,z⟩:=r;simp only;rw[vb7 h3];exact om7 (je7 hw h3)
theorem ot7 {k a:Int}{u u1 u2:Nat}(e1:za7 l 6 u=some (k,u1)) (e2:za7 l B.length u1=some (a,u2)) (h5:¬k=5) (h2:k=2):zd7 l sats B u=ue7 l B k a a u2:=by
 unfold zd7;rw[e1];simp only;rw[e2];simp only[if_neg h5,if_pos h2]
theorem rs7 {k a b:Int}{u u1 u2 u3:Nat}(e1:za7 l 6 u=some (k,u1)) (e2:za7 l B.length u1=some (a,u2)) (h5:¬k=5) (h2:¬k=2) (e3:za7 l (B.length+1) u2=some (b,u3)):zd7 l sats B u=ue7 l B k a b u3:=by
 unfold zd7;rw[e1];simp only;rw[e2];simp only[if_neg h5,if_neg h2];rw[e3]
theorem mu7 {k a b:Int}{u:Nat}(e:za7 l (ia7 B a) u=none):ue7 l B k a b u=none:=by unfold ue7;rw[e]
theorem gu7 {k a b i:Int}{u u1:Nat}(e:za7 l (ia7 B a) u=some (i,u1)) (e2:za7 l (ia7 B b+1) u1=none):ue7 l B k a b u=none:=by unfold ue7;rw[e];simp only;rw[e2]
theorem cw7 {k a b i j:Int}{u u1 u2:Nat}(e:za7 l (ia7 B a) u=some (i,u1)) (e2:za7 l (ia7 B b+1) u1=some (j,u2)):ue7 l B k a b u=some (⟨k,a,i,b,j⟩,u2):=by unfold ue7;rw[e];simp only;rw[e2]
theorem tp7:∀(n:Nat) {u:Nat},u≤l.length→xb7 l sats B n (u,false)=((hb7 l sats B n u).1,(hb7 l sats B n u).2.1, !(hb7 l sats B n u).2.2)
 | 0,u,_=>rfl
 | n+1,u,hu=>by
  have h:=ji7 (sats:=sats) (B:=B) hu
  unfold xb7 hb7
  cases hd:zd7 l sats B u with
  | none=>rw[hd]at h;simp only at h;simp only[h,if_true,Bool.not_false]
  | some r =>
   obtain⟨m,v⟩:=r
   rw[hd]at h
   simp only at h
   simp only[h.1,Bool.false_eq_true,if_false]
   rw[tp7 n h.2]
end
def eBs (B:List cb7):AV:=.sl B.length 2 (fun i=>ix2 (I6 (B.getD i ⟨0,[]⟩).sat) (mbb7 (B.getD i ⟨0,[]⟩).stops))
def ee7 (m:MoveD):RV:=.agg [I6 m.kind,I6 m.a,I6 m.i,I6 m.b,I6 m.j]
theorem dj7 [Pan] {P:Program}{g:Option Nat}{f:FuncId}{args:List RV}{H:List Root}{K:RV→List Root→Prop}(h:ga7 P (some g) f args H K):ga7 P none f args H K :=
 ⟨h.1,fun E M w vs hr hc=>(h.2 E M w vs hr hc).mono fun _ _ hh=>hh.imp (fun ⟨M',H',r,v,e1,e2,e3,e4,_,e6,e7⟩=>⟨M',H',r,v,e1,e2,e3,e4,fun _ e=>(by cases e),e6,e7⟩) id⟩
theorem od7 {l:List Int}{n:Int}{u u':Nat}{x:Int}(hu:u≤l.length) (h:za7 l n u=some (x,u')):(0≤x∧(x<n∨x=0))∧u'≤l.length:=by
 refine⟨?_,je7 hu h⟩
 unfold za7 at h
 split at h
 ·simp only[Option.some.injEq,Prod.mk.injEq]at h;omega
 ·split at h
  ·simp only[Option.some.injEq,Prod.mk.injEq]at h
   have e1:=Int.emod_nonneg (l.getD u 0) (show n≠0 by omega)
   have e2:=Int.emod_lt_of_pos (l.getD u 0) (show 0<n by omega)
   unfold ct7 at h;omega
  ·cases h
section
variable [Pan] {A B C D F:Root} {S:List Root} {l:List Int} {u:Nat}
theorem xp7 {n:Int}{K:RV→List Root→Prop}(hl:l.length≤1000000) (hu:u≤l.length) (hr:∀i,0≤l.getD i 0∧l.getD i 0≤4294967295) (hn:n≤1000000)
  (hK:∀x u',za7 l n u=some (x,u')→K (.c (I6 x)) (A::B::C::D::F::qa7 l u'::S))
  (hP:za7 l n u=none→Pan.px nc7 (A::B::C::D::F::qa7 l u::S)) :
  ga7 Tryz.prog (some (some 5)) 121 [.c (.ptr 5 1 0 0),.c (I6 n)] (A::B::C::D::F::qa7 l u::S) K:=by
 have q0:n<1→za7 l n u=some (0,u):=fun h=>by unfold za7;rw[if_pos h]
 have q1:1≤n→u<l.length→za7 l n u=some (ct7 (l.getD u 0) n,u+1):=fun h h2=>by unfold za7;rw[if_neg (by omega),if_pos h2]
 have q2:1≤n→¬u<l.length→za7 l n u=none:=fun h h2=>by unfold za7;rw[if_neg (by omega),if_neg h2]
 refine ae7 (fun _=>trivial) (k:=5) (t:=214) (sz:=2) (l:=[eU l,I6 u]) rfl rfl rfl ?_
 refine @ueb7 (vhb7 5 214 2 (A::B::C::D::F::qa7 l u::S)) [.dead,.dead,.dead,.dead,.dead] (S.map fun _=>.dead) l u n _ hl hu hr hn (fun h=>⟨rfl,[eU l,I6 u],rfl,rfl,hK _ _ (q0 h)⟩) (fun h1 h=>⟨rfl,[eU l,I6 (u+1:Nat)],rfl,rfl,hK _ _ (q1 h1 h)⟩) (fun h1 h=>⟨rfl,[eU l,I6 u],rfl,rfl,hP (q2 h1 h)⟩)
end
theorem ggb7 {B:List cb7}{i:Int}(hi:0≤i):cf7 Tryz.prog 122 [.c (I6 i),.c (.rp 1 fun j=>nth [eBs B] j)] (fun r=>r = .c (I6 (ia7 B i))):=by
 obtain⟨k,rfl⟩:=Int.eq_ofNat_of_zero_le hi
 refine jj7 bc7 (by kernel_rfl) (fun _=>([],0,none)) Tryz.func122 rfl (by kernel_rfl) Tryz.ntmps122 (congrArg Array.toList Tryz.results122) (by kernel_rfl) (by simp) ?_
 simp -implicitDefEqProofs only [go_sem,eBs]
 unfold ia7
 exact⟨fun h=>⟨⟨hi,h⟩,by rw[if_pos h];rfl⟩,fun h=>by rw[if_neg h]⟩
def cs7:Tw:=.br 0 4 (.br 7 5 (.br 0 10 (.br 0 11 (.br 7 12 (.br 0 13 (.d) .no) (.br 0 13 (.br 7 12 (.d) .no) .no)) (.br 0 13 (.br 0 11 (.br 7 12 (.d) .no) .no) .no)) (.br 0 13 (.br 0 10 (.br 0 11 (.br 7 12 (.d) .no) .no) .no) .no)) .no) .no
theorem xf7 (B:List cb7) (i:Int):0≤ia7 B i:=by unfold ia7;split <;> omega
theorem ec7 {l:List Int}{n:Int}{u:Nat}(hu:u≤l.length) (h:za7 l n u=none):u=l.length:=by
 unfold za7 at h
 split at h
 ·cases h
 ·split at h
  ·cases h
  ·omega
theorem qv7 [Pan] {pu:Pu}{H:List Root}{B:List cb7}{i:Int}{K:RV→List Root→Prop}(hi:0≤i) (h8:aa7 H 8 = .live false 35 1 (.box [eBs B])) (hK:K (.c (I6 (ia7 B i))) H):ga7 Tryz.prog pu 122 [.c (I6 i),.c (.ptr 8 1 0 0)] H K:=by
 refine hab7 (ggb7 hi) ?_ ?_ (fun r h=>by subst h;rfl) (fun r h=>by subst h;exact hK)
 ·simp[zg7,lo7,hl7,h8,frL,AV.fr,eBs]
 ·simp[jq7,cdb7,sw7,h8]
section
variable [Pan] {A B C D F G1 G2:Root} {l:List Int} {u:Nat} {sats:Int} {Bk:List cb7}
theorem akb7 {K:RV→List Root→Prop}(hl:l.length≤1000000) (hu:u≤l.length) (hr:∀i,0≤l.getD i 0∧l.getD i 0≤4294967295) (hs:0≤sats∧sats≤1000) (hB:Bk.length≤1000∧∀i,ia7 Bk i≤1000)
  (hK:∀m u',zd7 l sats Bk u=some (m,u')→∀S,K (ee7 m) (A::B::C::D::F::qa7 l u'::G1::G2::S))
  (hP:zd7 l sats Bk u=none→∀S,Pan.px nc7 (A::B::C::D::F::qa7 l l.length::G1::G2::S)) :
  ga7 Tryz.prog none 48 [.c (.ptr 5 1 0 0),.c (I6 sats),.c (eBs Bk)] [A,B,C,D,F,qa7 l u,G1,G2] K:=by
 refine db7 bc7 (by kernel_rfl) (fun n=>match n with | 11=>([0,1,2,3,6,7,8,9],0,some (.t [5] cs7 [14,15,16] [14,15,16])) | _=>([],0,none)) Tryz.func48 rfl (by kernel_rfl) Tryz.ntmps48 (congrArg Array.toList Tryz.results48) (by kernel_rfl) (by simp) ?_
 have hb:∃n f,eBs Bk = .sl n 2 f∧n=Bk.length:=⟨_,_,rfl,rfl⟩
 simp -implicitDefEqProofs only [go_sem]
 refine⟨rfl,dj7 (xp7 hl hu hr (by decide) (fun k u1 e1=>?_) (fun e1=>?_))⟩
 rotate_left
 ·have:=ec7 hu e1;subst this
  exact hP (by unfold zd7;rw[e1]) _
 obtain⟨r1,hu1⟩:=od7 hu e1
 simp -implicitDefEqProofs only [go_sem,eBs]
 refine dj7 (xp7 hl hu1 hr (by omega) (fun a u2 e2=>?_) (fun e2=>?_))
 rotate_left
 ·have:=ec7 hu1 e2;subst this
  exact hP (by unfold zd7;rw[e1];simp only;rw[e2]) _
 obtain⟨r2,hu2⟩:=od7 hu1 e2
 simp -implicitDefEqProofs only [go_sem]
 refine⟨fun hk=>?_,fun hk=>?_⟩
 ·refine dj7 (xp7 hl hu2 hr (by omega) (fun b u3 e3=>?_) (fun e3=>?_))
  rotate_left
  ·have:=ec7 hu2 e3;subst this
   exact hP (by unfold zd7;simp only[e1,e2,hk,if_true,e3]) _
  simp -implicitDefEqProofs only [go_sem]
  exact hK ⟨k,a,0,b,0⟩ u3 (by unfold zd7;simp only[e1,e2,hk,if_true,e3]) _
 refine⟨fun hk2=>?_,fun hk2=>?_⟩
 ·have hn1:za7 l (ia7 Bk a) u2=none→∀S,Pan.px nc7 (A::B::C::D::F::qa7 l u2::G1::G2::S):=fun e=>by
   have:=ec7 hu2 e
   have e':=hP ((ot7 e1 e2 hk hk2).trans (mu7 e))
   rw[← this]at e';exact e'
  have hn2:∀i u4,za7 l (ia7 Bk a) u2=some (i,u4)→za7 l (ia7 Bk a+1) u4=none→∀S,Pan.px nc7 (A::B::C::D::F::qa7 l u4::G1::G2::S):=fun i u4 f1 f2=>by
   have:=ec7 (od7 hu2 f1).2 f2
   have e':=hP ((ot7 e1 e2 hk hk2).trans (gu7 f1 f2))
   rw[← this]at e';exact e'
  have hy:∀i u4 j u5,za7 l (ia7 Bk a) u2=some (i,u4)→za7 l (ia7 Bk a+1) u4=some (j,u5)→∀S,K (ee7 ⟨k,a,i,a,j⟩) (A::B::C::D::F::qa7 l u5::G1::G2::S):=fun i u4 j u5 f1 f2 =>
   hK _ _ ((ot7 e1 e2 hk hk2).trans (cw7 f1 f2))
  have hla:ia7 Bk a≤1000000:=by have:=hB.2 a;omega
  have hlb:ia7 Bk a+1≤1000000:=by have:=hB.2 a;omega
  have hlw:-9223372036854775808≤ia7 Bk a+1∧ia7 Bk a+1≤9223372036854775807:=by have:=hB.2 a;have:=xf7 Bk a;omega
  have h5:ihb7 (qa7 l u2):=⟨rfl,Nat.zero_lt_one⟩
  refine⟨h5, ?_⟩
  simp -implicitDefEqProofs only [go_sem,cs7]
  repeat' first
   | exact hy _ _ _ _ (by assumption) (by assumption) _
   | exact hn1 (by assumption) _
   | exact hn2 _ _ (by assumption) (by assumption) _
   | (refine qv7 (B:=Bk) r2.1 rfl ?_;simp -implicitDefEqProofs only [go_sem,qa7])
   | (refine qv7 (B:=Bk) r2.1 rfl ?_;simp -implicitDefEqProofs only [go_sem,qa7])
   | (refine xp7 (n:=ia7 Bk a) hl hu2 hr hla (fun i u4 f1=>?_) (fun f1=>hn1 f1 _);simp -implicitDefEqProofs only [go_sem,qa7])
   | (refine xp7 (n:=ia7 Bk a+1) hl (od7 hu2 (by assumption)).2 hr hlb (fun j u5 f2=>?_) (fun f2=>hn2 _ _ (by assumption) f2 _);simp -implicitDefEqProofs only [go_sem,qa7])
   | exact hlw
   | rfl
   | exact Nat.zero_lt_one
   | exact trivial
   | refine⟨?_, ?_⟩
 ·refine⟨by omega,dj7 (xp7 (n:=(Bk.length:Int)+1) hl hu2 hr (by omega) (fun b u3 e3=>?_) (fun e3=>?_))⟩
  rotate_left
  ·have:=ec7 hu2 e3;subst this
   exact hP (by unfold zd7;simp only[e1,e2,if_neg hk,if_neg hk2,e3]) _
  obtain⟨r3,hu3⟩:=od7 hu2 e3
  simp -implicitDefEqProofs only [go_sem]
  have hn1:za7 l (ia7 Bk a) u3=none→∀S,Pan.px nc7 (A::B::C::D::F::qa7 l u3::G1::G2::S):=fun e=>by
   have:=ec7 hu3 e
   have e':=hP ((rs7 e1 e2 hk hk2 e3).trans (mu7 e))
   rw[← this]at e';exact e'
  have hn2:∀i u4,za7 l (ia7 Bk a) u3=some (i,u4)→za7 l (ia7 Bk b+1) u4=none→∀S,Pan.px nc7 (A::B::C::D::F::qa7 l u4::G1::G2::S):=fun i u4 f1 f2=>by
   have:=ec7 (od7 hu3 f1).2 f2
   have e':=hP ((rs7 e1 e2 hk hk2 e3).trans (gu7 f1 f2))
   rw[← this]at e';exact e'
  have hy:∀i u4 j u5,za7 l (ia7 Bk a) u3=some (i,u4)→za7 l (ia7 Bk b+1) u4=some (j,u5)→∀S,K (ee7 ⟨k,a,i,b,j⟩) (A::B::C::D::F::qa7 l u5::G1::G2::S):=fun i u4 j u5 f1 f2 =>
   hK _ _ ((rs7 e1 e2 hk hk2 e3).trans (cw7 f1 f2))
  have hla:ia7 Bk a≤1000000:=by have:=hB.2 a;omega
  have hlb:ia7 Bk b+1≤1000000:=by have:=hB.2 b;omega
  have hlw:-9223372036854775808≤ia7 Bk b+1∧ia7 Bk b+1≤9223372036854775807:=by have:=hB.2 b;have:=xf7 Bk b;omega
  have h5:ihb7 (qa7 l u3):=⟨rfl,Nat.zero_lt_one⟩
  refine⟨h5, ?_⟩
  simp -implicitDefEqProofs only [go_sem,cs7]
  repeat' first
   | exact hy _ _ _ _ (by assumption) (by assumption) _
   | exact hn1 (by assumption) _
   | exact hn2 _ _ (by assumption) (by assumption) _
   | (refine qv7 (B:=Bk) r2.1 rfl ?_;simp -implicitDefEqProofs only [go_sem,qa7])
   | (refine qv7 (B:=Bk) r3.1 rfl ?_;simp -implicitDefEqProofs only [go_sem,qa7])
   | (refine xp7 (n:=ia7 Bk a) hl hu3 hr hla (fun i u4 f1=>?_) (fun f1=>hn1 f1 _);simp -implicitDefEqProofs only [go_sem,qa7])
   | (refine xp7 (n:=ia7 Bk b+1) hl (od7 hu3 (by assumption)).2 hr hlb (fun j u5 f2=>?_) (fun f2=>hn2 _ _ (by assumption) f2 _);simp -implicitDefEqProofs only [go_sem,qa7])
   | exact hlw
   | rfl
   | exact Nat.zero_lt_one
   | exact trivial
   | refine⟨?_, ?_⟩
end
end Go.Proofs.YtabadfkikdefeaaGreat.Ab
namespace Go.Proofs.YtabadfkikdefeaaGreat
open Go.RowKit
def bp7:Shape Ab.MoveD:=wc7 5 (fun x cs=>cs=[.int .i64 x.kind,.int .i64 x.a,.int .i64 x.i,.int .i64 x.b,.int .i64 x.j]) (by rintro x cs rfl;rfl)
theorem vz7:∀w,(sizeOf 110).run Tryz.prog w = .ok 5 w:=fun w=>by kernel_rfl
theorem jm7 {w:World}{F:Nat→Prop}{xs:List Ab.MoveD}{cs:List Value}(h:(ua7 bp7).rep w F xs cs) :
  ∃(a:Option Addr) (b off c:Nat),cs=[.slice a xs.length c]∧xs.length≤c∧c≤9223372036854775807∧(0<xs.length→a=some ⟨b,off,none⟩)∧(0<xs.length→F b) ∧
   ∀k (h:k<xs.length),w.cell? ⟨b,off+k*5,none⟩=some (.int .i64 xs[k].kind)∧w.cell? ⟨b,off+k*5+1,none⟩=some (.int .i64 xs[k].a)∧w.cell? ⟨b,off+k*5+2,none⟩=some (.int .i64 xs[k].i)∧w.cell? ⟨b,off+k*5+3,none⟩=some (.int .i64 xs[k].b)∧w.cell? ⟨b,off+k*5+4,none⟩=some (.int .i64 xs[k].j):=by
 obtain⟨a,b,off,c,rfl,h1,h2,h3,h4⟩:=h
 refine⟨a,b,off,c,rfl,h1,h2,fun h=>(h3 h).1,fun h=>(h3 h).2,fun k hk=>?_⟩
 obtain⟨es,rfl,hc⟩:=h4 k hk
 have e0:=hc 0 (by decide)
 have e1:=hc 1 (by decide)
 have e2:=hc 2 (by decide)
 have e3:=hc 3 (by decide)
 have e4:=hc 4 (by decide)
 exact⟨by simpa[bp7,wc7]using e0,by simpa[bp7,wc7]using e1,by simpa[bp7,wc7]using e2,by simpa[bp7,wc7]using e3,by simpa[bp7,wc7]using e4⟩
theorem dy7 {w:World}{F G:Nat→Prop}{xs ys:List Ab.MoveD}{u v:Value}(h:(ua7 bp7).rep w F xs [u]) (h':(ua7 bp7).rep w G ys [v]) :
  Calls Tryz.prog 51 #[u,v] w fun e w'=>e = .returned (.bool (decide (xs=ys)))∧∃n,w'=w.drewN n:=by
 obtain⟨a,b,off,c,hs,hlc,hc,ha,-,hcell⟩:=jm7 h
 obtain⟨a',b',off',c',hs',hlc',hc',ha',-,hcell'⟩:=jm7 h'
 obtain rfl:=List.cons.inj hs |>.1
 obtain rfl:=List.cons.inj hs' |>.1
 clear hs hs' h h'
 by_cases hl:xs.length=ys.length
 ·have hl2:((xs.length:Int)==(ys.length:Int))=true:=by simp[hl]
  have hl3:((xs.length:Int) != (ys.length:Int))=false:=by simp[hl]
  have HL:=hid hl
  clear hl
  go_enter Tryz.func51,Tryz.ntmps51
  go_wp2
  go_loopw [5,13] (fun t i wr=>∃k:Nat,k≤xs.length∧i = .int .i64 k∧xs.take k=ys.take k∧∃n,wr=w.drewN n)
   (fun _ i _=>xs.length-(intOf i).toNat)
  case atStart=>exact⟨0,Nat.zero_le _,rfl,rfl,0,rfl⟩
  case round =>
   obtain⟨k,hk,rfl,ht,nd,rfl⟩:=hrel
   by_cases hlt:k<xs.length
   ·have hlt':k<ys.length:=by have:=HL.out;omega
    obtain⟨g0,g1,g2,g3,g4⟩:=hcell k hlt
    obtain⟨f0,f1,f2,f3,f4⟩:=hcell' k hlt'
    have hx:=hm7 (c:=c) Tryz.underlying104 vz7 (ha (by omega)) hlt
    have hx':=hm7 (c:=c') Tryz.underlying104 vz7 (ha' (by omega)) hlt'
    have HT:=hid ht
    clear hcell hcell' ha ha' ht
    cases h1:(xs[k].kind==ys[k].kind) <;> cases h2:(xs[k].a==ys[k].a) <;> cases h3:(xs[k].i==ys[k].i) <;> cases h4:(xs[k].b==ys[k].b) <;> cases h5:(xs[k].j==ys[k].j)
    case true.true.true.true.true =>
     have HE:=hid (show xs[k]=ys[k] from by
      have e1:=eq_of_beq h1
      have e2:=eq_of_beq h2
      have e3:=eq_of_beq h3
      have e4:=eq_of_beq h4
      have e5:=eq_of_beq h5
      cases h6:xs[k];cases h7:ys[k];simp_all)
     go_wp2
     go_quiet (fail)
     go_wp2
     go_roundw
     case rel=>exact⟨k+1,by omega,by go_num,nf7 hlt hlt' HT.out HE.out,_,by first | rfl | exact World.drewN_drewN _ _ _⟩
     case measure=>simp[intOf];omega
    all_goals
     have HE:=hid (show ¬xs[k]=ys[k] from by intro e;rw[e]at h1 h2 h3 h4 h5;simp at h1 h2 h3 h4 h5)
     go_wp2
     go_quiet (fail)
     go_wp2
     go_ret
     exact⟨yc7 (decide_eq_false (yk7 hlt hlt' HE.out)).symm,_,by first | rfl | exact World.drewN_drewN _ _ _⟩
   ·have hke:k=xs.length:=by omega
    subst hke
    have HT:=hid ht
    clear hcell hcell' ha ha' ht
    go_wp2
    go_ret
    exact⟨yc7 (decide_eq_true (fi7 HL.out HT.out)).symm,nd,rfl⟩
 ·have hl2:((xs.length:Int)==(ys.length:Int))=false:=by simp;omega
  have hl3:((xs.length:Int) != (ys.length:Int))=true:=by simp;omega
  have HL:=hid hl
  clear hl hcell hcell' ha ha'
  go_enter Tryz.func51,Tryz.ntmps51
  go_wp2
  go_ret
  exact⟨yc7 (decide_eq_false (fun e=>HL.out (by rw[e]))).symm,0,rfl⟩
end Go.Proofs.YtabadfkikdefeaaGreat
namespace Go.Proofs.YtabadfkikdefeaaGreat.Ab
open Go.RowKit
abbrev eBy (l:List Int):AV:=.sl l.length 1 (fun i _=>.int .u8 (l.getD i 0))
def mvL (m:MoveD):List AV:=[I6 m.kind,I6 m.a,I6 m.i,I6 m.b,I6 m.j]
def mv0:MoveD:=⟨0,0,0,0,0⟩
abbrev ysb7 (l:List MoveD):AV:=.sl l.length 5 (fun i j=>nth (mvL (l.getD i mv0)) j)
theorem zb7 {l:List Int}(hl:l.length≤40) (hw:∀x∈l,0≤x∧x≤255):cf7 Tryz.prog 49 [.c (eBy l)] (fun r=>r = .c (eBs (oc7 l l.length))) :=
 yi7 ⟨_,_,Tryz.func49,by kernel_rfl,rfl⟩ fun rho w vs hcv=>by
  obtain⟨_,_,rfl,h1,rfl⟩:=hcv
  refine (dz7 (bs (e:=fun (x:Int) _=>.int .u8 x) (0:Int) vub7 h1 hw) hl).mono ?_
  rintro e w' ⟨v',vs,rfl,hB,hb⟩
  have hrep:=hB.rep fun b hb=>by
   obtain⟨h1,h2,h3⟩:=ek7 l l.length b hb
   exact⟨by unfold nb7;omega,fun s hs=>by have:=h3 s hs;unfold nb7;omega⟩
  exact⟨_,_,rfl,rfl,fs (e:=fun (x:cb7)=>ix2 (I6 x.sat) (mbb7 x.stops)) (⟨0,[]⟩:cb7) snb7 (ufb7.lt hrep),hb⟩
theorem jfb7:Bwd bp7 (fun x j=>nth (mvL x) j) (fun _=>True):=by
 intro w F x cs hl h ho
 match cs,hl with
 | [a,b,c,d,e],_ =>
  obtain⟨a',h1,k1⟩:=h 0 (by decide)
  obtain⟨b',h2,k2⟩:=h 1 (by decide)
  obtain⟨c',h3,k3⟩:=h 2 (by decide)
  obtain⟨d',h4,k4⟩:=h 3 (by decide)
  obtain⟨e',h5,k5⟩:=h 4 (by decide)
  cases h1;cases h2;cases h3;cases h4;cases h5
  show [a,b,c,d,e]=_
  rw[show a = .int .i64 x.kind from k1,show b = .int .i64 x.a from k2,show c = .int .i64 x.i from k3,show d = .int .i64 x.b from k4,show e = .int .i64 x.j from k5]
theorem qz7 {xs ys:List MoveD}:cf7 Tryz.prog 51 [.c (ysb7 xs),.c (ysb7 ys)] (fun r=>r = .c (.bool (decide (xs=ys)))) :=
 yi7 ⟨_,_,Tryz.func51,by kernel_rfl,rfl⟩ fun rho w vs hcv=>by
  obtain⟨_,_,rfl,h1,_,_,rfl,h2,rfl⟩:=hcv
  refine (dy7 (bs (e:=fun (x:MoveD) j=>nth (mvL x) j) mv0 jfb7 h1 fun _ _=>trivial) (bs (e:=fun (x:MoveD) j=>nth (mvL x) j) mv0 jfb7 h2 fun _ _=>trivial)).mono ?_
  rintro e w' ⟨rfl,n,rfl⟩
  exact⟨_,_,rfl,rfl,rfl,below_drewN (Below.refl _ _) n⟩
section
variable [Pan] {A B C D F G1 G2:Root} {l:List Int} {u:Nat} {sats:Int} {Bk:List cb7}
theorem by7 {K:RV→List Root→Prop}(hl:l.length≤1000000) (hu:u≤l.length) (hr:∀i,0≤l.getD i 0∧l.getD i 0≤4294967295) (hs:0≤sats∧sats≤1000) (hB:Bk.length≤1000∧∀i,ia7 Bk i≤1000)
  (hK:∀m u',zd7 l sats Bk u=some (m,u')→K (ee7 m) [A,B,C,D,F,qa7 l u',G1,G2])
  (hP:zd7 l sats Bk u=none→Pan.px nc7 [A,B,C,D,F,qa7 l l.length,G1,G2]) :
  ga7 Tryz.prog (some (some 5)) 48 [.c (.ptr 5 1 0 0),.c (I6 sats),.c (eBs Bk)] [A,B,C,D,F,qa7 l u,G1,G2] K:=by
 refine ae7 (fun _=>trivial) (k:=5) (t:=214) (sz:=2) (l:=[eU l,I6 u]) rfl rfl rfl ?_
 exact @akb7 (vhb7 5 214 2 [A,B,C,D,F,qa7 l u,G1,G2]) .dead .dead .dead .dead .dead .dead .dead l u sats Bk _ hl hu hr hs hB (fun m u' e S=>⟨rfl,[eU l,I6 u'],rfl,rfl,hK m u' e⟩) (fun e S=>⟨rfl,[eU l,I6 l.length],rfl,rfl,hP e⟩)
end
abbrev zab7 (l:List Int):Root:=.live false 24 1 (.box [eBy l])
abbrev aab7 (s:Int):Root:=.live false 5 1 (.box [.int .u8 s])
abbrev fbb7 (a:AV):Root:=.live false 104 1 (.box [a])
def sr7 (n:Nat):List MoveD→AV
 | []=>.nils
 | m::ms=>.h n 0 (ms.length+1)
def qr7:List MoveD→Root
 | []=>.dead
 | m::ms=>.live false 110 5 (.gen (mvL m::ms.map mvL))
theorem lmb7 {l:List Int}(hl:l.length≤40) (i:Int):ia7 (oc7 l l.length) i≤1000:=by
 unfold ia7
 split
 ·have hm:(oc7 l l.length).getD i.toNat ⟨0,[]⟩∈oc7 l l.length∨(oc7 l l.length).getD i.toNat ⟨0,[]⟩=⟨0,[]⟩:=by
   rw[List.getD_eq_getElem?_getD]
   cases h:(oc7 l l.length)[i.toNat]? with
   | none=>exact .inr rfl
   | some b=>exact .inl (List.mem_of_getElem? h)
  rcases hm with hm | hm
  ·have:=(ek7 l l.length _ hm).2.1;omega
  ·rw[hm];simp
 ·omega
theorem dn7 {l:List Int}{sats:Int}{B:List cb7}{ms:List MoveD}{u u':Nat}{m:MoveD}(h1:ms.length<3) (h3:hb7 l sats B 3 0=(ms++(hb7 l sats B (3-ms.length) u).1,(hb7 l sats B (3-ms.length) u).2)) (e:zd7 l sats B u=some (m,u')) :
  hb7 l sats B 3 0=((ms++[m])++(hb7 l sats B (3-(ms++[m]).length) u').1,(hb7 l sats B (3-(ms++[m]).length) u').2):=by
 rw[h3,List.length_append,List.length_singleton,show 3-ms.length=(3-(ms.length+1))+1 by omega]
 have:hb7 l sats B (3-(ms.length+1)+1) u=(m::(hb7 l sats B (3-(ms.length+1)) u').1,(hb7 l sats B (3-(ms.length+1)) u').2):=by
  conv=>lhs;unfold hb7
  rw[e]
 rw[this];simp
theorem qm7 {l:List Int}{sats:Int}{B:List cb7}{ms:List MoveD}{u:Nat}(h1:ms.length<3) (h3:hb7 l sats B 3 0=(ms++(hb7 l sats B (3-ms.length) u).1,(hb7 l sats B (3-ms.length) u).2)) (e:zd7 l sats B u=none) :
  hb7 l sats B 3 0=(ms,l.length,false):=by
 rw[h3,show 3-ms.length=(3-(ms.length+1))+1 by omega]
 have:hb7 l sats B (3-(ms.length+1)+1) u=([],l.length,false):=by
  conv=>lhs;unfold hb7
  rw[e]
 rw[this];simp
theorem yv7 {l:List Int}{sats:Int}{B:List cb7}{m:MoveD}{u u':Nat}(hu:u≤l.length) (e:zd7 l sats B u=some (m,u')):u'≤l.length:=by
 have h:=ji7 (sats:=sats) (B:=B) hu
 rw[e]at h;exact h.2
theorem zlb7 [Pan] {l draws:List Int}{s:Int}{K:RV→List Root→Prop}(hl:l.length≤40) (hw:∀x∈l,0≤x∧x≤255) (hd:draws.length≤40) (hr:∀i,0≤draws.getD i 0∧draws.getD i 0≤4294967295) (hs:0≤s∧s≤255)
  (hE:∀ms u,hb7 draws (s % 4) (oc7 l l.length) 3 0=(ms,u,true)→∀r,K r [zab7 l,aab7 s,fbb7 (sr7 7 ms),ux7 0,nx7 false,qa7 draws u,vx7 5,qr7 ms])
  (hP:∀ms,hb7 draws (s % 4) (oc7 l l.length) 3 0=(ms,draws.length,false)→Pan.px nc7 [zab7 l,aab7 s,fbb7 (sr7 7 ms),ux7 0,nx7 false,qa7 draws draws.length,vx7 5,qr7 ms]) :
  ga7 Tryz.prog none 47 [.c (.ptr 5 1 0 0),.c (.ptr 2 1 0 0),.c (.ptr 1 1 0 0),.c (.ptr 0 1 0 0)] [zab7 l,aab7 s,fbb7 .nils,ux7 0,nx7 false,qa7 draws 0,vx7 5] K:=by
 refine db7 bc7 (by kernel_rfl) (fun n=>match n with | 2=>([0,1,2,3,4,5],0,some (.t [5] (.br 0 6 (.br 7 7 (.br 0 8 .d .no) .no) .no) [9,10] [9,10])) | _=>([],0,none)) Tryz.func47 rfl (by kernel_rfl) Tryz.ntmps47 (congrArg Array.toList Tryz.results47) (by kernel_rfl) (by simp) ?_
 simp -implicitDefEqProofs only [go_sem]
 refine zj7 (ι:=List MoveD×Nat) 1 [0,1,2,3] [5] (fun x=>x.1.length≤3∧x.2≤draws.length∧hb7 draws (s % 4) (oc7 l l.length) 3 0=(x.1++(hb7 draws (s % 4) (oc7 l l.length) (3-x.1.length) x.2).1,(hb7 draws (s % 4) (oc7 l l.length) (3-x.1.length) x.2).2))
  (fun x=>[.c (I6 x.1.length)]) (fun x=>[zab7 l,aab7 s,fbb7 (sr7 7 x.1),ux7 0,nx7 false,qa7 draws x.2,vx7 5,qr7 x.1]) (fun x=>3-x.1.length) (by kernel_rfl) ⟨([],0),⟨by decide,Nat.zero_le _,rfl⟩,rfl,rfl⟩ (fun x _=>rfl) ?_
 rintro⟨ms,u⟩ ⟨h1,h2,h3⟩
 simp only at h1 h2 h3
 have hB:=lmb7 hl
 have hBl:(oc7 l l.length).length≤1000:=by have:=bh7 l l.length;omega
 have e4:s.tmod 4=s % 4:=Int.tmod_eq_emod_of_nonneg hs.1
 rcases ms with _ | ⟨m0,ms⟩
 ·simp -implicitDefEqProofs only [go_sem,sr7,qr7]
  refine⟨fun hlt=>⟨⟨rfl,Nat.zero_lt_one⟩,by decide,by decide,by omega,by omega, ?_⟩,fun hge=>absurd (by decide) hge⟩
  refine id7 (zb7 hl hw) (by simp -implicitDefEqProofs only [go_sem]) rfl rfl ?_
  rintro r rfl
  simp -implicitDefEqProofs only [go_sem,e4]
  refine⟨⟨rfl,Nat.zero_lt_one⟩,by7 (by omega) h2 hr (by omega) ⟨hBl,hB⟩ (fun m u' e=>?_) (fun e=>?_)⟩
  ·simp -implicitDefEqProofs only [go_sem,ee7]
   exact⟨by decide,([m],u'),[9],⟨Nat.le_add_left 1 2,yv7 h2 e,dn7 (ms:=[]) (by decide) h3 e⟩,⟨rfl,by decide⟩,rfl,rfl,Nat.lt_add_one 2⟩
  ·exact hP [] (qm7 (ms:=[]) (by decide) h3 e)
 ·have hml:(m0::ms).length=ms.length+1:=rfl
  simp -implicitDefEqProofs only [go_sem,sr7,qr7]
  refine⟨fun hlt=>⟨⟨rfl,Nat.zero_lt_one⟩,by decide,by decide,by omega,by omega, ?_⟩,fun hge=>?_⟩
  ·refine id7 (zb7 hl hw) (by simp -implicitDefEqProofs only [go_sem]) rfl rfl ?_
   rintro r rfl
   simp -implicitDefEqProofs only [go_sem,e4]
   refine⟨⟨rfl,Nat.zero_lt_one⟩,by7 (by omega) h2 hr (by omega) ⟨hBl,hB⟩ (fun m u' e=>?_) (fun e=>?_)⟩
   ·simp -implicitDefEqProofs only [go_sem,ee7]
    have hll:(m0::ms++[m]).length=ms.length+1+1:=by simp
    refine⟨⟨by rw[List.length_map],by omega⟩,by omega,(m0::ms++[m],u'),[7],⟨by simp only[hll];omega,yv7 h2 e,dn7 (by omega) h3 e⟩,⟨rfl,by decide⟩, ?_, ?_,by simp only[hll];omega⟩
    ·simp only[hll];rfl
    ·simp only[List.cons_append,List.map_append,List.length_append,List.map_cons,List.map_nil,List.length_cons,List.length_nil];rfl
   ·exact hP (m0::ms) (qm7 (by omega) h3 e)
  ·refine hE (m0::ms) u ?_ _
   rw[h3,show 3-(m0::ms).length=0 by omega]
   simp[hb7]
def dc7 (l:List Int) (p:Nat×Bool):Root:=.live false 116 3 (.box [eU l,I6 p.1,.bool p.2])
section
variable [Pan] {R S:List Root} {l:List Int} {p:Nat×Bool}
theorem jhb7 {K:RV→List Root→Prop}(hl:l.length≤1000000) (hu:p.1≤l.length) (hK:K (.c (.int .u32 (ib7 l p).1)) (R++dc7 l (ib7 l p).2::S)) :
  ga7 Tryz.prog none 177 [.c (.ptr R.length 1 0 0)] (R++dc7 l p::S) K:=by
 obtain⟨n,o⟩:=p
 simp only at hu
 refine db7 bc7 (by kernel_rfl) (fun n=>match n with | 1=>([],0,none) | 6=>([],0,none) | _=>([],0,none)) Tryz.func177 rfl (by kernel_rfl) Tryz.ntmps177 (congrArg Array.toList Tryz.results177) (by kernel_rfl) (by simp) ?_
 simp -implicitDefEqProofs only [go_sem,dc7,di7,og7]
 refine⟨fun h=>?_,fun h=>⟨fun ho=>?_,fun ho=>⟨by omega,by omega,by omega, ?_⟩⟩⟩
 ·have e:ib7 l (n,o)=(0,n,true):=if_pos (.inr (by simp only;omega))
  rw[e]at hK;exact hK
 ·subst ho
  have e:ib7 l (n,true)=(0,n,true):=if_pos (.inl rfl)
  rw[e]at hK;exact hK
 ·subst ho
  have e:ib7 l (n,false)=(l.getD n 0,n+1,false):=if_neg (by simp only[Bool.false_eq_true,false_or];omega)
  rw[e]at hK
  rw[show ((n:Int)+1-1).toNat=n by omega,show (n:Int)+1=((n+1:Nat):Int) by omega];exact hK
theorem ik7 (hu:p.1≤l.length) (hr:∀i,0≤l.getD i 0∧l.getD i 0≤4294967295):(0≤(ib7 l p).1∧(ib7 l p).1≤4294967295)∧(ib7 l p).2.1≤l.length:=by
 unfold ib7
 split
 ·exact⟨⟨Int.le_refl _,by show (0:Int)≤4294967295;omega⟩,hu⟩
 ·rename_i h
  exact⟨hr _,by simp only;omega⟩
theorem cl7 {n:Int}(hu:p.1≤l.length) (hr:∀i,0≤l.getD i 0∧l.getD i 0≤4294967295):(0≤(ea7 l n p).1∧((ea7 l n p).1<n∨(ea7 l n p).1=0))∧(ea7 l n p).2.1≤l.length:=by
 unfold ea7
 split
 ·exact⟨⟨Int.le_refl _,.inr rfl⟩,hu⟩
 ·rename_i h
  have e1:=Int.emod_nonneg (ib7 l p).1 (show n≠0 by omega)
  have e2:=Int.emod_lt_of_pos (ib7 l p).1 (show 0<n by omega)
  exact⟨⟨e1,.inl e2⟩,(ik7 hu hr).2⟩
theorem zib7 {n:Int}{K:RV→List Root→Prop}(hl:l.length≤1000000) (hu:p.1≤l.length) (hr:∀i,0≤l.getD i 0∧l.getD i 0≤4294967295) (hn:n≤1000000) (hK:K (.c (I6 (ea7 l n p).1)) (R++dc7 l (ea7 l n p).2::S)) :
  ga7 Tryz.prog none 124 [.c (.ptr R.length 1 0 0),.c (I6 n)] (R++dc7 l p::S) K:=by
 refine db7 bc7 (by kernel_rfl) (fun _=>([],0,none)) Tryz.func124 rfl (by kernel_rfl) Tryz.ntmps124 (congrArg Array.toList Tryz.results124) (by kernel_rfl) (by simp) ?_
 simp -implicitDefEqProofs only [go_sem]
 refine⟨fun h=>?_,fun h=>jhb7 hl hu ?_⟩
 ·have e:ea7 l n p=(0,p):=if_pos h
  rw[e]at hK;exact hK
 ·have e:ea7 l n p=(ct7 (ib7 l p).1 n,(ib7 l p).2):=if_neg h
  rw[e]at hK
  have hx:=(ik7 hu hr).1
  generalize (ib7 l p).1=x at *
  simp -implicitDefEqProofs only [go_sem]
  have e1:=Int.emod_nonneg x (show n≠0 by omega)
  have e2:=Int.emod_lt_of_pos x (show 0<n by omega)
  rw[Int.tmod_eq_emod_of_nonneg hx.1]
  exact⟨by omega,by omega,by omega,by omega,hK⟩
end
section
variable [Pan] {A0 A1 A2 A3 A4 A5 A6 A7:Root} {S:List Root} {l:List Int} {p:Nat×Bool}
theorem xc7 {n:Int}{K:RV→List Root→Prop}(hl:l.length≤1000000) (hu:p.1≤l.length) (hr:∀i,0≤l.getD i 0∧l.getD i 0≤4294967295) (hn:n≤1000000) (hK:∀x q,ea7 l n p=(x,q)→(0≤x∧(x<n∨x=0))→q.1≤l.length→K (.c (I6 x)) (A0::A1::A2::A3::A4::A5::A6::A7::dc7 l q::S)) :
  ga7 Tryz.prog none 124 [.c (.ptr 8 1 0 0),.c (I6 n)] (A0::A1::A2::A3::A4::A5::A6::A7::dc7 l p::S) K :=
 @zib7 _ [A0,A1,A2,A3,A4,A5,A6,A7] S l p n K hl hu hr hn (hK _ _ rfl (cl7 hu hr).1 (cl7 hu hr).2)
end
theorem ndb7 {B:List cb7}{i:Int}(hi:0≤i):cf7 Tryz.prog 123 [.c (I6 i),.c (.rp 1 fun j=>nth [eBs B] j)] (fun r=>r = .c (I6 (ia7 B i))):=by
 obtain⟨k,rfl⟩:=Int.eq_ofNat_of_zero_le hi
 refine jj7 bc7 (by kernel_rfl) (fun _=>([],0,none)) Tryz.func123 rfl (by kernel_rfl) Tryz.ntmps123 (congrArg Array.toList Tryz.results123) (by kernel_rfl) (by simp) ?_
 simp -implicitDefEqProofs only [go_sem,eBs]
 unfold ia7
 exact⟨fun h=>⟨⟨hi,h⟩,by rw[if_pos h];rfl⟩,fun h=>by rw[if_neg h]⟩
theorem pf7 [Pan] {pu:Pu}{H:List Root}{B:List cb7}{i:Int}{m:Nat}{K:RV→List Root→Prop}(hi:0≤i) (h8:aa7 H m = .live false 35 1 (.box [eBs B])) (hK:K (.c (I6 (ia7 B i))) H):ga7 Tryz.prog pu 123 [.c (I6 i),.c (.ptr m 1 0 0)] H K:=by
 refine hab7 (ndb7 hi) ?_ ?_ (fun r h=>by subst h;rfl) (fun r h=>by subst h;exact hK)
 ·simp[zg7,lo7,hl7,h8,frL,AV.fr,eBs]
 ·simp[jq7,cdb7,sw7,h8]
theorem ebb7 {l:List Int}{B:List cb7}{k a b i j:Int}{p p1 p2:Nat×Bool}(e1:ea7 l (ia7 B a) p=(i,p1)) (e2:ea7 l (ia7 B b+1) p1=(j,p2)):xg7 l B k a b p=(⟨k,a,i,b,j⟩,p2):=by
 unfold xg7;rw[e1];simp only;rw[e2]
section
variable {l:List Int} {sats:Int} {B:List cb7} {k a b:Int} {p p1 p2 p3:Nat×Bool}
theorem afb7 (e1:ea7 l 6 p=(k,p1)) (e2:ea7 l B.length p1=(a,p2)) (h5:k=5) (e3:ea7 l sats p2=(b,p3)):va7 l sats B p=(⟨k,a,0,b,0⟩,p3):=by
 unfold va7;rw[e1];simp only;rw[e2];simp only[mfb7,if_pos h5,e3]
theorem ffb7 (e1:ea7 l 6 p=(k,p1)) (e2:ea7 l B.length p1=(a,p2)) (h5:¬k=5) (h2:k=2):va7 l sats B p=xg7 l B k a a p2:=by
 unfold va7;rw[e1];simp only;rw[e2];simp only[mfb7,if_neg h5,if_pos h2]
theorem nfb7 (e1:ea7 l 6 p=(k,p1)) (e2:ea7 l B.length p1=(a,p2)) (h5:¬k=5) (h2:¬k=2) (e3:ea7 l (B.length+1) p2=(b,p3)):va7 l sats B p=xg7 l B k a b p3:=by
 unfold va7;rw[e1];simp only;rw[e2];simp only[mfb7,if_neg h5,if_neg h2,e3]
end
section
variable [Pan] {A0 A1 A2 A3 A4 A5 A6 A7 D1:Root} {l:List Int} {p:Nat×Bool} {sats:Int} {Bk:List cb7}
theorem mmb7 {K:RV→List Root→Prop}(hl:l.length≤1000000) (hu:p.1≤l.length) (hr:∀i,0≤l.getD i 0∧l.getD i 0≤4294967295) (hs:0≤sats∧sats≤1000) (hB:Bk.length≤1000∧∀i,ia7 Bk i≤1000)
  (hK:∀m q,va7 l sats Bk p=(m,q)→∀S,K (ee7 m) (A0::A1::A2::A3::A4::A5::A6::A7::dc7 l q::D1::S)) :
  ga7 Tryz.prog none 50 [.c (.ptr 8 1 0 0),.c (I6 sats),.c (eBs Bk)] (A0::A1::A2::A3::A4::A5::A6::A7::dc7 l p::D1::[]) K:=by
 refine db7 bc7 (by kernel_rfl) (fun _=>([],0,none)) Tryz.func50 rfl (by kernel_rfl) Tryz.ntmps50 (congrArg Array.toList Tryz.results50) (by kernel_rfl) (by simp) ?_
 simp -implicitDefEqProofs only [go_sem]
 refine⟨rfl,xc7 hl hu hr (by decide) fun k p1 e1 r1 u1=>?_⟩
 simp -implicitDefEqProofs only [go_sem,eBs]
 refine xc7 (n:=(Bk.length:Int)) hl u1 hr (by omega) fun a p2 e2 r2 u2=>?_
 simp -implicitDefEqProofs only [go_sem]
 refine⟨fun hk=>?_,fun hk=>?_⟩
 ·refine xc7 (n:=sats) hl u2 hr (by omega) fun b p3 e3 r3 u3=>?_
  simp -implicitDefEqProofs only [go_sem]
  exact hK _ _ (afb7 e1 e2 hk e3) _
 have key:∀b q,0≤b→va7 l sats Bk p=xg7 l Bk k a b q→∀i q1 j q2,ea7 l (ia7 Bk a) q=(i,q1)→ea7 l (ia7 Bk b+1) q1=(j,q2)→∀S,K (ee7 ⟨k,a,i,b,j⟩) (A0::A1::A2::A3::A4::A5::A6::A7::dc7 l q2::D1::S):=fun b q _ e i q1 j q2 f1 f2=>hK _ _ (e.trans (ebb7 f1 f2))
 refine⟨fun hk2=>⟨by omega, ?_⟩,fun hk2=>?_⟩
 ·refine xc7 (n:=(Bk.length:Int)+1) hl u2 hr (by omega) fun b p3 e3 r3 u3=>?_
  simp -implicitDefEqProofs only [go_sem]
  have hla:ia7 Bk a≤1000000:=by have:=hB.2 a;omega
  have hlb:ia7 Bk b+1≤1000000:=by have:=hB.2 b;omega
  have hlw:-9223372036854775808≤ia7 Bk b+1∧ia7 Bk b+1≤9223372036854775807:=by have:=hB.2 b;have:=xf7 Bk b;omega
  repeat' first
   | exact key _ _ r3.1 (nfb7 e1 e2 hk hk2 e3) _ _ _ _ (by assumption) (by assumption) _
   | (refine pf7 (m:=10) (B:=Bk) r2.1 rfl ?_;try simp -implicitDefEqProofs only [go_sem])
   | (refine pf7 (m:=10) (B:=Bk) r3.1 rfl ?_;try simp -implicitDefEqProofs only [go_sem])
   | (refine xc7 (n:=ia7 Bk a) hl u3 hr hla fun i q1 f1 s1 v1=>?_;try simp -implicitDefEqProofs only [go_sem])
   | (refine xc7 (n:=ia7 Bk b+1) hl (by assumption) hr hlb fun j q2 f2 s2 v2=>?_;try simp -implicitDefEqProofs only [go_sem])
   | refine⟨hlw, ?_⟩
 ·have hla:ia7 Bk a≤1000000:=by have:=hB.2 a;omega
  have hlb:ia7 Bk a+1≤1000000:=by have:=hB.2 a;omega
  have hlw:-9223372036854775808≤ia7 Bk a+1∧ia7 Bk a+1≤9223372036854775807:=by have:=hB.2 a;have:=xf7 Bk a;omega
  repeat' first
   | exact key _ _ r2.1 (ffb7 e1 e2 hk hk2) _ _ _ _ (by assumption) (by assumption) _
   | (refine pf7 (m:=10) (B:=Bk) r2.1 rfl ?_;try simp -implicitDefEqProofs only [go_sem])
   | (refine pf7 (m:=10) (B:=Bk) r2.1 rfl ?_;try simp -implicitDefEqProofs only [go_sem])
   | (refine xc7 (n:=ia7 Bk a) hl u2 hr hla fun i q1 f1 s1 v1=>?_;try simp -implicitDefEqProofs only [go_sem])
   | (refine xc7 (n:=ia7 Bk a+1) hl (by assumption) hr hlb fun j q2 f2 s2 v2=>?_;try simp -implicitDefEqProofs only [go_sem])
   | refine⟨hlw, ?_⟩
end
section
variable [Pan] {A0 A1 A2 A3 A4 A5 A6 A7 D1 D2:Root} {l:List Int} {p:Nat×Bool} {sats:Int} {Bk:List cb7}
theorem gnb7 {K:RV→List Root→Prop}(hl:l.length≤1000000) (hu:p.1≤l.length) (hr:∀i,0≤l.getD i 0∧l.getD i 0≤4294967295) (hs:0≤sats∧sats≤1000) (hB:Bk.length≤1000∧∀i,ia7 Bk i≤1000)
  (hK:∀m q,va7 l sats Bk p=(m,q)→∀S,K (ee7 m) (A0::A1::A2::A3::A4::A5::A6::A7::dc7 l q::D1::D2::S)) :
  ga7 Tryz.prog none 50 [.c (.ptr 8 1 0 0),.c (I6 sats),.c (eBs Bk)] (A0::A1::A2::A3::A4::A5::A6::A7::dc7 l p::D1::D2::[]) K:=by
 refine db7 bc7 (by kernel_rfl) (fun _=>([],0,none)) Tryz.func50 rfl (by kernel_rfl) Tryz.ntmps50 (congrArg Array.toList Tryz.results50) (by kernel_rfl) (by simp) ?_
 simp -implicitDefEqProofs only [go_sem]
 refine⟨rfl,xc7 hl hu hr (by decide) fun k p1 e1 r1 u1=>?_⟩
 simp -implicitDefEqProofs only [go_sem,eBs]
 refine xc7 (n:=(Bk.length:Int)) hl u1 hr (by omega) fun a p2 e2 r2 u2=>?_
 simp -implicitDefEqProofs only [go_sem]
 refine⟨fun hk=>?_,fun hk=>?_⟩
 ·refine xc7 (n:=sats) hl u2 hr (by omega) fun b p3 e3 r3 u3=>?_
  simp -implicitDefEqProofs only [go_sem]
  exact hK _ _ (afb7 e1 e2 hk e3) _
 have key:∀b q,0≤b→va7 l sats Bk p=xg7 l Bk k a b q→∀i q1 j q2,ea7 l (ia7 Bk a) q=(i,q1)→ea7 l (ia7 Bk b+1) q1=(j,q2)→∀S,K (ee7 ⟨k,a,i,b,j⟩) (A0::A1::A2::A3::A4::A5::A6::A7::dc7 l q2::D1::D2::S):=fun b q _ e i q1 j q2 f1 f2=>hK _ _ (e.trans (ebb7 f1 f2))
 refine⟨fun hk2=>⟨by omega, ?_⟩,fun hk2=>?_⟩
 ·refine xc7 (n:=(Bk.length:Int)+1) hl u2 hr (by omega) fun b p3 e3 r3 u3=>?_
  simp -implicitDefEqProofs only [go_sem]
  have hla:ia7 Bk a≤1000000:=by have:=hB.2 a;omega
  have hlb:ia7 Bk b+1≤1000000:=by have:=hB.2 b;omega
  have hlw:-9223372036854775808≤ia7 Bk b+1∧ia7 Bk b+1≤9223372036854775807:=by have:=hB.2 b;have:=xf7 Bk b;omega
  repeat' first
   | exact key _ _ r3.1 (nfb7 e1 e2 hk hk2 e3) _ _ _ _ (by assumption) (by assumption) _
   | (refine pf7 (m:=11) (B:=Bk) r2.1 rfl ?_;try simp -implicitDefEqProofs only [go_sem])
   | (refine pf7 (m:=11) (B:=Bk) r3.1 rfl ?_;try simp -implicitDefEqProofs only [go_sem])
   | (refine xc7 (n:=ia7 Bk a) hl u3 hr hla fun i q1 f1 s1 v1=>?_;try simp -implicitDefEqProofs only [go_sem])
   | (refine xc7 (n:=ia7 Bk b+1) hl (by assumption) hr hlb fun j q2 f2 s2 v2=>?_;try simp -implicitDefEqProofs only [go_sem])
   | refine⟨hlw, ?_⟩
 ·have hla:ia7 Bk a≤1000000:=by have:=hB.2 a;omega
  have hlb:ia7 Bk a+1≤1000000:=by have:=hB.2 a;omega
  have hlw:-9223372036854775808≤ia7 Bk a+1∧ia7 Bk a+1≤9223372036854775807:=by have:=hB.2 a;have:=xf7 Bk a;omega
  repeat' first
   | exact key _ _ r2.1 (ffb7 e1 e2 hk hk2) _ _ _ _ (by assumption) (by assumption) _
   | (refine pf7 (m:=11) (B:=Bk) r2.1 rfl ?_;try simp -implicitDefEqProofs only [go_sem])
   | (refine pf7 (m:=11) (B:=Bk) r2.1 rfl ?_;try simp -implicitDefEqProofs only [go_sem])
   | (refine xc7 (n:=ia7 Bk a) hl u2 hr hla fun i q1 f1 s1 v1=>?_;try simp -implicitDefEqProofs only [go_sem])
   | (refine xc7 (n:=ia7 Bk a+1) hl (by assumption) hr hlb fun j q2 f2 s2 v2=>?_;try simp -implicitDefEqProofs only [go_sem])
   | refine⟨hlw, ?_⟩
end
theorem eab7 {l draws:List Int}{s:Int}{K:RV→List Root→Prop}(hl:l.length≤40) (hw:∀x∈l,0≤x∧x≤255) (hd:draws.length≤40) (hr:∀i,0≤draws.getD i 0∧draws.getD i 0≤4294967295) (hs:0≤s∧s≤255)
  (h:∀ms u ok,hb7 draws (s % 4) (oc7 l l.length) 3 0=(ms,u,ok)→K (.tup [.c (I6 u),.c (.bool ok)]) [zab7 l,aab7 s,fbb7 (sr7 7 ms),ux7 u,nx7 ok,qa7 draws u,vx7 5,qr7 ms]) :
  ga7 Tryz.prog none 46 [.c (eU draws),.fn 47 [.ptr 2 1 0 0,.ptr 1 1 0 0,.ptr 0 1 0 0]] [zab7 l,aab7 s,fbb7 .nils] K :=
 zkb7 (H:=[zab7 l,aab7 s,fbb7 .nils]) rfl (@zlb7 (veb7 K 3 (eU draws)) l draws s _ hl hw hd hr hs (fun ms u e r=>⟨[zab7 l,aab7 s,fbb7 (sr7 7 ms)],[qr7 ms],u,rfl,rfl,h ms u true e⟩) (fun ms e=>⟨[zab7 l,aab7 s,fbb7 (sr7 7 ms)],[qr7 ms],draws.length,rfl,rfl,rfl,h ms _ false e⟩))
section
variable [Pan] {A0 A1 A2 A3 A4 A5 A6 A7 D1 D2:Root} {l:List Int} {p:Nat×Bool} {sats:Int} {Bk:List cb7}
theorem vh7 {K:RV→List Root→Prop}(hl:l.length≤1000000) (hu:p.1≤l.length) (hr:∀i,0≤l.getD i 0∧l.getD i 0≤4294967295) (hs:0≤sats∧sats≤1000) (hB:Bk.length≤1000∧∀i,ia7 Bk i≤1000)
  (hK:∀m q,va7 l sats Bk p=(m,q)→K (ee7 m) [A0,A1,A2,A3,A4,A5,A6,A7,dc7 l q,D1]) :
  ga7 Tryz.prog (some (some 8)) 50 [.c (.ptr 8 1 0 0),.c (I6 sats),.c (eBs Bk)] [A0,A1,A2,A3,A4,A5,A6,A7,dc7 l p,D1] K:=by
 refine ae7 (fun _=>trivial) (k:=8) (t:=116) (sz:=3) (l:=[eU l,I6 p.1,.bool p.2]) rfl rfl rfl ?_
 exact @mmb7 (vhb7 8 116 3 [A0,A1,A2,A3,A4,A5,A6,A7,dc7 l p,D1]) .dead .dead .dead .dead .dead .dead .dead .dead .dead l p sats Bk _ hl hu hr hs hB (fun m q e S=>⟨rfl,[eU l,I6 q.1,.bool q.2],rfl,rfl,hK m q e⟩)
theorem sc7 {K:RV→List Root→Prop}(hl:l.length≤1000000) (hu:p.1≤l.length) (hr:∀i,0≤l.getD i 0∧l.getD i 0≤4294967295) (hs:0≤sats∧sats≤1000) (hB:Bk.length≤1000∧∀i,ia7 Bk i≤1000)
  (hK:∀m q,va7 l sats Bk p=(m,q)→K (ee7 m) [A0,A1,A2,A3,A4,A5,A6,A7,dc7 l q,D1,D2]) :
  ga7 Tryz.prog (some (some 8)) 50 [.c (.ptr 8 1 0 0),.c (I6 sats),.c (eBs Bk)] [A0,A1,A2,A3,A4,A5,A6,A7,dc7 l p,D1,D2] K:=by
 refine ae7 (fun _=>trivial) (k:=8) (t:=116) (sz:=3) (l:=[eU l,I6 p.1,.bool p.2]) rfl rfl rfl ?_
 exact @gnb7 (vhb7 8 116 3 [A0,A1,A2,A3,A4,A5,A6,A7,dc7 l p,D1,D2]) .dead .dead .dead .dead .dead .dead .dead .dead .dead .dead l p sats Bk _ hl hu hr hs hB (fun m q e S=>⟨rfl,[eU l,I6 q.1,.bool q.2],rfl,rfl,hK m q e⟩)
end
section
variable {l:List Int} {sats:Int} {B:List cb7}
theorem gb7 {n:Int}{p:Nat×Bool}(h:p.1≤l.length):(ea7 l n p).2.1≤l.length:=by
 unfold ea7 ib7
 split
 ·exact h
 ·split
  ·exact h
  ·rename_i h2;simp only;omega
theorem gc7 {p q:Nat×Bool}{m:MoveD}(h:p.1≤l.length) (e:va7 l sats B p=(m,q)):q.1≤l.length:=by
 have:(va7 l sats B p).2.1≤l.length:=by
  unfold va7 mfb7
  split
  ·exact gb7 (gb7 (gb7 h))
  ·split
   ·exact gb7 (gb7 (gb7 (gb7 h)))
   ·exact gb7 (gb7 (gb7 (gb7 (gb7 h))))
 rw[e]at this;exact this
theorem tc7 {ws:List MoveD}{p q:Nat×Bool}{m:MoveD}(h1:ws.length<3) (h3:xb7 l sats B 3 (0,false)=(ws++(xb7 l sats B (3-ws.length) p).1,(xb7 l sats B (3-ws.length) p).2)) (e:va7 l sats B p=(m,q)) (hq:q.2=false) :
  xb7 l sats B 3 (0,false)=((ws++[m])++(xb7 l sats B (3-(ws++[m]).length) q).1,(xb7 l sats B (3-(ws++[m]).length) q).2):=by
 rw[h3,List.length_append,List.length_singleton,show 3-ws.length=(3-(ws.length+1))+1 by omega]
 have:xb7 l sats B (3-(ws.length+1)+1) p=(m::(xb7 l sats B (3-(ws.length+1)) q).1,(xb7 l sats B (3-(ws.length+1)) q).2):=by
  conv=>lhs;unfold xb7
  rw[e];simp only[hq,Bool.false_eq_true,if_false]
 rw[this];simp
theorem rc7 {ws:List MoveD}{p q:Nat×Bool}{m:MoveD}(h1:ws.length<3) (h3:xb7 l sats B 3 (0,false)=(ws++(xb7 l sats B (3-ws.length) p).1,(xb7 l sats B (3-ws.length) p).2)) (e:va7 l sats B p=(m,q)) (hq:q.2=true) :
  xb7 l sats B 3 (0,false)=(ws,q):=by
 rw[h3,show 3-ws.length=(3-(ws.length+1))+1 by omega]
 have:xb7 l sats B (3-(ws.length+1)+1) p=([],q):=by
  conv=>lhs;unfold xb7
  rw[e];simp only[hq,if_true]
 rw[this];simp
theorem gv7 {ws:List MoveD}{p:Nat×Bool}(h1:¬ws.length<3) (h3:xb7 l sats B 3 (0,false)=(ws++(xb7 l sats B (3-ws.length) p).1,(xb7 l sats B (3-ws.length) p).2)):xb7 l sats B 3 (0,false)=(ws,p):=by
 rw[h3,show 3-ws.length=0 by omega]
 simp[xb7]
theorem ud7 {ms ws:List MoveD}{u:Nat}{ok:Bool}{q:Nat×Bool}(hp:xb7 l sats B 3 (0,false)=(ms,u, !ok)) (hq:xb7 l sats B 3 (0,false)=(ws,q)):ms=ws∧u=q.1∧ok = !q.2:=by
 rw[hp]at hq
 obtain⟨n,o⟩:=q
 simp only[Prod.mk.injEq]at hq
 obtain⟨h1,h2,h3⟩:=hq
 exact⟨h1,h2,by simp only;rw[← h3,Bool.not_not]⟩
end
theorem aob7 (m:MoveD):∀j,j<5→Eqv (nth (mvL m) j) (nth (mvL m) j)
 | 0,_=>rfl
 | 1,_=>rfl
 | 2,_=>rfl
 | 3,_=>rfl
 | 4,_=>rfl
 | _+5,h=>by omega
theorem gi7 (m0:MoveD) (ms:List MoveD):∀i,i<(m0::ms).length→∀j,j<5→Eqv ((Row.gen (mvL m0::ms.map mvL)).get (0+i) j) (nth (mvL ((m0::ms).getD i mv0)) j):=fun i hi j hj=>by
 have e:(mvL m0::ms.map mvL).getD (0+i) []=mvL ((m0::ms).getD i mv0):=by
  rw[Nat.zero_add,show mvL m0::ms.map mvL=(m0::ms).map mvL from rfl,List.getD_eq_getElem?_getD,List.getElem?_map,List.getD_eq_getElem?_getD,List.getElem?_eq_getElem hi];rfl
 show Eqv (nth ((mvL m0::ms.map mvL).getD (0+i) []) j) _
 rw[e];exact aob7 _ j hj
theorem huntDraws_p {l draws:List Int}{s:Int}(hw:∀x∈l,0≤x∧x≤255) (hr:∀i,0≤draws.getD i 0∧draws.getD i 0≤4294967295) (hs:0≤s∧s≤255) :
  cf7 Tryz.prog 11 [.c (eBy l),.c (eU draws),.c (.int .u8 s)] (fun r=>r = .c (.bool true)):=by
 refine jj7 bc7 (by kernel_rfl) (fun n=>match n with | 11=>([0,1,2,3,4],0,some (.t [8] (.br 0 5 (.br 10 6 (.br 0 7 .d .no) (.br 0 7 (.br 10 6 .d .no) .no)) (.br 0 7 (.br 0 5 (.br 10 6 .d .no) .no) .no)) [8] [8])) | _=>([],0,none)) Tryz.func11 rfl (by kernel_rfl) Tryz.ntmps11 (congrArg Array.toList Tryz.results11) (by kernel_rfl) (by simp) ?_
 simp -implicitDefEqProofs only [go_sem]
 refine id7 lx7 trivial rfl rfl ?_
 rintro r rfl
 simp -implicitDefEqProofs only [go_sem]
 intro _ hlen
 simp only[Bool.or_eq_false_iff,decide_eq_false_iff_not]at hlen
 have hl40:l.length≤40:=by omega
 have hd40:draws.length≤40:=by omega
 refine eab7 hl40 hw hd40 hr hs (fun ms u ok e=>?_)
 have hB:=lmb7 hl40
 have hBl:(oc7 l l.length).length≤1000:=by have:=bh7 l l.length;omega
 have e4:s.tmod 4=s % 4:=Int.tmod_eq_emod_of_nonneg hs.1
 have hpen:=tp7 (l:=draws) (sats:=s % 4) (B:=oc7 l l.length) 3 (Nat.zero_le _)
 rw[e]at hpen
 clear e
 simp -implicitDefEqProofs only [go_sem]
 rcases ms with _ | ⟨m0,ms⟩
 ·simp only[sr7,qr7]
  refine zj7 (ι:=List MoveD×(Nat×Bool)) 1 [3,5,7,8,9,10] [32,11] (fun x=>x.1.length≤3∧x.2.1≤draws.length∧xb7 draws (s % 4) (oc7 l l.length) 3 (0,false)=(x.1++(xb7 draws (s % 4) (oc7 l l.length) (3-x.1.length) x.2).1,(xb7 draws (s % 4) (oc7 l l.length) (3-x.1.length) x.2).2))
   (fun x=>[.c (I6 x.1.length),.c (sr7 9 x.1)]) (fun x=>[zab7 l,aab7 s,fbb7 (.nils),ux7 u,nx7 ok,qa7 draws u,vx7 5,.dead,dc7 draws x.2,qr7 x.1]) (fun x=>3-x.1.length) (by kernel_rfl) ⟨([],0,false),⟨Nat.zero_le 3,Nat.zero_le _,rfl⟩,rfl,rfl⟩ (fun x _=>rfl) ?_
  rintro⟨ws,p⟩ ⟨h1,h2,h3⟩
  simp only at h1 h2 h3
  rcases ws with _ | ⟨w0,ws⟩
  ·simp -implicitDefEqProofs only [go_sem,sr7,qr7]
   refine⟨fun hlt=>⟨⟨rfl,Nat.zero_lt_one⟩,by decide,by decide,by omega,by omega, ?_⟩,fun hge=>absurd (by decide) hge⟩
   refine⟨?_, ?_⟩
   ·refine id7 (zb7 hl40 hw) (by simp -implicitDefEqProofs only [go_sem]) rfl rfl ?_
    rintro r rfl
    simp -implicitDefEqProofs only [go_sem,e4]
    refine⟨⟨⟨rfl,Nat.zero_lt_one⟩,vh7 (by omega) h2 hr (by omega) ⟨hBl,hB⟩ (fun m q e=>?_)⟩,⟨rfl,Nat.zero_lt_one⟩,sc7 (by omega) h2 hr (by omega) ⟨hBl,hB⟩ (fun m q e=>?_)⟩
    all_goals
     simp -implicitDefEqProofs only [go_sem,ee7,dc7]
     refine⟨fun hq=>?_,fun hq=>?_⟩
     ·obtain⟨k1,k2,k3⟩:=ud7 hpen (rc7 (ws:=[]) (by decide) h3 e hq)
      subst k2 k3
      refine⟨fun _ _=>hf7 (qz7 (xs:=[]) (ys:=[])) (by simp[yl7,okR,bb7,an7,aa7,Row.len,Row.isBox]) ⟨_,_,rfl,.inr ⟨_,rfl,.inr (.inr ⟨5,_,rfl⟩)⟩,_,_,rfl,.inr ⟨_,rfl,.inr (.inr ⟨5,_,rfl⟩)⟩,rfl⟩ (fun r h=>by subst h;rfl) ?_,fun h=>absurd h (by simp)⟩
      rintro r rfl
      simp[bb7,okT,yl7,okR,ncb7,wx7,mcb7,Eqv,yx7,frz,odb7,k1]
     ·exact⟨by decide,([m],q),[12],⟨Nat.le_add_left 1 2,gc7 h2 e,tc7 (ws:=[]) (by decide) h3 e hq⟩,⟨rfl,by decide⟩,rfl,rfl,Nat.lt_add_one 2⟩
   ·refine id7 (zb7 hl40 hw) (by simp -implicitDefEqProofs only [go_sem]) rfl rfl ?_
    rintro r rfl
    simp -implicitDefEqProofs only [go_sem,e4]
    refine⟨⟨rfl,Nat.zero_lt_one⟩,sc7 (by omega) h2 hr (by omega) ⟨hBl,hB⟩ (fun m q e=>?_)⟩
    all_goals
     simp -implicitDefEqProofs only [go_sem,ee7,dc7]
     refine⟨fun hq=>?_,fun hq=>?_⟩
     ·obtain⟨k1,k2,k3⟩:=ud7 hpen (rc7 (ws:=[]) (by decide) h3 e hq)
      subst k2 k3
      refine⟨fun _ _=>hf7 (qz7 (xs:=[]) (ys:=[])) (by simp[yl7,okR,bb7,an7,aa7,Row.len,Row.isBox]) ⟨_,_,rfl,.inr ⟨_,rfl,.inr (.inr ⟨5,_,rfl⟩)⟩,_,_,rfl,.inr ⟨_,rfl,.inr (.inr ⟨5,_,rfl⟩)⟩,rfl⟩ (fun r h=>by subst h;rfl) ?_,fun h=>absurd h (by simp)⟩
      rintro r rfl
      simp[bb7,okT,yl7,okR,ncb7,wx7,mcb7,Eqv,yx7,frz,odb7,k1]
     ·exact⟨by decide,([m],q),[12],⟨Nat.le_add_left 1 2,gc7 h2 e,tc7 (ws:=[]) (by decide) h3 e hq⟩,⟨rfl,by decide⟩,rfl,rfl,Nat.lt_add_one 2⟩
  ·have hwl:(w0::ws).length=ws.length+1:=rfl
   simp -implicitDefEqProofs only [go_sem,sr7,qr7]
   refine⟨fun hlt=>⟨⟨rfl,Nat.zero_lt_one⟩,by decide,by decide,by omega,by omega, ?_⟩,fun hge=>?_⟩
   ·refine⟨?_, ?_⟩
    ·refine id7 (zb7 hl40 hw) (by simp -implicitDefEqProofs only [go_sem]) rfl rfl ?_
     rintro r rfl
     simp -implicitDefEqProofs only [go_sem,e4]
     refine⟨⟨⟨rfl,Nat.zero_lt_one⟩,vh7 (by omega) h2 hr (by omega) ⟨hBl,hB⟩ (fun m q e=>?_)⟩,⟨rfl,Nat.zero_lt_one⟩,sc7 (by omega) h2 hr (by omega) ⟨hBl,hB⟩ (fun m q e=>?_)⟩
     all_goals
      simp -implicitDefEqProofs only [go_sem,ee7,dc7]
      refine⟨fun hq=>?_,fun hq=>?_⟩
      ·obtain⟨k1,k2,k3⟩:=ud7 hpen (rc7 (ws:=w0::ws) (by omega) h3 e hq)
       exact absurd k1 (by simp)
      ·have hll2:(w0::ws++[m]).length=ws.length+1+1:=by simp
       refine⟨⟨by rw[List.length_map],by omega⟩,by omega,(w0::ws++[m],q),[9],⟨by simp only[hll2];omega,gc7 h2 e,tc7 (by omega) h3 e hq⟩,⟨rfl,by decide⟩, ?_, ?_,by simp only[hll2];omega⟩
       ·simp only[List.cons_append,List.length_cons,List.length_append,List.length_nil];rfl
       ·simp only[List.cons_append,List.map_append,List.length_append,List.map_cons,List.map_nil,List.length_cons,List.length_nil];rfl
    ·refine id7 (zb7 hl40 hw) (by simp -implicitDefEqProofs only [go_sem]) rfl rfl ?_
     rintro r rfl
     simp -implicitDefEqProofs only [go_sem,e4]
     refine⟨⟨rfl,Nat.zero_lt_one⟩,sc7 (by omega) h2 hr (by omega) ⟨hBl,hB⟩ (fun m q e=>?_)⟩
     all_goals
      simp -implicitDefEqProofs only [go_sem,ee7,dc7]
      refine⟨fun hq=>?_,fun hq=>?_⟩
      ·obtain⟨k1,k2,k3⟩:=ud7 hpen (rc7 (ws:=w0::ws) (by omega) h3 e hq)
       exact absurd k1 (by simp)
      ·have hll2:(w0::ws++[m]).length=ws.length+1+1:=by simp
       refine⟨⟨by rw[List.length_map],by omega⟩,by omega,(w0::ws++[m],q),[9],⟨by simp only[hll2];omega,gc7 h2 e,tc7 (by omega) h3 e hq⟩,⟨rfl,by decide⟩, ?_, ?_,by simp only[hll2];omega⟩
       ·simp only[List.cons_append,List.length_cons,List.length_append,List.length_nil];rfl
       ·simp only[List.cons_append,List.map_append,List.length_append,List.map_cons,List.map_nil,List.length_cons,List.length_nil];rfl
   ·simp -implicitDefEqProofs only [go_sem,dc7]
    obtain⟨k1,k2,k3⟩:=ud7 hpen (gv7 (ws:=w0::ws) (by omega) h3)
    exact absurd k1 (by simp)
 ·simp only[sr7,qr7]
  refine zj7 (ι:=List MoveD×(Nat×Bool)) 1 [3,5,7,8,9,10] [32,11] (fun x=>x.1.length≤3∧x.2.1≤draws.length∧xb7 draws (s % 4) (oc7 l l.length) 3 (0,false)=(x.1++(xb7 draws (s % 4) (oc7 l l.length) (3-x.1.length) x.2).1,(xb7 draws (s % 4) (oc7 l l.length) (3-x.1.length) x.2).2))
   (fun x=>[.c (I6 x.1.length),.c (sr7 9 x.1)]) (fun x=>[zab7 l,aab7 s,fbb7 (.h 7 0 (ms.length+1)),ux7 u,nx7 ok,qa7 draws u,vx7 5,.live false 110 5 (.gen (mvL m0::ms.map mvL)),dc7 draws x.2,qr7 x.1]) (fun x=>3-x.1.length) (by kernel_rfl) ⟨([],0,false),⟨Nat.zero_le 3,Nat.zero_le _,rfl⟩,rfl,rfl⟩ (fun x _=>rfl) ?_
  rintro⟨ws,p⟩ ⟨h1,h2,h3⟩
  simp only at h1 h2 h3
  rcases ws with _ | ⟨w0,ws⟩
  ·simp -implicitDefEqProofs only [go_sem,sr7,qr7]
   refine⟨fun hlt=>⟨⟨rfl,Nat.zero_lt_one⟩,by decide,by decide,by omega,by omega, ?_⟩,fun hge=>absurd (by decide) hge⟩
   refine⟨?_, ?_⟩
   ·refine id7 (zb7 hl40 hw) (by simp -implicitDefEqProofs only [go_sem]) rfl rfl ?_
    rintro r rfl
    simp -implicitDefEqProofs only [go_sem,e4]
    refine⟨⟨⟨rfl,Nat.zero_lt_one⟩,vh7 (by omega) h2 hr (by omega) ⟨hBl,hB⟩ (fun m q e=>?_)⟩,⟨rfl,Nat.zero_lt_one⟩,sc7 (by omega) h2 hr (by omega) ⟨hBl,hB⟩ (fun m q e=>?_)⟩
    all_goals
     simp -implicitDefEqProofs only [go_sem,ee7,dc7]
     refine⟨fun hq=>?_,fun hq=>?_⟩
     ·obtain⟨k1,k2,k3⟩:=ud7 hpen (rc7 (ws:=[]) (by decide) h3 e hq)
      exact absurd k1 (by simp)
     ·exact⟨by decide,([m],q),[12],⟨Nat.le_add_left 1 2,gc7 h2 e,tc7 (ws:=[]) (by decide) h3 e hq⟩,⟨rfl,by decide⟩,rfl,rfl,Nat.lt_add_one 2⟩
   ·refine id7 (zb7 hl40 hw) (by simp -implicitDefEqProofs only [go_sem]) rfl rfl ?_
    rintro r rfl
    simp -implicitDefEqProofs only [go_sem,e4]
    refine⟨⟨rfl,Nat.zero_lt_one⟩,sc7 (by omega) h2 hr (by omega) ⟨hBl,hB⟩ (fun m q e=>?_)⟩
    all_goals
     simp -implicitDefEqProofs only [go_sem,ee7,dc7]
     refine⟨fun hq=>?_,fun hq=>?_⟩
     ·obtain⟨k1,k2,k3⟩:=ud7 hpen (rc7 (ws:=[]) (by decide) h3 e hq)
      exact absurd k1 (by simp)
     ·exact⟨by decide,([m],q),[12],⟨Nat.le_add_left 1 2,gc7 h2 e,tc7 (ws:=[]) (by decide) h3 e hq⟩,⟨rfl,by decide⟩,rfl,rfl,Nat.lt_add_one 2⟩
  ·have hwl:(w0::ws).length=ws.length+1:=rfl
   simp -implicitDefEqProofs only [go_sem,sr7,qr7]
   refine⟨fun hlt=>⟨⟨rfl,Nat.zero_lt_one⟩,by decide,by decide,by omega,by omega, ?_⟩,fun hge=>?_⟩
   ·refine⟨?_, ?_⟩
    ·refine id7 (zb7 hl40 hw) (by simp -implicitDefEqProofs only [go_sem]) rfl rfl ?_
     rintro r rfl
     simp -implicitDefEqProofs only [go_sem,e4]
     refine⟨⟨⟨rfl,Nat.zero_lt_one⟩,vh7 (by omega) h2 hr (by omega) ⟨hBl,hB⟩ (fun m q e=>?_)⟩,⟨rfl,Nat.zero_lt_one⟩,sc7 (by omega) h2 hr (by omega) ⟨hBl,hB⟩ (fun m q e=>?_)⟩
     all_goals
      simp -implicitDefEqProofs only [go_sem,ee7,dc7]
      refine⟨fun hq=>?_,fun hq=>?_⟩
      ·obtain⟨k1,k2,k3⟩:=ud7 hpen (rc7 (ws:=w0::ws) (by omega) h3 e hq)
       subst k2 k3
       refine⟨fun _ _=>hf7 (qz7 (xs:=m0::ms) (ys:=w0::ws)) (by simp[yl7,okR,bb7,an7,aa7,Row.len,Row.isBox]) ⟨_,_,rfl,.inr ⟨_,rfl,.inr ⟨_,rfl,gi7 m0 ms⟩⟩,_,_,rfl,.inr ⟨_,rfl,.inr ⟨_,rfl,gi7 w0 ws⟩⟩,rfl⟩ (fun r h=>by subst h;rfl) ?_,fun h=>absurd h (by simp)⟩
       rintro r rfl
       simp[bb7,okT,yl7,okR,ncb7,wx7,mcb7,Eqv,yx7,frz,odb7,k1]
       exact⟨(List.cons.inj k1).1,(List.cons.inj k1).2⟩
      ·have hll2:(w0::ws++[m]).length=ws.length+1+1:=by simp
       refine⟨⟨by rw[List.length_map],by omega⟩,by omega,(w0::ws++[m],q),[9],⟨by simp only[hll2];omega,gc7 h2 e,tc7 (by omega) h3 e hq⟩,⟨rfl,by decide⟩, ?_, ?_,by simp only[hll2];omega⟩
       ·simp only[List.cons_append,List.length_cons,List.length_append,List.length_nil];rfl
       ·simp only[List.cons_append,List.map_append,List.length_append,List.map_cons,List.map_nil,List.length_cons,List.length_nil];rfl
    ·refine id7 (zb7 hl40 hw) (by simp -implicitDefEqProofs only [go_sem]) rfl rfl ?_
     rintro r rfl
     simp -implicitDefEqProofs only [go_sem,e4]
     refine⟨⟨rfl,Nat.zero_lt_one⟩,sc7 (by omega) h2 hr (by omega) ⟨hBl,hB⟩ (fun m q e=>?_)⟩
     all_goals
      simp -implicitDefEqProofs only [go_sem,ee7,dc7]
      refine⟨fun hq=>?_,fun hq=>?_⟩
      ·obtain⟨k1,k2,k3⟩:=ud7 hpen (rc7 (ws:=w0::ws) (by omega) h3 e hq)
       subst k2 k3
       refine⟨fun _ _=>hf7 (qz7 (xs:=m0::ms) (ys:=w0::ws)) (by simp[yl7,okR,bb7,an7,aa7,Row.len,Row.isBox]) ⟨_,_,rfl,.inr ⟨_,rfl,.inr ⟨_,rfl,gi7 m0 ms⟩⟩,_,_,rfl,.inr ⟨_,rfl,.inr ⟨_,rfl,gi7 w0 ws⟩⟩,rfl⟩ (fun r h=>by subst h;rfl) ?_,fun h=>absurd h (by simp)⟩
       rintro r rfl
       simp[bb7,okT,yl7,okR,ncb7,wx7,mcb7,Eqv,yx7,frz,odb7,k1]
       exact⟨(List.cons.inj k1).1,(List.cons.inj k1).2⟩
      ·have hll2:(w0::ws++[m]).length=ws.length+1+1:=by simp
       refine⟨⟨by rw[List.length_map],by omega⟩,by omega,(w0::ws++[m],q),[9],⟨by simp only[hll2];omega,gc7 h2 e,tc7 (by omega) h3 e hq⟩,⟨rfl,by decide⟩, ?_, ?_,by simp only[hll2];omega⟩
       ·simp only[List.cons_append,List.length_cons,List.length_append,List.length_nil];rfl
       ·simp only[List.cons_append,List.map_append,List.length_append,List.map_cons,List.map_nil,List.length_cons,List.length_nil];rfl
   ·simp -implicitDefEqProofs only [go_sem,dc7]
    obtain⟨k1,k2,k3⟩:=ud7 hpen (gv7 (ws:=w0::ws) (by omega) h3)
    subst k2 k3
    refine⟨fun _ _=>hf7 (qz7 (xs:=m0::ms) (ys:=w0::ws)) (by simp[yl7,okR,bb7,an7,aa7,Row.len,Row.isBox]) ⟨_,_,rfl,.inr ⟨_,rfl,.inr ⟨_,rfl,gi7 m0 ms⟩⟩,_,_,rfl,.inr ⟨_,rfl,.inr ⟨_,rfl,gi7 w0 ws⟩⟩,rfl⟩ (fun r h=>by subst h;rfl) ?_,fun h=>absurd h (by simp)⟩
    rintro r rfl
    simp[bb7,okT,yl7,okR,ncb7,wx7,mcb7,Eqv,yx7,frz,odb7,k1]
    exact⟨(List.cons.inj k1).1,(List.cons.inj k1).2⟩
theorem law_of {P:Program}{f:FuncId}{args:List RV}{w:World}{vs:List Value}(h:cf7 P f args (fun r=>r = .c (.bool true))) (hc:kb7 (fun b=>b<w.heap.size) w args vs):Calls P f vs.toArray w fun e w'=>e = .returned (.bool true)∧Below w.heap.size w w':=by
 refine (h.2 _ w vs ibb7 (fun _ h=>h) hc).mono ?_
 rintro e w' ⟨r,v,rho',rfl,rfl,h1,-,h2⟩
 obtain rfl:v = .bool true:=h1
 exact⟨rfl,h2⟩
end Go.Proofs.YtabadfkikdefeaaGreat.Ab
