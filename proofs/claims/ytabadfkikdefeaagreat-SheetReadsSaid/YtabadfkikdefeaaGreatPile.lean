/- Contracts: the methods of wharfage/pile's row. -/
import Derived.BigRegion
import Derived.BigQuiet
import Derived.Test.YtabadfkikdefeaaGreatP3
set_option linter.all false
set_option maxRecDepth 100000
set_option maxHeartbeats 6400000
namespace Go.Proofs.YtabadfkikdefeaaGreat
open Go.RowKit
def itemV (s:sa7):List Value:=[.int .i64 s.1,.int .i64 s.2]
theorem mg7 (l:List sa7):(l.flatMap itemV).length=l.length*2:=by
 induction l with
 | nil=>rfl
 | cons a l ih=>rw[List.flatMap_cons,List.length_append,ih,List.length_cons];show 2+_=_;omega
theorem kv7:∀w,(sizeOf 307).run Tryz.prog w = .ok 2 w:=fun w=>by kernel_rfl
theorem meb7:∀(t:List sa7) (k:Nat) (h:k<t.length) (h':2*k+1<(t.flatMap itemV).length) (h'':2*k<(t.flatMap itemV).length),(t.flatMap itemV)[2*k] = .int .i64 t[k].1∧(t.flatMap itemV)[2*k+1] = .int .i64 t[k].2
 | a::l,0,_,_,_=>⟨rfl,rfl⟩
 | a::l,k+1,h,h',h''=>by
  have ih:=meb7 l k (Nat.lt_of_succ_lt_succ h) (by rw[mg7];have:=Nat.lt_of_succ_lt_succ h;omega) (by rw[mg7];have:=Nat.lt_of_succ_lt_succ h;omega)
  have e1:(List.flatMap itemV (a::l)) = .int .i64 a.1 :: .int .i64 a.2::l.flatMap itemV:=rfl
  simp only[e1,show 2*(k+1)=2*k+1+1 from by omega,List.getElem_cons_succ]
  exact ih
theorem aeb7 {w:World}{a:Option Addr}{n c:Nat}:Calls Tryz.prog 270 #[.slice a n c] w fun e w'=>e = .returned (.int .i64 n)∧w'=w:=by
 go_enter Tryz.func270,Tryz.ntmps270
 go_wp2
 go_ret
 exact⟨rfl,rfl⟩
def rpb7 (w:World) (g:Nat) (l:List sa7):Prop:=∀k (h:k<l.length),w.cell? ⟨g,2*k,none⟩=some (.int .i64 l[k].1)∧w.cell? ⟨g,2*k+1,none⟩=some (.int .i64 l[k].2)
theorem tk7 {w:World}{g c:Nat}{l:List sa7}(h:rpb7 w g l) {i j:Nat}(hi:i<l.length) (hj:j<l.length) :
  Calls Tryz.prog 271 #[.slice (some ⟨g,0,none⟩) l.length c,.int .i64 (i:Int),.int .i64 (j:Int)] w fun e w'=>∃n,e = .returned (.bool (yd7 l[i] l[j]))∧w'=w.drewN n:=by
 have hx:=vb7 (c:=c) Tryz.underlying325 kv7 (a:=some ⟨g,0,none⟩) rfl hi
 have hy:=vb7 (c:=c) Tryz.underlying325 kv7 (a:=some ⟨g,0,none⟩) rfl hj
 rw[Nat.zero_add,Nat.mul_comm]at hx hy
 obtain⟨h1,h2⟩:=h i hi
 obtain⟨h3,h4⟩:=h j hj
 obtain⟨⟨a1,a2⟩,ha⟩:∃a,a=l[i]:=⟨_,rfl⟩
 obtain⟨⟨b1,b2⟩,hb⟩:∃a,a=l[j]:=⟨_,rfl⟩
 rw[← ha]at h1 h2
 rw[← hb]at h3 h4
 simp only[]at h1 h2 h3 h4
 rw[← ha,← hb]
 clear ha hb h
 by_cases e:a1=b1
 ·have e1:(a1==b1)=true:=by simpa using e
  have e2:(a1 != b1)=false:=by simpa using e
  have HE:=hid e
  clear e
  go_enter Tryz.func271,Tryz.ntmps271
  go_wp2
  go_quiet (fail)
  go_wp2
  go_quiet (fail)
  go_wp2
  go_ret
  refine⟨_, ?_,by rw[World.drewN_drewN]⟩
  have hx:yd7 (a1,a2) (b1,b2)=decide (a2<b2):=by unfold yd7;exact if_pos HE.out
  rw[hx]
  rfl
 ·have e1:(a1==b1)=false:=by simpa using e
  have e2:(a1 != b1)=true:=by simpa using e
  have HE:=hid e
  clear e
  go_enter Tryz.func271,Tryz.ntmps271
  go_wp2
  go_quiet (fail)
  go_wp2
  go_quiet (fail)
  go_wp2
  go_ret
  refine⟨_, ?_,by rw[World.drewN_drewN]⟩
  have hx:yd7 (a1,a2) (b1,b2)=decide (a1<b1):=by unfold yd7;exact if_neg HE.out
  rw[hx]
  rfl
theorem Row.of_items {w:World}{B g c n:Nat}{xs:List Value}{e k:Nat}(h:w.ownsRow B e k (.slice (some ⟨g,0,none⟩) n c) n xs):Row w g e xs:=by
 obtain⟨h1,h2⟩:=h
 rcases h2 with ⟨e,_⟩ | h2
 ·cases e
 ·obtain⟨g',cap,cur,e,hg,hh,hn1,hc,hs,ht⟩:=h2
  simp only[Value.slice.injEq,Option.some.injEq,Addr.mk.injEq]at e
  obtain⟨⟨rfl,-,-⟩,-,rfl⟩:=e
  exact⟨cur,cur.toList.drop (n*k),hh,by rw[← ht,List.take_append_drop]⟩
theorem zq7 {w:World}{g:Nat}{e:TypeId}{l:List sa7}(h:Row w g e (l.flatMap itemV)):rpb7 w g l:=fun k hk=>by
 have h1:2*k+1<(l.flatMap itemV).length:=by rw[mg7];omega
 have h2:2*k<(l.flatMap itemV).length:=by omega
 have:=meb7 l k hk h1 h2
 exact⟨by rw[h.cell h2,this.1],by rw[h.cell h1,this.2]⟩
theorem uv7:∀(l:List sa7) (k:Nat) (a:sa7),((l.flatMap itemV).set (2*k) (.int .i64 a.1)).set (2*k+1) (.int .i64 a.2)=(l.set k a).flatMap itemV
 | [],k,a=>by simp
 | b::l,0,a=>rfl
 | b::l,k+1,a=>by
  have ih:=uv7 l k a
  have e1:∀(b:sa7) l,(List.flatMap itemV (b::l)) = .int .i64 b.1 :: .int .i64 b.2::l.flatMap itemV:=fun _ _=>rfl
  rw[List.set_cons_succ,e1,e1,← ih,show 2*(k+1)=2*k+1+1 from by omega]
  rfl
structure zb7 (B:Nat) (w w':World):Prop where
 bel:Below B w w'
 old:∀(b:Nat) (cs:Array Value) (e:TypeId) (fz:Nat×Nat),w.heap[b]? = some (.cells cs e fz)→e≠307→e≠327→w'.heap[b]? = some (.cells cs e fz)
theorem zb7.refl (B:Nat) (w:World):zb7 B w w:=⟨Below.refl _ _,fun _ _ _ _ h _ _=>h⟩
theorem zb7.trans {B:Nat}{w w1 w2:World}(h:zb7 B w w1) (k:zb7 B w1 w2):zb7 B w w2:=⟨h.bel.trans k.bel,fun b cs e fz hb h1 h2=>k.old b cs e fz (h.old b cs e fz hb h1 h2) h1 h2⟩
theorem zb7.of_grown {B:Nat}{w w':World}{row:Option Nat}(hg:w.grownBy w' row) (hB:B≤w.heap.size) (hr:∀b,row=some b→B≤b∧∃cs e fz,w.heap[b]? = some (.cells cs e fz)∧(e=307∨e=327)):zb7 B w w':=by
 refine⟨(Below.refl B w).grown hg hB (fun k hk=>(hr k hk).1),fun b cs e fz hb h1 h2=>?_⟩
 rw[hg.block b (Array.getElem?_eq_some_iff.1 hb).1 (fun e'=>?_)]
 ·exact hb
 ·obtain⟨-,cs',e'',fz',hb',ht⟩:=hr b e'.symm
  rw[hb]at hb'
  simp only[Option.some.injEq,Obj.cells.injEq]at hb'
  obtain⟨-,rfl,-⟩:=hb'
  rcases ht with rfl | rfl
  ·exact h1 rfl
  ·exact h2 rfl
theorem zb7.below {B:Nat}{w w':World}(hb:Below w.heap.size w w') (hB:B≤w.heap.size):zb7 B w w' :=
 .of_grown (row:=none) ⟨hb.os,hb.tape,hb.output,hb.size,fun k hk _=>hb.block k hk⟩ hB fun _ h=>by cases h
theorem zb7.set {B:Nat}{w:World}{g:Nat}{e:TypeId}{cs:List Value}(h:Row w g e cs) (he:e=307∨e=327) (hB:B≤g) (j:Nat) (u:Value):zb7 B w (w.setCell ⟨g,j,none⟩ u):=by
 have hl:=h.lt
 obtain⟨cur,rest,h1,-⟩:=h
 exact .of_grown (pg7 w ⟨g,j,none⟩ u) (by omega) fun b hb=>by
  obtain rfl:=Option.some.inj hb
  exact⟨hB,cur,e,(0,0),h1,he⟩
theorem zb7.append {B B':Nat}{w w':World}{k n:Nat}{v:Value}{xs:List Value}(h:w.ownsRow B' 307 k v n xs) (hg:w.grownBy w' v.ownBlock) (hB:B≤w.heap.size) (hB':B≤B'):zb7 B w w' :=
 .of_grown hg hB fun b hb=>by
  have hl:=h.lt b hb
  refine⟨by omega, ?_⟩
  obtain⟨cs,hc⟩:=eg7 h hb
  obtain⟨cur,rest,h1,-⟩:=hc
  exact⟨cur,_,_,h1,.inl rfl⟩
theorem zb7.row {B:Nat}{w w':World}{g:Nat}{e:TypeId}{cs:List Value}(h:zb7 B w w') (hr:Row w g e cs) (h1:e≠307) (h2:e≠327):Row w' g e cs:=by
 obtain⟨cur,rest,h3,h4⟩:=hr
 exact⟨cur,rest,h.old _ _ _ _ h3 h1 h2,h4⟩
theorem zb7.owns {B B':Nat}{w w':World}{e k n:Nat}{v:Value}{xs:List Value}(h:zb7 B w w') (hr:w.ownsRow B' e k v n xs) (h1:e≠307) (h2:e≠327):w'.ownsRow B' e k v n xs:=by
 refine⟨hr.1, ?_⟩
 rcases hr.2 with hn | ⟨g,cap,cur,rfl,hb,hgg,rest⟩
 ·exact .inl hn
 ·exact .inr ⟨g,cap,cur,rfl,hb,h.old _ _ _ _ hgg h1 h2,rest⟩
theorem swap_perm (l:List sa7) {i j:Nat}(hi:i<l.length) (hj:j<l.length):(zm7 l i j l[i] l[j]).Perm l:=List.set_set_perm hi hj
theorem zb7.stored {B:Nat}{w:World}{k n g c:Nat}{xs:List Value}(h:w.ownsRow B 307 k (.slice (some ⟨g,0,none⟩) n c) n xs) (j:Nat) (u:Value):zb7 B w (w.setCell ⟨g,j,none⟩ u) :=
 zb7.append h (h.stored j u).2 (by have:=h.lt g rfl;omega) (Nat.le_refl _)
theorem im7 {w w1 w2:World}{row:Option Nat}(h:w.grownBy w1 row) (k:w1.grownBy w2 row):w.grownBy w2 row :=
 ⟨k.os.trans h.os,k.tape.trans h.tape,k.output.trans h.output,Nat.le_trans h.size k.size,fun b hb hn=>(k.block b (Nat.lt_of_lt_of_le hb h.size) hn).trans (h.block b hb hn)⟩
theorem rgb7 {w w1:World}{row:Option Nat}(h:w.grownBy w1 row):w.grownBy w1.drew row:=⟨h.os,h.tape,h.output,h.size,h.block⟩
theorem kxb7 {w:World}{B g c:Nat}{l:List sa7}(h:w.ownsRow B 307 2 (.slice (some ⟨g,0,none⟩) l.length c) l.length (l.flatMap itemV)) (i j:Nat) (a b:sa7) :
  ((((w.setCell ⟨g,2*i,none⟩ (.int .i64 b.1)).setCell ⟨g,2*i+1,none⟩ (.int .i64 b.2)).setCell ⟨g,2*j,none⟩ (.int .i64 a.1)).setCell ⟨g,2*j+1,none⟩ (.int .i64 a.2)).ownsRow B 307 2 (.slice (some ⟨g,0,none⟩) l.length c) l.length ((zm7 l i j a b).flatMap itemV) ∧
  zb7 B w ((((w.setCell ⟨g,2*i,none⟩ (.int .i64 b.1)).setCell ⟨g,2*i+1,none⟩ (.int .i64 b.2)).setCell ⟨g,2*j,none⟩ (.int .i64 a.1)).setCell ⟨g,2*j+1,none⟩ (.int .i64 a.2)) ∧
  w.grownBy ((((w.setCell ⟨g,2*i,none⟩ (.int .i64 b.1)).setCell ⟨g,2*i+1,none⟩ (.int .i64 b.2)).setCell ⟨g,2*j,none⟩ (.int .i64 a.1)).setCell ⟨g,2*j+1,none⟩ (.int .i64 a.2)) (some g):=by
 have S1:=(h.stored (2*i) (.int .i64 b.1)).1
 have S2:=(S1.stored (2*i+1) (.int .i64 b.2)).1
 have S3:=(S2.stored (2*j) (.int .i64 a.1)).1
 have S4:=(S3.stored (2*j+1) (.int .i64 a.2)).1
 refine⟨?_,(((zb7.stored h _ _).trans (zb7.stored S1 _ _)).trans (zb7.stored S2 _ _)).trans (zb7.stored S3 _ _),im7 (im7 (im7 (h.stored _ _).2 (S1.stored _ _).2) (S2.stored _ _).2) (S3.stored _ _).2⟩
 rw[uv7,uv7]at S4
 exact S4
theorem kx7 {w:World}{B e k n:Nat}{v:Value}{xs:List Value}(h:w.ownsRow B e k v n xs):w.drew.ownsRow B e k v n xs:=h
theorem zb7.drew {B:Nat}{w w':World}(h:zb7 B w w'):zb7 B w w'.drew:=⟨h.bel.drew,h.old⟩
theorem ix7 (l:List sa7) (i j:Nat) (a b:sa7):(zm7 l i j a b).length=l.length:=by unfold zm7;simp
theorem ok7 {w:World}{B g c:Nat}{l:List sa7}(h:w.ownsRow B 307 2 (.slice (some ⟨g,0,none⟩) l.length c) l.length (l.flatMap itemV)) {i j:Nat}(hi:i<l.length) (hj:j<l.length) :
  Calls Tryz.prog 272 #[.slice (some ⟨g,0,none⟩) l.length c,.int .i64 (i:Int),.int .i64 (j:Int)] w fun e w'=>e = .returned (.tuple #[]) ∧
   w'.ownsRow B 307 2 (.slice (some ⟨g,0,none⟩) l.length c) l.length ((zm7 l i j l[i] l[j]).flatMap itemV)∧zb7 B w w'∧w.grownBy w' (some g):=by
 have hx:=vb7 (c:=c) Tryz.underlying325 kv7 (a:=some ⟨g,0,none⟩) rfl hi
 have hy:=vb7 (c:=c) Tryz.underlying325 kv7 (a:=some ⟨g,0,none⟩) rfl hj
 rw[Nat.zero_add,Nat.mul_comm]at hx hy
 have R:=Row.of_items h
 have HS:=hid (kxb7 h i j l[i] l[j])
 obtain⟨h1,h2⟩:=zq7 R i hi
 obtain⟨h3,h4⟩:=zq7 R j hj
 obtain⟨a,ha⟩:∃a,a=l[i]:=⟨_,rfl⟩
 obtain⟨b,hb⟩:∃a,a=l[j]:=⟨_,rfl⟩
 rw[← ha]at h1 h2
 rw[← hb]at h3 h4
 rw[← ha,← hb]at HS ⊢
 obtain⟨a1,a2⟩:=a
 obtain⟨b1,b2⟩:=b
 simp only[]at h1 h2 h3 h4 HS
 have f1:=R.frozen (2*i)
 have f2:=R.frozen (2*j)
 have f3:=R.frozen (2*i+1)
 have f4:=R.frozen (2*j+1)
 have k1:2*i<(l.flatMap itemV).length:=by rw[mg7];omega
 have k2:2*i+1<(l.flatMap itemV).length:=by rw[mg7];omega
 have k3:2*j<(l.flatMap itemV).length:=by rw[mg7];omega
 have k4:2*j+1<(l.flatMap itemV).length:=by rw[mg7];omega
 have R1:=R.set k1 (.int .i64 b1)
 have R2:=R1.set (by rw[List.length_set];exact k2) (.int .i64 b2)
 have R3:=R2.set (by simp only[List.length_set];exact k3) (.int .i64 a1)
 have c1:=R1.cell (by rw[List.length_set];exact k3)
 have c2:=R1.cell (by rw[List.length_set];exact k4)
 have c3:=R2.cell (by simp only[List.length_set];exact k3)
 have c4:=R2.cell (by simp only[List.length_set];exact k4)
 have c5:=R3.cell (by simp only[List.length_set];exact k4)
 obtain⟨x1,hx1⟩:∃x,(w.setCell ⟨g,2*i,none⟩ (.int .i64 b1)).cell? ⟨g,2*j,none⟩=some x:=⟨_,c1⟩
 obtain⟨x2,hx2⟩:∃x,(w.setCell ⟨g,2*i,none⟩ (.int .i64 b1)).cell? ⟨g,2*j+1,none⟩=some x:=⟨_,c2⟩
 obtain⟨x3,hx3⟩:∃x,((w.setCell ⟨g,2*i,none⟩ (.int .i64 b1)).setCell ⟨g,2*i+1,none⟩ (.int .i64 b2)).cell? ⟨g,2*j,none⟩=some x:=⟨_,c3⟩
 obtain⟨x4,hx4⟩:∃x,((w.setCell ⟨g,2*i,none⟩ (.int .i64 b1)).setCell ⟨g,2*i+1,none⟩ (.int .i64 b2)).cell? ⟨g,2*j+1,none⟩=some x:=⟨_,c4⟩
 obtain⟨x5,hx5⟩:∃x,(((w.setCell ⟨g,2*i,none⟩ (.int .i64 b1)).setCell ⟨g,2*i+1,none⟩ (.int .i64 b2)).setCell ⟨g,2*j,none⟩ (.int .i64 a1)).cell? ⟨g,2*j+1,none⟩=some x:=⟨_,c5⟩
 clear ha hb h c1 c2 c3 c4 c5 R R1 R2 R3
 go_enter Tryz.func272,Tryz.ntmps272
 go_wp2
 go_region
 all_goals
  go_wp2
  go_end0
  exact⟨rfl,kx7 HS.out.1,HS.out.2.1.drew,rgb7 HS.out.2.2⟩
def wc7 (w:World) (B q:Nat) (l:List sa7):Prop :=
 ∃v,Row w q 327 [v]∧w.ownsRow B 307 2 v l.length (l.flatMap itemV)∧B≤q
def uk7 (w:World) (B q g:Nat) (l:List sa7):Prop :=
 ∃c,Row w q 327 [.slice (some ⟨g,0,none⟩) l.length c]∧w.ownsRow B 307 2 (.slice (some ⟨g,0,none⟩) l.length c) l.length (l.flatMap itemV)∧B≤q
theorem uk7.at {w:World}{B q g:Nat}{l:List sa7}(h:uk7 w B q g l):wc7 w B q l:=by
 obtain⟨c,R,O,hq⟩:=h
 exact⟨_,R,O,hq⟩
theorem wc7.g {w:World}{B q:Nat}{l:List sa7}(h:wc7 w B q l) (hl:0<l.length):∃g,uk7 w B q g l:=by
 obtain⟨v,R,O,hq⟩:=h
 obtain⟨g,c,rfl,-⟩:=Row.of_owns O hl
 exact⟨g,c,R,O,hq⟩
def zh7 (q g:Nat) (w w':World):Prop:=w.heap.size≤w'.heap.size∧∀b,b<w.heap.size→b≠q→b≠g→w'.heap[b]? = w.heap[b]?
theorem zh7.refl (q g:Nat) (w:World):zh7 q g w w:=⟨Nat.le_refl _,fun _ _ _ _=>rfl⟩
theorem zh7.trans {q g:Nat}{w w1 w2:World}(h:zh7 q g w w1) (k:zh7 q g w1 w2):zh7 q g w w2:=⟨Nat.le_trans h.1 k.1,fun b hb h1 h2=>(k.2 b (Nat.lt_of_lt_of_le hb h.1) h1 h2).trans (h.2 b hb h1 h2)⟩
theorem zh7.grown {q g:Nat}{w w':World}(h:w.grownBy w' (some g)):zh7 q g w w':=⟨h.size,fun b hb _ h2=>h.block b hb fun e=>h2 (Option.some.inj e)⟩
theorem zh7.drewN {q g:Nat}{w w':World}(h:zh7 q g w w') (n:Nat):zh7 q g w (w'.drewN n):=h
def Apart (w:World) (q X:Nat) (e:TypeId) (cs:List Value):Prop:=Row w X e cs∧X≠q∧∀v,w.cell? ⟨q,0,none⟩=some v→v.ownBlock≠some X
def if7 (q:Nat) (w w':World):Prop:=∀X e cs,Apart w q X e cs→Apart w' q X e cs
theorem if7.refl (q:Nat) (w:World):if7 q w w:=fun _ _ _ h=>h
theorem if7.trans {q:Nat}{w w1 w2:World}(h:if7 q w w1) (k:if7 q w1 w2):if7 q w w2:=fun X e cs hx=>k X e cs (h X e cs hx)
theorem if7.of_keep2 {w w':World}{B B' q g:Nat}{l l':List sa7}(hk:zh7 q g w w') (h:uk7 w B q g l) (h':uk7 w' B' q g l'):if7 q w w':=fun X e cs ⟨hr,hx,ho⟩=>by
 obtain⟨c,R,O,hq⟩:=h
 obtain⟨c',R',O',hq'⟩:=h'
 have h0:=ho _ (R.cell (j:=0) (by simp))
 have hg:X≠g:=fun e=>h0 (by rw[e];rfl)
 refine⟨hr.keep (hk.2 X hr.lt hx hg),hx,fun v hv=>?_⟩
 have h1:=R'.cell (j:=0) (by simp)
 rw[h1]at hv
 obtain rfl:=Option.some.inj hv
 exact fun e=>hg (Option.some.inj e).symm
theorem if7.of_below {w w':World}{q:Nat}(hb:Below w.heap.size w w') (hq:q<w.heap.size):if7 q w w':=fun X e cs ⟨hr,hx,ho⟩ =>
 ⟨hr.below hb,hx,fun v hv=>ho v (by rwa [World.cell?_of_block (hb.block q hq)]at hv)⟩
theorem eub7 (u:Value) (w:World):(Instr.typeAssert (.iface 307 u) 20 307 false).run Tryz.prog w = .ok u w:=by kernel_rfl
theorem ktb7:(Tryz.prog.info? 307).map (fun i=>(i.zero,i.size,i.bytes))=some (some (.agg #[.int .i64 0,.int .i64 0]),2,16):=by kernel_rfl
theorem tnb7 {w:World}{B q:Nat}{l:List sa7}(h:wc7 w B q l) (hl:l.length≤1000000) (s:sa7) :
  Calls Tryz.prog 274 #[.pointer (some ⟨q,0,none⟩),.iface 307 (.agg #[.int .i64 s.1,.int .i64 s.2])] w fun e w'=>e = .returned (.tuple #[])∧wc7 w' B q (l++[s])∧zb7 B w w'∧if7 q w w':=by
 obtain⟨v,R,O,hq⟩:=h
 obtain⟨a,cp,rfl,hn,hc⟩:=xa7 O
 have p0:=R.cell (j:=0) (by simp)
 have f0:=R.frozen 0
 simp only[List.getElem_cons_zero]at p0
 have hqz:=R.lt
 have o2:some q≠(Value.slice a l.length cp).ownBlock:=ec7 O R (by decide)
 obtain⟨s1,s2⟩:=s
 simp only[]
 have hta:=eub7 (.agg #[.int .i64 s1,.int .i64 s2])
 have HR:=hid R
 have HOW:=hid O
 obtain⟨row,hro⟩:∃row,row=(Value.slice a l.length cp).ownBlock:=⟨_,rfl⟩
 rw[← hro]at o2
 have HRO:=hid hro
 clear R O hro
 have z2:∀e:At (sb7 row w),_:=fun e=>e.ok.cell p0 o2
 go_enter Tryz.func274,Tryz.ntmps274
 refine ma7 (sb7 row w) [9] [([0,1,2,3,4,5],6,false),([],7,false),([],8,false),([],9,true)] (by kernel_rfl) (by kernel_rfl) (fun _ _ d _ _ h=>by cases d <;> exact h) (sb7.refl _ _).drew ?_
 simp only[gd7,List.map_cons,List.map_nil,Array.getD_eq_getD_getElem?,List.getElem?_toArray,List.getElem?_cons_succ,List.getElem?_cons_zero,Option.getD_some,me7]
 repeat (go_big_quiet_step (fail))
 refine wpQuiet_nil ?_
 go_wp2_with fail
 have hS0:sb7 row w (w.alloc (.cells #[.int .i64 s1,.int .i64 s2] 307)).drew:=((sb7.refl row w).below ((Below.refl _ _).alloc (Nat.le_refl _) _)).drew
 refine⟨hS0,wpQuiet_nil ?_⟩
 have hown1:=(HOW.out.alloc (.cells #[.int .i64 s1,.int .i64 s2] 307)).drew
 obtain⟨i1,hi,hi0,hi1,hi2⟩:=info_parts ktb7
 go_wp2_with (at_builtin;refine wpList_append_own_at _ rfl _ _ 325 rfl B 307 i1 (.agg #[.int .i64 0,.int .i64 0]) 2 16 Tryz.underlying325 hi hi0 hi1 hi2 rfl (by decide) _ _ _ rfl hown1 ⟨w.heap.size,0,none⟩ 1 1 [.int .i64 s1,.int .i64 s2] rfl rfl ?c1 ?c2 ?c3 ?c4 ?c5 ?_)
 case c1=>exact ak7 (cs:=[.int .i64 s1,.int .i64 s2]) rfl _
 case c2=>intro u hu;simp at hu;rcases hu with rfl | rfl <;> rfl
 case c3=>unfold maxLen;omega
 case c4=>omega
 case c5=>simp;omega
 intro v' w2 hown' hgrow _ hat
 obtain⟨ao',cp',hv',-,-⟩:=xa7 hown'
 subst hv'
 have hR2:=((HR.out.alloc (.cells #[.int .i64 s1,.int .i64 s2] 307)).drew).grown hown1 (by decide) hgrow
 have r0:=hR2.cell (j:=0) (by simp)
 have r1:=hR2.frozen 0
 simp only[List.getElem_cons_zero]at r0
 have hS1:=hS0.grown (by rw[← HRO.out]at hgrow;exact hgrow)
 have HP1:=hid (((zb7.below (B:=B) ((Below.refl _ _).alloc (Nat.le_refl _) _) (by omega)).drew).trans (zb7.append hown1 hgrow (by simp;omega) (Nat.le_refl _)))
 have HP2:=hid (show wc7 (w2.setCell ⟨q,0,none⟩ (.slice ao' (l.length+1) cp')) B q (l++[(s1,s2)]) from by
  refine⟨_,hR2.set (by simp) _, ?_,hq⟩
  have e:(l++[(s1,s2)]).flatMap itemV=l.flatMap itemV++[.int .i64 s1,.int .i64 s2]:=by rw[List.flatMap_append];rfl
  rw[e,List.length_append,List.length_singleton]
  exact la7 hown' hR2 (by decide) _ _)
 have HPA:=hid (show if7 q w (w2.setCell ⟨q,0,none⟩ (.slice ao' (l.length+1) cp')) from fun X e cs ⟨hr,hx,ho⟩=>by
  have h0:=ho _ p0
  have h1:=(hr.alloc (.cells #[.int .i64 s1,.int .i64 s2] 307)).drew
  have h2:Row w2 X e cs:=h1.keep (hgrow.block X h1.lt (fun e=>h0 e.symm))
  refine⟨h2.setOther hx _,hx,fun v hv=>?_⟩
  have h3:=(hR2.set (j:=0) (by simp) (.slice ao' (l.length+1) cp')).cell (j:=0) (by simp)
  rw[h3]at hv
  obtain rfl:=Option.some.inj hv
  rcases hat with h | h
  ·exact fun e=>h0 (h.symm.trans e)
  ·intro e
   have h':(some (w.heap.size+1):Option Nat)=some X:=by simpa using h.symm.trans e
   have:=hr.lt
   have:=Option.some.inj h'
   omega)
 have HP3:=hid (zb7.set hR2 (.inr rfl) hq 0 (.slice ao' (l.length+1) cp'))
 clear hown' hgrow hown1 hi hi0 hi1 hi2 hS0 hR2 hat
 refine⟨hS1,wpQuiet_nil ?_⟩
 go_wp2_with fail
 refine⟨hS1,wpQuiet_nil ?_⟩
 go_wp2_with fail
 go_wp2
 go_end0
 exact⟨rfl,HP2.out,HP1.out.trans HP3.out,HPA.out⟩
theorem chb7 {w:World}{B e k g c n m:Nat}{xs:List Value}(h:w.ownsRow B e k (.slice (some ⟨g,0,none⟩) n c) n xs) (hm:m≤n):w.ownsRow B e k (.slice (some ⟨g,0,none⟩) m c) m (xs.take (m*k)):=by
 have hmk:m*k≤n*k:=Nat.mul_le_mul_right _ hm
 refine⟨by rw[List.length_take,h.1];omega, ?_⟩
 rcases h.2 with ⟨h',_⟩ | ⟨g',cap',cur,h',hb,hg,hnc,hcm,hcs,htake⟩
 ·cases h'
 ·simp only[Value.slice.injEq,Option.some.injEq,Addr.mk.injEq,and_true,true_and]at h'
  obtain⟨rfl,rfl⟩:=h'
  exact .inr ⟨g,c,cur,rfl,hb,hg,by omega,hcm,hcs,by rw[← htake,List.take_take,Nat.min_eq_left hmk]⟩
theorem cub7 {w:World}{B q:Nat}{l:List sa7}{s:sa7}{g:Nat}(h:uk7 w B q g (l++[s])) (hl:l.length≤1000000) :
  Calls Tryz.prog 273 #[.pointer (some ⟨q,0,none⟩)] w fun e w'=>e = .returned (.iface 307 (.agg #[.int .i64 s.1,.int .i64 s.2]))∧uk7 w' B q g l∧zb7 B w w'∧zh7 q g w w':=by
 obtain⟨c,R,O,hq⟩:=h
 have hln:(l++[s]).length=l.length+1:=by simp
 rw[hln]at O R
 have hR:=Row.of_items O
 have hn:l.length+1≤c:=by obtain⟨_,_,e,hn,_⟩:=xa7 O;simp only[Value.slice.injEq]at e;omega
 have hit:=zq7 hR l.length (by omega)
 rw[List.getElem_append_right (Nat.le_refl _)]at hit
 simp only[Nat.sub_self,List.getElem_cons_zero]at hit
 obtain⟨h1,h2⟩:=hit
 obtain⟨s1,s2⟩:=s
 simp only[]at h1 h2
 have p0:=R.cell (j:=0) (by simp)
 have f0:=R.frozen 0
 simp only[List.getElem_cons_zero]at p0
 have hqz:=R.lt
 have hgz:=hR.lt
 obtain⟨n,hnn⟩:∃n,n=l.length+1:=⟨_,rfl⟩
 have hm1:n-1=l.length:=by omega
 have hqw:q≠w.heap.size:=by omega
 have hx:∀w,(Instr.indexAt 325 (.slice (some ⟨g,0,none⟩) n c) (.int .i64 ((n:Int)-1))).run Tryz.prog w = .ok (.pointer (some ⟨g,2*l.length,none⟩)) w:=fun w=>by
  have:=vb7 (c:=c) (n:=n) (k:=l.length) Tryz.underlying325 kv7 (a:=some ⟨g,0,none⟩) rfl (by omega) w
  rw[show ((l.length:Nat):Int)=(n:Int)-1 by omega,Nat.zero_add,Nat.mul_comm]at this
  exact this
 have HR:=hid R
 have HO:=hid O
 rw[← hnn]at p0
 have hn1:(1:Int)≤(n:Int):=by omega
 have hn2:(n:Int)≤1000001:=by omega
 have hn3:(n:Int)-1≤(c:Int):=by omega
 have HN:=hid hnn
 have HM:=hid hm1
 clear R O hnn hm1 hR
 go_enter Tryz.func273,Tryz.ntmps273
 go_wp2
 go_ret
 have hln0:l.length=n-1:=HM.out.symm
 have R1:=HR.out.set (j:=0) (by simp) (.slice (some ⟨g,0,none⟩) (n-1) c)
 have O1:=chb7 HO.out (m:=l.length) (by omega)
 have e:((l++[(s1,s2)]).flatMap itemV).take (l.length*2)=l.flatMap itemV:=by
  rw[List.flatMap_append,List.take_append_of_le_length (by rw[mg7];exact Nat.le_refl _),List.take_of_length_le (by rw[mg7];exact Nat.le_refl _)]
 rw[e]at O1
 have O2:=la7 O1 HR.out (by decide) 0 (.slice (some ⟨g,0,none⟩) (n-1) c)
 have P1:=zb7.set HR.out (.inr rfl) hq 0 (.slice (some ⟨g,0,none⟩) (n-1) c)
 rw[← hln0]at O2 R1 P1 ⊢
 refine⟨rfl,⟨c,R1.alloc _,O2.alloc _,hq⟩,P1.trans (zb7.below ((Below.refl _ _).alloc (Nat.le_refl _) _) (by have:=P1.bel.size;omega)),by simp[World.setCell],fun b hb h1 _=>?_⟩
 rw[Below.heap_alloc _ _ _ (by simpa[World.setCell]using hb),Below.heap_setCell _ _ _ _ h1]
end Go.Proofs.YtabadfkikdefeaaGreat
