/- Texts of the proof, joined: OwnSet, Drafter, Cost, DraftD, DraftG, KahnD, LateD, SoonD, PlanBd, ClockD, TextD, WordD. -/
import Derived.Lib.ItoaLen
import Derived.Test.YtedahhjopmkbbaaGreatPlanClone
set_option linter.all false
set_option maxRecDepth 100000
set_option maxHeartbeats 6400000
namespace Go.Proofs.YtedahhjopmkbbaaGreat
open Go.RowKit
theorem getD_at {α:Type}{l:List α}{k:Nat}{d:α}(h:k<l.length):l.getD k d=l[k]:=by rw[List.getD_eq_getElem?_getD,List.getElem?_eq_getElem h];rfl
theorem xh7.cell {TT TS:Nat}{w:World}{B gs c k j:Nat}{v u:Value}{out:List (List ba7)}{vs:List Value}{t t':List ba7}(h:xh7 TT TS w B v out vs) (hne:TS≠TT) (hk:k<out.length) (ht:out[k]=t)
  (hv:vs.getD k undef = .slice (some ⟨gs,0,none⟩) t.length c) (hl:t'.length=t.length) (hc:t'.flatMap stopV=(t.flatMap stopV).set j u):xh7 TT TS (w.setCell ⟨gs,j,none⟩ u) B v (out.set k t') vs:=by
 have hk':k<vs.length:=by rw[h.len];exact hk
 have hrow:=h.rows k hk hk'
 rw[ht,← getD_at hk',hv]at hrow
 have hst:=hrow.stored j u
 have hblk:(vs[k]).ownBlock=some gs:=by rw[← getD_at (d:=undef) hk',hv];rfl
 refine⟨?_,by simp[h.len],fun i h1 h2=>?_,h.apart⟩
 ·rw[List.length_set]
  refine h.own.kept hst.2 ?_
  rw[← hblk]
  exact xa7 h.own (h.rows k hk hk') (Ne.symm hne)
 ·have hi:i<out.length:=by simpa using h1
  have hi':i<vs.length:=by rw[h.len];exact hi
  by_cases e:k=i
  ·subst e
   have e2:(out.set k t')[k]'h1=t':=by simp
   rw[e2,hl,hc,← getD_at (d:=undef) hi',hv]
   exact hst.1
  ·have e2:(out.set k t')[i]'h1=out[i]:=by simp only[List.getElem_set,if_neg e]
   rw[e2]
   refine (h.rows i hi hi').kept hst.2 ?_
   rw[← hblk]
   exact h.apart i _ hi' hk' (Ne.symm e)
theorem xh7.stops {TT TS:Nat}{w w1:World}{B g cap k:Nat}{out:List (List ba7)}{vs:List Value}{u:Value}{t':List ba7}(h:xh7 TT TS w B (.slice (some ⟨g,0,none⟩) out.length cap) out vs) (hne:TS≠TT) (hk:k<out.length)
  (hg:w.grownBy w1 (vs.getD k undef).ownBlock) (hu:w1.ownsRow B TS 2 u t'.length (t'.flatMap stopV)) (hat:u.ownBlock=(vs.getD k undef).ownBlock∨∃b,u.ownBlock=some b∧w.heap.size≤b) :
  xh7 TT TS (w1.setCell ⟨g,k,none⟩ u) B (.slice (some ⟨g,0,none⟩) out.length cap) (out.set k t') (vs.set k u):=by
 have hk':k<vs.length:=by rw[h.len];exact hk
 rw[getD_at hk']at hg hat
 have hrow:=h.rows k hk hk'
 have howngrow:w1.ownsRow B TT 1 (.slice (some ⟨g,0,none⟩) out.length cap) out.length vs:=h.own.kept hg (xa7 h.own hrow (Ne.symm hne))
 have hst:=howngrow.stored k u
 have hlen:(out.set k t').length=out.length:=by simp
 have hug:u.ownBlock=none∨u.ownBlock≠some g:=xa7 hu howngrow hne
 refine⟨by rw[hlen];exact hst.1,by simp[h.len],fun i h1 h2=>?_,fun i j hi hj hij=>?_⟩
 ·have hi:i<out.length:=by simpa using h1
  have hi':i<vs.length:=by rw[h.len];exact hi
  by_cases e:k=i
  ·subst e
   have e1:(vs.set k u)[k]'h2=u:=by simp
   have e2:(out.set k t')[k]'h1=t':=by simp
   rw[e1,e2]
   exact hu.kept hst.2 hug
  ·have e1:(vs.set k u)[i]'h2=vs[i]:=by rw[List.getElem_set_ne e]
   have e2:(out.set k t')[i]'h1=out[i]:=by simp only[List.getElem_set,if_neg e]
   rw[e1,e2]
   have k1:=(h.rows i hi hi').kept hg (h.apart i _ hi' hk' (Ne.symm e))
   exact k1.kept hst.2 (xa7 k1 howngrow hne)
 ·have hlt:=h.blockLt
  simp only[List.length_set]at hi hj
  simp only[List.getElem_set]
  split
  ·rename_i ei
   split
   ·omega
   ·rename_i ej
    rcases hat with e | ⟨b,e,hb⟩
    ·rw[e];exact h.apart _ j hk' hj ej
    ·refine .inr fun e'=>?_
     have:=hlt j hj b (by rw[← e',e]);omega
  ·rename_i ei
   split
   ·rename_i ej
    rcases hat with e | ⟨b,e,hb⟩
    ·rw[e];exact h.apart i _ hi hk' (by omega)
    ·refine .inr fun e'=>?_
     have:=hlt i hi b (by rw[e',e]);omega
   ·exact h.apart i j hi hj hij
theorem zh7.cell {TB TI:Nat}{w:World}{B gs c k j:Nat}{v:Value}{out:List ga7}{vs:List Value}{x:Int}(h:zh7 TB TI w B v out vs) (hne:TI≠TB) (hk:k<out.length)
  (hv:vs.getD k undef = .slice (some ⟨gs,0,none⟩) (out[k]).stops.length c):zh7 TB TI (w.setCell ⟨gs,j,none⟩ (.int .i64 x)) B v (out.set k ⟨(out[k]).sat,(out[k]).stops.set j x⟩) vs:=by
 have hk':k<vs.length:=by rw[h.len];exact hk
 have hrow:=h.rows k hk hk'
 rw[← getD_at (d:=undef) hk',hv]at hrow
 have hst:=hrow.stored j (.int .i64 x)
 have hblk:(vs[k]).ownBlock=some gs:=by rw[← getD_at (d:=undef) hk',hv];rfl
 have hvk:vs[k] = .slice (some ⟨gs,0,none⟩) (out[k]).stops.length c:=by rw[← getD_at (d:=undef) hk',hv]
 have hcells:fe7 (out.set k ⟨(out[k]).sat,(out[k]).stops.set j x⟩) vs=fe7 out vs:=by
  have h0:=yn7 out vs k hk h.len ⟨(out[k]).sat,(out[k]).stops.set j x⟩ vs[k]
  rw[bo7 (List.getElem?_eq_getElem hk'),bo7 (ig7 out vs k hk hk').1,bo7 (ig7 out vs k hk hk').2]at h0
  exact h0
 refine⟨?_,by simp[h.len],fun i h1 h2=>?_,h.apart⟩
 ·rw[List.length_set,hcells]
  refine h.own.kept hst.2 ?_
  rw[← hblk]
  exact xa7 h.own (h.rows k hk hk') (Ne.symm hne)
 ·have hi:i<out.length:=by simpa using h1
  have hi':i<vs.length:=by rw[h.len];exact hi
  by_cases e:k=i
  ·subst e
   have e2:(out.set k ⟨(out[k]).sat,(out[k]).stops.set j x⟩)[k]'h1=⟨(out[k]).sat,(out[k]).stops.set j x⟩:=by simp
   rw[e2,hvk]
   simp only[List.length_set,List.map_set]
   exact hst.1
  ·have e2:(out.set k ⟨(out[k]).sat,(out[k]).stops.set j x⟩)[i]'h1=out[i]:=by simp only[List.getElem_set,if_neg e]
   rw[e2]
   refine (h.rows i hi hi').kept hst.2 ?_
   rw[← hblk]
   exact h.apart i _ hi' hk' (Ne.symm e)
theorem zh7.sat {TB TI:Nat}{w:World}{B g cap k:Nat}{out:List ga7}{vs:List Value}{x:Int}(h:zh7 TB TI w B (.slice (some ⟨g,0,none⟩) out.length cap) out vs) (hne:TI≠TB) (hk:k<out.length) :
  zh7 TB TI (w.setCell ⟨g,2*k,none⟩ (.int .i64 x)) B (.slice (some ⟨g,0,none⟩) out.length cap) (out.set k ⟨x,(out[k]).stops⟩) vs:=by
 have hk':k<vs.length:=by rw[h.len];exact hk
 have hst:=h.own.stored (2*k) (.int .i64 x)
 have hcells:fe7 (out.set k ⟨x,(out[k]).stops⟩) vs=(fe7 out vs).set (2*k) (.int .i64 x):=by
  have h0:=yn7 out vs k hk h.len ⟨x,(out[k]).stops⟩ vs[k]
  rw[bo7 (List.getElem?_eq_getElem hk')]at h0
  rw[h0,bo7]
  rw[List.getElem?_set_ne (by omega)]
  exact (ig7 out vs k hk hk').2
 refine⟨by rw[List.length_set,hcells];exact hst.1,by simp[h.len],fun i h1 h2=>?_,h.apart⟩
 have hi:i<out.length:=by simpa using h1
 have hi':i<vs.length:=by rw[h.len];exact hi
 have hkeep:=(h.rows i hi hi').kept hst.2 (xa7 (h.rows i hi hi') h.own hne)
 by_cases e:k=i
 ·subst e
  have e2:(out.set k ⟨x,(out[k]).stops⟩)[k]'h1=⟨x,(out[k]).stops⟩:=by simp
  rw[e2]
  exact hkeep
 ·have e2:(out.set k ⟨x,(out[k]).stops⟩)[i]'h1=out[i]:=by simp only[List.getElem_set,if_neg e]
  rw[e2]
  exact hkeep
def gec7 (p:ua7) (what b i:Nat) (at_ by_:Int):List ga7 :=
 match what with
 | 1=>p.bikes.set b ⟨(p.bikes.getD b ⟨0,[]⟩).sat,(p.bikes.getD b ⟨0,[]⟩).stops.eraseIdx i⟩
 | 2=>p.bikes.set b ⟨(p.bikes.getD b ⟨0,[]⟩).sat,(p.bikes.getD b ⟨0,[]⟩).stops++[(p.bikes.getD b ⟨0,[]⟩).stops.getD i 0]⟩
 | 3=>p.bikes.set b ⟨(p.bikes.getD b ⟨0,[]⟩).sat,(p.bikes.getD b ⟨0,[]⟩).stops.set i ((p.bikes.getD b ⟨0,[]⟩).stops.getD i 0+by_)⟩
 | 4=>p.bikes.set b ⟨(p.bikes.getD b ⟨0,[]⟩).sat+by_,(p.bikes.getD b ⟨0,[]⟩).stops⟩
 | 9=>p.bikes++[⟨by_,[]⟩]
 | _=>p.bikes
def hfc7 (p:ua7) (what t k:Nat) (at_ by_:Int):List (List ba7) :=
 match what with
 | 5=>p.trucks.set t ((p.trucks.getD t []).set k ⟨((p.trucks.getD t []).getD k ⟨0,0⟩).sat,((p.trucks.getD t []).getD k ⟨0,0⟩).load+by_⟩)
 | 6=>p.trucks.set t ((p.trucks.getD t []).set k ⟨((p.trucks.getD t []).getD k ⟨0,0⟩).sat+by_,((p.trucks.getD t []).getD k ⟨0,0⟩).load⟩)
 | 7=>p.trucks.set t (p.trucks.getD t []++[⟨((p.trucks.getD t []).getD k ⟨0,0⟩).sat,1⟩])
 | 8=>p.trucks++[[]]
 | 10=>p.trucks.set t (p.trucks.getD t []++[⟨by_,at_⟩])
 | _=>p.trucks
def rs7 (p:ua7) (at_:Nat):Bool:=p.bikes.length==0 || p.trucks.length==0 || (p.bikes.getD (at_ % p.bikes.length) ⟨0,[]⟩).stops.length==0 || (p.trucks.getD (at_ % p.trucks.length) []).length==0
def zf7 (p:ua7) (what at_:Nat) (by_:Int):ua7 :=
 if rs7 p at_ then p else
 ⟨hfc7 p (what % 12) (at_ % p.trucks.length) ((at_ / 3) % (p.trucks.getD (at_ % p.trucks.length) []).length) at_ by_,gec7 p (what % 12) (at_ % p.bikes.length) ((at_ / 3) % (p.bikes.getD (at_ % p.bikes.length) ⟨0,[]⟩).stops.length) at_ by_⟩
structure Mut (ts:List TypeId) (B:Nat) (w w':World):Prop where
 bel:Below B w w'
 old:∀(b:Nat) (cs:Array Value) (e:TypeId) (fz:Nat×Nat),w.heap[b]? = some (.cells cs e fz)→e ∉ ts→w'.heap[b]? = some (.cells cs e fz)
section
variable {ts:List TypeId} {B:Nat} {w w1 w':World}
theorem Mut.refl (ts:List TypeId) (B:Nat) (w:World):Mut ts B w w:=⟨Below.refl _ _,fun _ _ _ _ h _=>h⟩
theorem Mut.trans (h:Mut ts B w w1) (k:Mut ts B w1 w'):Mut ts B w w':=⟨h.bel.trans k.bel,fun b cs e fz hb h1=>k.old b cs e fz (h.old b cs e fz hb h1) h1⟩
theorem Mut.of_grown {row:Option Nat}(hg:w.grownBy w' row) (hB:B≤w.heap.size) (hr:∀b,row=some b→B≤b∧∃cs e fz,w.heap[b]? = some (.cells cs e fz)∧e∈ts):Mut ts B w w':=by
 refine⟨(Below.refl B w).grown hg hB (fun k hk=>(hr k hk).1),fun b cs e fz hb h1=>?_⟩
 rw[hg.block b (Array.getElem?_eq_some_iff.1 hb).1 (fun e'=>?_)]
 ·exact hb
 ·obtain⟨-,cs',e'',fz',hb',ht⟩:=hr b e'.symm
  rw[hb]at hb'
  simp only[Option.some.injEq,Obj.cells.injEq]at hb'
  obtain⟨-,rfl,-⟩:=hb'
  exact h1 ht
theorem Mut.below (hb:Below w.heap.size w w') (hB:B≤w.heap.size):Mut ts B w w' :=
 .of_grown (row:=none) ⟨hb.os,hb.tape,hb.output,hb.size,fun k hk _=>hb.block k hk⟩ hB fun _ h=>by cases h
theorem Mut.set {g:Nat}{e:TypeId}{cs:List Value}(h:Row w g e cs) (he:e∈ts) (hB:B≤g) (j:Nat) (u:Value):Mut ts B w (w.setCell ⟨g,j,none⟩ u):=by
 have hl:=h.lt
 obtain⟨cur,rest,h1,-⟩:=h
 exact .of_grown (qi7 w ⟨g,j,none⟩ u) (by omega) fun b hb=>by
  obtain rfl:=Option.some.inj hb
  exact⟨hB,cur,e,(0,0),h1,he⟩
theorem Mut.append {B' k n T:Nat}{v:Value}{xs:List Value}(h:w.ownsRow B' T k v n xs) (hT:T∈ts) (hg:w.grownBy w' v.ownBlock) (hB:B≤w.heap.size) (hB':B≤B'):Mut ts B w w' :=
 .of_grown hg hB fun b hb=>by
  have hl:=h.lt b hb
  obtain⟨cs,cur,rest,h1,-⟩:=bg7 h hb
  exact⟨by omega,cur,T,_,h1,hT⟩
theorem Mut.row {g:Nat}{e:TypeId}{cs:List Value}(h:Mut ts B w w') (hr:Row w g e cs) (h1:e ∉ ts):Row w' g e cs:=by
 obtain⟨cur,rest,h3,h4⟩:=hr
 exact⟨cur,rest,h.old _ _ _ _ h3 h1,h4⟩
theorem Mut.owns {B' e k n:Nat}{v:Value}{xs:List Value}(h:Mut ts B w w') (hr:w.ownsRow B' e k v n xs) (h1:e ∉ ts):w'.ownsRow B' e k v n xs:=by
 refine⟨hr.1, ?_⟩
 rcases hr.2 with hn | ⟨g,cap,cur,rfl,hb,hgg,rest⟩
 ·exact .inl hn
 ·exact .inr ⟨g,cap,cur,rfl,hb,h.old _ _ _ _ hgg h1,rest⟩
theorem Mut.drew (h:Mut ts B w w'):Mut ts B w w'.drew:=⟨h.bel.drew,h.old⟩
end
def alc7 (w:World) (B qd:Nat) (fr:List Int) (arcs:List irb7):Prop :=
 ∃aa ca af cf,Row w qd 191 [.int .i64 (fr.length:Int),.slice aa arcs.length ca,.slice af fr.length cf]∧w.ownsRow B 202 3 (.slice aa arcs.length ca) arcs.length (arcs.flatMap rxc7) ∧
  w.ownsRow B 2 1 (.slice af fr.length cf) fr.length (fr.map jc7)∧B≤qd
theorem alc7.below {w w':World}{B qd:Nat}{fr:List Int}{arcs:List irb7}(h:alc7 w B qd fr arcs) (hb:Below w.heap.size w w'):alc7 w' B qd fr arcs:=by
 obtain⟨aa,ca,af,cf,R,O1,O2,hq⟩:=h
 exact⟨aa,ca,af,cf,R.below hb,rb7 O1 hb,rb7 O2 hb,hq⟩
theorem alc7.le {w:World}{B qd:Nat}{fr:List Int}{arcs:List irb7}(h:alc7 w B qd fr arcs):B≤w.heap.size:=by
 obtain⟨aa,ca,af,cf,R,O1,O2,hq⟩:=h
 have:=R.lt;omega
def je7 (x:ca7) (c:Int):Prop:=0≤c∧c<x.custs.length
theorem rcb7 {x:ca7}{m:Nat}{c:Int}(h:gh7 x m c=false):je7 x c:=by
 simp only[gh7,Bool.or_eq_false_iff,decide_eq_false_iff_not]at h
 unfold je7;omega
theorem eab7 {x:ca7}:∀(l:List Int) (m:Nat) (left:Int) (r:Nat×Int),l.foldl (jo7 x) (some (m,left))=some r→∀s∈l,je7 x s
 | [],_,_,_,_,s,hs=>by cases hs
 | a::l,m,left,r,h,s,hs=>by
  rw[List.foldl_cons]at h
  cases hb:gh7 x m a
  ·rw[yw7 hb]at h
   rcases List.mem_cons.1 hs with rfl | hs
   ·exact rcb7 hb
   ·exact eab7 l _ _ r h s hs
  ·rw[us7 hb,ns7]at h;cases h
def rz7 (x:ca7) (b:ga7):Prop:=(0≤b.sat∧b.sat<x.sats.length)∧0<b.stops.length∧∀c∈b.stops,je7 x c
theorem nw7 {x:ca7}:∀(l:List ga7) (m:Nat) (d:Bool),(gk7 x l m d).1=true→∀b∈l,rz7 x b
 | [],_,_,_,_,h=>by cases h
 | a::l,m,d,h,b,hb=>by
  cases ha:ll7 x a
  case true=>rw[kr7 ha]at h;cases h
  cases hs:jw7 x m a.stops with
  | none=>rw[qo7 hs]at h;cases h
  | some q =>
   obtain⟨m',left⟩:=q
   rw[gy7 ha hs]at h
   rcases List.mem_cons.1 hb with rfl | hb
   ·simp only[ll7,Bool.or_eq_false_iff,decide_eq_false_iff_not]at ha
    exact⟨by omega,by omega,eab7 _ _ _ _ hs⟩
   ·exact nw7 l _ _ h b hb
structure lsb7 (x:ca7) (p:ua7):Prop where
 inst:check x=0
 many:p.trucks.length≤x.tmany∧p.bikes.length≤x.bmany
 truck:∀t∈p.trucks,0<t.length∧∀s∈t,bi7 x s
 bike:∀b∈p.bikes,rz7 x b
theorem ntb7 {x:ca7}{p:ua7}(h:fb7 x p=0):lsb7 x p:=by
 unfold fb7 at h
 split at h
 ·rename_i h0;exact absurd h h0
 rename_i h0
 split at h
 ·cases h
 rename_i h1
 split at h
 ·cases h
 rename_i h2
 have h0':check x=0:=by simpa using h0
 have h3:(zi7 x p.trucks).1=true∧(mm7 x p.bikes).1=true:=by simpa using h2
 exact⟨h0',by omega,aqb7 h3.1,nw7 _ _ _ h3.2⟩
structure df7 where
 sats:List Int
 order:List Int
 cuts:List Int
def kjb7:Shape df7 where
 sz:=3
 rep:=fun w F x cs=>∃s o c,cs=[s,o,c]∧yc7.rep w F x.sats [s]∧yc7.rep w F x.order [o]∧yc7.rep w F x.cuts [c]
 len:=by rintro w F x cs ⟨_,_,_,rfl,_⟩;rfl
 keep:=by rintro w w' F x cs ⟨_,_,_,rfl,h1,h2,h3⟩ ha;exact⟨_,_,_,rfl,yc7.keep h1 ha,yc7.keep h2 ha,yc7.keep h3 ha⟩
 weak:=by rintro w F G x cs ⟨_,_,_,rfl,h1,h2,h3⟩ ha;exact⟨_,_,_,rfl,yc7.weak h1 ha,yc7.weak h2 ha,yc7.weak h3 ha⟩
 lt:=by rintro w F x cs ⟨_,_,_,rfl,h1,h2,h3⟩;exact⟨_,_,_,rfl,yc7.lt h1,yc7.lt h2,yc7.lt h3⟩
def atD (l:List Int) (i:Nat):Int:=l.getD (i % l.length) 0
def Bytes (l:List Int):Prop:=∀v∈l,wf8 v
theorem zbc7 {l:List Int}(h:Bytes l) (i:Nat):0≤atD l i∧atD l i≤255:=by
 unfold atD
 rw[List.getD_eq_getElem?_getD]
 by_cases hk:i % l.length<l.length
 ·rw[List.getElem?_eq_getElem hk];exact h _ (List.getElem_mem hk)
 ·rw[List.getElem?_eq_none (by omega)];simp
def qkb7 (o:List Int) (c n:Nat):Nat:=(atD o c % ((n:Int)+1)).toNat
def mf7 (o:List Int):Nat→List Nat
 | 0=>[]
 | c+1=>(mf7 o c).take (qkb7 o c (mf7 o c).length)++c::(mf7 o c).drop (qkb7 o c (mf7 o c).length)
theorem abc7 {o:List Int}(h:Bytes o) (c n:Nat):qkb7 o c n≤n∧((qkb7 o c n:Nat):Int)=atD o c % ((n:Int)+1):=by
 have h1:=Int.emod_nonneg (atD o c) (show (n:Int)+1≠0 by omega)
 have h2:=Int.emod_lt_of_pos (atD o c) (show 0<(n:Int)+1 by omega)
 unfold qkb7
 omega
theorem fh7 (o:List Int):∀c,(mf7 o c).length=c
 | 0=>rfl
 | c+1=>by
  have:=fh7 o c
  simp only[mf7,List.length_append,List.length_take,List.length_cons,List.length_drop,this];omega
theorem nk7 (o:List Int):∀c,∀i∈mf7 o c,i<c
 | 0,i,h=>by cases h
 | c+1,i,h=>by
  have ih:=nk7 o c
  simp only[mf7,List.mem_append,List.mem_cons]at h
  rcases h with h | rfl | h
  ·have:=ih i (List.mem_of_mem_take h);omega
  ·omega
  ·have:=ih i (List.mem_of_mem_drop h);omega
def cj7 (bs:List ga7) (s:Int):Nat→Int
 | 0=>-1
 | k+1=>if (bs.getD k ⟨0,[]⟩).sat=s then (k:Int) else cj7 bs s k
theorem av7 (bs:List ga7) (s:Int):∀k,-1≤cj7 bs s k∧cj7 bs s k<k
 | 0=>by simp[cj7]
 | k+1=>by
  have:=av7 bs s k
  simp only[cj7]
  split <;> push_cast <;> omega
def fc7 (x:ca7) (c:Int):oq7:=x.custs.getD c.toNat ⟨0,0,0,0⟩
def hq7 (x:ca7) (l:List Int) (n:Int) (j:Nat):Int:=n+((l.take j).map fun c=>(fc7 x c).load).sum
theorem zab7 {x:ca7}{l:List Int}{n:Int}{j:Nat}(h:j<l.length):hq7 x l n (j+1)=hq7 x l n j+(fc7 x l[j]).load:=by
 unfold hq7
 rw[List.take_succ_eq_append_getElem h,List.map_append,List.sum_append]
 simp only[List.map_cons,List.map_nil,List.sum_cons,List.sum_nil];omega
def sh7 (x:ca7) (w:df7) (c:Nat):Nat:=(atD w.sats c % (x.sats.length:Int)).toNat
def chb7 (x:ca7) (w:df7) (i c:Nat) (bs:List ga7):Bool :=
 decide (0≤cj7 bs (sh7 x w c) bs.length)&&(decide (0<atD w.cuts i % 4)&&decide (hq7 x (bs.getD (cj7 bs (sh7 x w c) bs.length).toNat ⟨0,[]⟩).stops (fc7 x c).load (bs.getD (cj7 bs (sh7 x w c) bs.length).toNat ⟨0,[]⟩).stops.length≤x.broom))
def qeb7 (bs:List ga7) (k:Nat) (c:Int):List ga7:=bs.set k ⟨(bs.getD k ⟨0,[]⟩).sat,(bs.getD k ⟨0,[]⟩).stops++[c]⟩
def zc7 (x:ca7) (w:df7) (i c:Nat) (bs:List ga7):List ga7 :=
 if chb7 x w i c bs then qeb7 bs (cj7 bs (sh7 x w c) bs.length).toNat c else bs++[⟨sh7 x w c,[(c:Int)]⟩]
def wd7 (x:ca7) (w:df7) (c:Nat) (lo:List Int):List Int:=lo.set (sh7 x w c) (lo.getD (sh7 x w c) 0+(fc7 x c).load)
def ff7 (x:ca7) (w:df7) (os:List Nat):Nat→List Int×List ga7
 | 0=>(List.replicate x.sats.length 0,[])
 | k+1=>(wd7 x w (os.getD k 0) (ff7 x w os k).1,zc7 x w k (os.getD k 0) (ff7 x w os k).2)
structure jac7 (x:ca7) (k:Nat) (lo:List Int) (bs:List ga7):Prop where
 loL:lo.length=x.sats.length
 loB:∀v∈lo,0≤v∧v≤1000*(k:Int)
 bsL:bs.length≤k
 bsB:∀b∈bs,(0≤b.sat∧b.sat<x.sats.length)∧b.stops.length≤k∧∀c∈b.stops,0≤c∧c<x.custs.length
theorem jac7.nil (x:ca7):jac7 x 0 (List.replicate x.sats.length 0) [] :=
 ⟨List.length_replicate,fun v hv=>by rw[List.eq_of_mem_replicate hv];simp,Nat.le_refl _,fun _ h=>by cases h⟩
theorem web7 {x:ca7}{w:df7}(h:0<x.sats.length) (c:Nat):sh7 x w c<x.sats.length∧((sh7 x w c:Nat):Int)=atD w.sats c % (x.sats.length:Int):=by
 have h1:=Int.emod_nonneg (atD w.sats c) (show (x.sats.length:Int)≠0 by omega)
 have h2:=Int.emod_lt_of_pos (atD w.sats c) (show 0<(x.sats.length:Int) by omega)
 unfold sh7
 omega
theorem jac7.load {x:ca7}{k:Nat}{lo:List Int}{bs:List ga7}(h:jac7 x k lo bs) (w:df7) (c:Nat) (hc:0≤(fc7 x c).load∧(fc7 x c).load≤1000) :
  (wd7 x w c lo).length=x.sats.length∧∀v∈wd7 x w c lo,0≤v∧v≤1000*((k+1:Nat):Int):=by
 refine⟨by unfold wd7;rw[List.length_set];exact h.loL,fun v hv=>?_⟩
 rcases List.mem_or_eq_of_mem_set hv with hv | rfl
 ·have:=h.loB v hv;push_cast;omega
 ·have:0≤lo.getD (sh7 x w c) 0∧lo.getD (sh7 x w c) 0≤1000*(k:Int):=by
   rw[List.getD_eq_getElem?_getD]
   by_cases hk:sh7 x w c<lo.length
   ·rw[List.getElem?_eq_getElem hk];exact h.loB _ (List.getElem_mem hk)
   ·rw[List.getElem?_eq_none (by omega)];simp;omega
  push_cast;omega
theorem jac7.step {x:ca7}{k:Nat}{lo:List Int}{bs:List ga7}(h:jac7 x k lo bs) (w:df7) {i c:Nat}(hc:0≤(fc7 x c).load∧(fc7 x c).load≤1000) (hs:0<x.sats.length) (hcl:c<x.custs.length):jac7 x (k+1) (wd7 x w c lo) (zc7 x w i c bs):=by
 have h1:=h.load w c hc
 refine⟨h1.1,h1.2, ?_,fun b hb=>?_⟩
 ·unfold zc7 qeb7
  have:=h.bsL
  split
  ·rw[List.length_set];omega
  ·rw[List.length_append];simp;omega
 ·unfold zc7 at hb
  split at hb
  ·rename_i hj
   unfold chb7 at hj
   simp only[Bool.and_eq_true,decide_eq_true_eq]at hj
   have hl:=av7 bs (sh7 x w c) bs.length
   have hk:(cj7 bs (sh7 x w c) bs.length).toNat<bs.length:=by omega
   unfold qeb7 at hb
   rcases List.mem_or_eq_of_mem_set hb with hb | rfl
   ·have:=h.bsB b hb;exact⟨this.1,by omega,this.2.2⟩
   ·rw[List.getD_eq_getElem?_getD,List.getElem?_eq_getElem hk,Option.getD_some]
    have:=h.bsB _ (List.getElem_mem hk)
    refine⟨this.1,by rw[List.length_append];simp;omega,fun d hd=>?_⟩
    rcases List.mem_append.1 hd with hd | hd
    ·exact this.2.2 d hd
    ·obtain rfl:=List.mem_singleton.1 hd;omega
  ·rcases List.mem_append.1 hb with hb | hb
   ·have:=h.bsB b hb;exact⟨this.1,by omega,this.2.2⟩
   ·obtain rfl:=List.mem_singleton.1 hb
    have:=(web7 (w:=w) hs c).1
    refine⟨by simp only[];omega,by simp,fun d hd=>?_⟩
    obtain rfl:=List.mem_singleton.1 hd;omega
theorem fk7 {x:ca7}(w:df7) {os:List Nat}(hc:∀c∈x.custs,0≤c.load∧c.load≤1000) (hs:0<x.sats.length) (ho:∀c∈os,c<x.custs.length):∀k,k≤os.length→jac7 x k (ff7 x w os k).1 (ff7 x w os k).2
 | 0,_=>jac7.nil x
 | k+1,h=>by
  have hk:os.getD k 0<x.custs.length:=by rw[List.getD_eq_getElem?_getD,List.getElem?_eq_getElem (by omega)];exact ho _ (List.getElem_mem _)
  refine (fk7 w hc hs ho k (by omega)).step w ?_ hs hk
  unfold fc7
  rw[Int.toNat_natCast,List.getD_eq_getElem?_getD,List.getElem?_eq_getElem hk]
  exact hc _ (List.getElem_mem hk)
def readyQ (many room:Int) (q:Bool) (st:List (List ba7)×Int):List (List ba7)×Int:=if st.2=0∨(q=true∧(st.1.length:Int)<many) then (st.1++[[]],room) else st
def bx7 (many room:Int) (q:Bool) (s:Nat):Nat→Int→List (List ba7)×Int→List (List ba7)×Int
 | 0,_,st=>st
 | f+1,n,st=>if n≤0 then st else
   bx7 many room q s f (n-min n (readyQ many room q st).2) (cb7 (readyQ many room q st).1 ⟨s,min n (readyQ many room q st).2⟩,(readyQ many room q st).2-min n (readyQ many room q st).2)
def bsb7 (w:df7) (s:Nat):Bool:=decide (atD w.cuts s % 7=6)
def dUp (x:ca7) (w:df7) (lo:List Int):Nat→List (List ba7)×Int
 | 0=>([],0)
 | s+1=>bx7 x.tmany x.troom (bsb7 w s) s (lo.getD s 0).toNat (lo.getD s 0) (dUp x w lo s)
def jd7 (x:ca7) (w:df7):List Nat:=mf7 w.order x.custs.length
def ib7 (x:ca7) (w:df7):List Int×List ga7:=ff7 x w (jd7 x w) (jd7 x w).length
def fg7 (x:ca7) (w:df7):ua7:=⟨(dUp x w (ib7 x w).1 (ib7 x w).1.length).1,(ib7 x w).2⟩
theorem ufb7 {many room:Int}{q:Bool}{s f:Nat}{n:Int}{st:List (List ba7)×Int}(h:n≤0):bx7 many room q s f n st=st:=by
 cases f with
 | zero=>rfl
 | succ f=>unfold bx7;rw[if_pos h]
theorem ie7.readyQ {many room left:Int}{q:Bool}{cnt:Nat}{out:List (List ba7)}(h:ie7 room cnt out left) (hr:1≤room) :
  ∃o l,Go.Proofs.YtedahhjopmkbbaaGreat.readyQ many room q (out,left)=(o,l)∧0<l∧l≤room∧0<o.length∧o.length≤cnt+1∧∀t∈o,t.length≤cnt∧∀s∈t,(0≤s.sat∧s.sat≤1000)∧0≤s.load∧s.load≤cnt:=by
 have hl:=h.leftB
 have hn:=h.lenB
 unfold Go.Proofs.YtedahhjopmkbbaaGreat.readyQ
 by_cases hz:left=0∨(q=true∧(out.length:Int)<many)
 ·rw[if_pos hz]
  refine⟨_,_,rfl,by omega,Int.le_refl _,by simp,by simp;omega,fun t ht=>?_⟩
  rcases List.mem_append.1 ht with ht | ht
  ·exact h.stB t ht
  ·obtain rfl:=List.mem_singleton.1 ht
   exact⟨Nat.zero_le _,fun s hs=>by cases hs⟩
 ·rw[if_neg hz]
  have hz2:left≠0:=fun e=>hz (.inl e)
  exact⟨out,left,rfl,by omega,hl.2,h.someB (by omega),by omega,h.stB⟩
theorem ie7.batch {room l much:Int}{cnt s:Nat}{o:List (List ba7)}(hl:0<l∧l≤room) (ho:0<o.length∧o.length≤cnt+1) (hst:∀t∈o,t.length≤cnt∧∀s∈t,(0≤s.sat∧s.sat≤1000)∧0≤s.load∧s.load≤cnt) (hm:1≤much∧much≤l) (hs:s≤1000) :
  ie7 room (cnt+much.toNat) (cb7 o ⟨s,much⟩) (l-much):=by
 refine⟨by omega,by rw[fp7];omega,fun _=>by rw[fp7];exact ho.1,fun t ht=>?_⟩
 unfold cb7 at ht
 rcases List.mem_or_eq_of_mem_set ht with ht | rfl
 ·have:=hst t ht;exact⟨by omega,fun u hu=>by have:=this.2 u hu;push_cast;omega⟩
 ·have:=hst _ (ny7 ho.1)
  unfold lastT at this
  refine⟨by rw[List.length_append,List.length_singleton];omega,fun u hu=>?_⟩
  rcases List.mem_append.1 hu with hu | hu
  ·have:=this.2 u hu;push_cast;omega
  ·obtain rfl:=List.mem_singleton.1 hu
   show (0≤(s:Int)∧(s:Int)≤1000)∧0≤much∧much≤((cnt+much.toNat:Nat):Int)
   omega
def gb7 (x:ca7) (a b:Int):Int:=(x.time.getD a.toNat []).getD b.toNat 0
theorem pe7 {x:ca7}(g:Good x) (a b:Int):0≤gb7 x a b∧gb7 x a b≤1000000000:=by
 unfold gb7
 rw[List.getD_eq_getElem?_getD,List.getD_eq_getElem?_getD]
 by_cases h1:a.toNat<x.time.length
 ·rw[List.getElem?_eq_getElem h1,Option.getD_some]
  by_cases h2:b.toNat<(x.time[a.toNat]).length
  ·rw[List.getElem?_eq_getElem h2,Option.getD_some]
   exact g.time _ (List.getElem_mem h1) _ (List.getElem_mem h2)
  ·rw[List.getElem?_eq_none (by omega)];simp
 ·rw[show x.time[a.toNat]? = none from List.getElem?_eq_none (by omega)];simp
structure DrS where
 fr:List Int
 arcs:List irb7
 att:List (List Nat)
structure StT where
 d:DrS
 last:Int
 node:Int
def ch7 (att:List (List Nat)) (s n:Nat):List (List Nat):=att.set s (att.getD s []++[n])
def vd7 (x:ca7) (st:StT) (s:ba7):StT :=
 ⟨⟨if st.last<0 then st.d.fr++[gb7 x 0 (1+s.sat)] else st.d.fr++[0],
  if st.last<0 then st.d.arcs else st.d.arcs++[⟨st.last.toNat,st.d.fr.length,gb7 x st.node (1+s.sat)⟩],
  ch7 st.d.att s.sat.toNat st.d.fr.length⟩,st.d.fr.length,1+s.sat⟩
def eq7 (x:ca7) (d:DrS) (t:List ba7):DrS:=(t.foldl (vd7 x) ⟨d,-1,0⟩).d
def uj7 (x:ca7):DrS:=⟨[],[],List.replicate x.sats.length []⟩
def ddc7 (x:ca7) (l:List (List ba7)):DrS:=l.foldl (eq7 x) (uj7 x)
structure StB where
 d:DrS
 last:Nat
 node:Int
 stay:Int
def vi7 (x:ca7) (s:Int):Int:=(x.sats.getD s.toNat ⟨0,0⟩).hold
def od7 (x:ca7) (st:StB) (c:Int):StB :=
 ⟨⟨st.d.fr++[(fc7 x c).opn],st.d.arcs++[⟨st.last,st.d.fr.length,st.stay+gb7 x st.node (1+x.sats.length+c)⟩],st.d.att⟩,st.d.fr.length,1+x.sats.length+c,(fc7 x c).stay⟩
def sn7 (x:ca7) (d:DrS) (b:ga7) (m:Nat):List irb7:=((d.att.getD b.sat.toNat []).take m).map fun n=>⟨n,d.fr.length,vi7 x b.sat⟩
def pc7 (x:ca7) (d:DrS) (b:ga7):StB:=⟨⟨d.fr++[0],d.arcs++sn7 x d b (d.att.getD b.sat.toNat []).length,d.att⟩,d.fr.length,1+b.sat,0⟩
def hy7 (x:ca7) (st:StB) (b:ga7):DrS:=⟨st.d.fr++[0],st.d.arcs++[⟨st.last,st.d.fr.length,st.stay+gb7 x st.node (1+b.sat)⟩],st.d.att⟩
def xp7 (x:ca7) (d:DrS) (b:ga7):DrS:=hy7 x (b.stops.foldl (od7 x) (pc7 x d b)) b
def xy7 (x:ca7) (p:ua7):DrS:=p.bikes.foldl (xp7 x) (ddc7 x p.trucks)
structure glb7 (x:ca7) (d:DrS) (n m:Nat):Prop where
 frL:d.fr.length=n
 arL:d.arcs.length≤m
 atL:d.att.length=x.sats.length
 at':∀l∈d.att,l.length≤n∧∀k∈l,k<n
structure ifc7 (x:ca7) (st:StT) (n:Nat):Prop where
 ok:glb7 x st.d n n
 lastB:-1≤st.last∧st.last<n
 nodeB:0≤st.node∧st.node<nodes x
theorem czb7 {x:ca7}{d:DrS}{n m:Nat}(h:glb7 x d n m) (s:Nat):(d.att.getD s []).length≤n∧∀k∈d.att.getD s [],k<n:=by
 rw[List.getD_eq_getElem?_getD]
 by_cases hs:s<d.att.length
 ·rw[List.getElem?_eq_getElem hs];exact h.at' _ (List.getElem_mem hs)
 ·rw[List.getElem?_eq_none (by omega)];simp
theorem glb7.start (x:ca7):glb7 x (uj7 x) 0 0:=⟨rfl,Nat.le_refl _,by simp[uj7],fun l hl=>by rw[List.eq_of_mem_replicate hl];simp⟩
theorem ifc7.start {x:ca7}{d:DrS}{n:Nat}(h:glb7 x d n n):ifc7 x ⟨d,-1,0⟩ n:=⟨h,⟨Int.le_refl _,by show (-1:Int)<n;omega⟩,⟨Int.le_refl _,by show (0:Int)<(nodes x:Int);unfold nodes;omega⟩⟩
theorem ifc7.step {x:ca7}{st:StT}{n:Nat}{s:ba7}(h:ifc7 x st n) (hs:bi7 x s):ifc7 x (vd7 x st s) (n+1):=by
 have hg:=czb7 h.ok s.sat.toNat
 have h0:=hs.1
 refine⟨⟨?_, ?_, ?_,fun l hl=>?_⟩, ?_, ?_⟩
 ·simp only[vd7];split <;> rw[List.length_append,List.length_singleton,h.ok.frL]
 ·have:=h.ok.arL
  simp only[vd7];split
  ·omega
  ·rw[List.length_append,List.length_singleton];omega
 ·simp only[vd7,ch7,List.length_set];exact h.ok.atL
 ·simp only[vd7,ch7]at hl
  rcases List.mem_or_eq_of_mem_set hl with hl | rfl
  ·have:=h.ok.at' l hl;exact⟨by omega,fun k hk=>by have:=this.2 k hk;omega⟩
  ·refine⟨by rw[List.length_append,List.length_singleton];omega,fun k hk=>?_⟩
   rcases List.mem_append.1 hk with hk | hk
   ·have:=hg.2 k hk;omega
   ·rw[List.mem_singleton.1 hk,h.ok.frL];omega
 ·simp only[vd7];rw[h.ok.frL];omega
 ·simp only[vd7];unfold nodes;omega
theorem wnb7 {x:ca7}{t:List ba7}(ht:∀s∈t,bi7 x s) {d:DrS}{n:Nat}(h:glb7 x d n n):∀j,j≤t.length→ifc7 x ((t.take j).foldl (vd7 x) ⟨d,-1,0⟩) (n+j)
 | 0,_=>ifc7.start h
 | j+1,hj=>by
  rw[gc7 _ _ _ _ (by omega),← Nat.add_assoc]
  exact (wnb7 ht h j (by omega)).step (ht _ (List.getElem_mem _))
theorem afb7 {x:ca7}{l:List (List ba7)}(hl:∀t∈l,∀s∈t,bi7 x s):∀k,k≤l.length→glb7 x ((l.take k).foldl (eq7 x) (uj7 x)) (kc7 l k) (kc7 l k)
 | 0,_=>by simpa[kc7]using glb7.start x
 | k+1,hk=>by
  have hk':k<l.length:=by omega
  rw[gc7 _ _ _ _ hk',uk7 hk']
  have h:=(wnb7 (hl _ (List.getElem_mem hk')) (afb7 hl k (by omega)) l[k].length (Nat.le_refl _)).ok
  rw[List.take_length]at h
  exact h
structure mcc7 (x:ca7) (st:StB) (n m:Nat):Prop where
 ok:glb7 x st.d n m
 lastB:st.last<n
 nodeB:0≤st.node∧st.node<nodes x
 stayB:0≤st.stay∧st.stay≤1000000000
theorem mcc7.start {x:ca7}{d:DrS}{n m:Nat}{b:ga7}(h:glb7 x d n m) (hb:0≤b.sat∧b.sat<x.sats.length):mcc7 x (pc7 x d b) (n+1) (m+n):=by
 have hg:=czb7 h b.sat.toNat
 refine⟨⟨?_, ?_,h.atL,fun l hl=>?_⟩, ?_, ?_,by simp only[pc7];omega⟩
 ·simp only[pc7];rw[List.length_append,List.length_singleton,h.frL]
 ·have:=h.arL
  simp only[pc7,sn7];rw[List.length_append,List.length_map,List.length_take];omega
 ·have:=h.at' l hl;exact⟨by omega,fun k hk=>by have:=this.2 k hk;omega⟩
 ·simp only[pc7];rw[h.frL];omega
 ·simp only[pc7];unfold nodes;omega
theorem mcc7.step {x:ca7}(gd:Good x) {st:StB}{n m:Nat}{c:Int}(h:mcc7 x st n m) (hc:je7 x c):mcc7 x (od7 x st c) (n+1) (m+1):=by
 have hcu:(fc7 x c).stay=(fc7 x c).stay:=rfl
 have hcl:c.toNat<x.custs.length:=by unfold je7 at hc;omega
 have hst:=(gd.cust _ (List.getElem_mem hcl)).2.2.2
 unfold je7 at hc
 refine⟨⟨?_, ?_,h.ok.atL,fun l hl=>?_⟩, ?_, ?_, ?_⟩
 ·simp only[od7];rw[List.length_append,List.length_singleton,h.ok.frL]
 ·have:=h.ok.arL
  simp only[od7];rw[List.length_append,List.length_singleton];omega
 ·have:=h.ok.at' l hl;exact⟨by omega,fun k hk=>by have:=this.2 k hk;omega⟩
 ·simp only[od7];rw[h.ok.frL];omega
 ·simp only[od7];unfold nodes;omega
 ·simp only[od7,fc7]
  rw[List.getD_eq_getElem?_getD,List.getElem?_eq_getElem hcl]
  exact hst
theorem tmb7 {x:ca7}(gd:Good x) {b:ga7}(hb:rz7 x b) {d:DrS}{n m:Nat}(h:glb7 x d n m):∀j,j≤b.stops.length→mcc7 x ((b.stops.take j).foldl (od7 x) (pc7 x d b)) (n+1+j) (m+n+j)
 | 0,_=>mcc7.start h hb.1
 | j+1,hj=>by
  rw[gc7 _ _ _ _ (by omega),← Nat.add_assoc,← Nat.add_assoc]
  exact (tmb7 gd hb h j (by omega)).step gd (hb.2.2 _ (List.getElem_mem _))
theorem mcc7.done {x:ca7}{st:StB}{n m:Nat}{b:ga7}(h:mcc7 x st n m):glb7 x (hy7 x st b) (n+1) (m+1):=by
 refine⟨?_, ?_,h.ok.atL,fun l hl=>?_⟩
 ·simp only[hy7];rw[List.length_append,List.length_singleton,h.ok.frL]
 ·have:=h.ok.arL
  simp only[hy7];rw[List.length_append,List.length_singleton];omega
 ·have:=h.ok.at' l hl;exact⟨by omega,fun k hk=>by have:=this.2 k hk;omega⟩
def mzb7 (T:Nat) (l:List ga7) (k:Nat):Nat:=T+ic7 l k+2*k
theorem uub7 {T:Nat}{l:List ga7}{k:Nat}(h:k<l.length):mzb7 T l (k+1)=mzb7 T l k+1+l[k].stops.length+1:=by unfold mzb7;rw[th7 h];omega
theorem fob7 {x:ca7}(gd:Good x) {l:List ga7}(hl:∀b∈l,rz7 x b) {d:DrS}{T:Nat}(h:glb7 x d T T):∀k,k≤l.length→∃m,m≤mzb7 T l k*(k+1)∧glb7 x ((l.take k).foldl (xp7 x) d) (mzb7 T l k) m
 | 0,_=>⟨T,by simp[mzb7,ic7],by simpa[mzb7,ic7]using h⟩
 | k+1,hk=>by
  have hk':k<l.length:=by omega
  obtain⟨m,hm,ih⟩:=fob7 gd hl h k (by omega)
  rw[gc7 _ _ _ _ hk',uub7 hk']
  have hd:=((tmb7 gd (hl _ (List.getElem_mem hk')) ih l[k].stops.length (Nat.le_refl _)).done (b:=l[k]))
  rw[List.take_length]at hd
  refine⟨_, ?_,hd⟩
  generalize mzb7 T l k=E at hm ⊢
  have e:(E+1+l[k].stops.length+1)*(k+1+1)=E*(k+1)+E+(1+l[k].stops.length+1)*(k+1)+(1+l[k].stops.length+1):=by
   simp only[Nat.add_mul,Nat.mul_add];omega
  rw[e]
  have:0≤(1+l[k].stops.length+1)*(k+1):=Nat.zero_le _
  omega
/-! The table of the trucks' events. -/
structure xcc7 (w:World) (B ga:Nat) (att:List (List Nat)) (vs:List Value):Prop where
 row:Row w ga 72 vs
 len:vs.length=att.length
 rows:∀i (h:i<att.length) (h':i<vs.length),w.ownsRow B 3 1 vs[i] att[i].length (att[i].map fpc7)
 apart:∀i j (hi:i<vs.length) (hj:j<vs.length),i≠j→vs[i].ownBlock=none∨vs[i].ownBlock≠vs[j].ownBlock
theorem xcc7.below {w w':World}{B ga:Nat}{att:List (List Nat)}{vs:List Value}(h:xcc7 w B ga att vs) (hb:Below w.heap.size w w'):xcc7 w' B ga att vs :=
 ⟨h.row.below hb,h.len,fun i h1 h2=>rb7 (h.rows i h1 h2) hb,h.apart⟩
theorem xcc7.push {w w1:World}{B ga s n:Nat}{att:List (List Nat)}{vs:List Value}{u:Value}(h:xcc7 w B ga att vs) (hs:s<att.length) (hsv:s<vs.length)
  (hg:w.grownBy w1 vs[s].ownBlock) (hu:w1.ownsRow B 3 1 u (att[s].length+1) (att[s].map fpc7++[fpc7 n])) (hat:u.ownBlock=vs[s].ownBlock∨∃b,u.ownBlock=some b∧w.heap.size≤b) :
  xcc7 (w1.setCell ⟨ga,s,none⟩ u) B ga (ch7 att s n) (vs.set s u):=by
 have hrow:=h.rows _ hs hsv
 have R1:Row w1 ga 72 vs:=h.row.grown hrow (by decide) hg
 have e0:att.getD s []=att[s]:=by rw[List.getD_eq_getElem?_getD,List.getElem?_eq_getElem hs];rfl
 refine⟨R1.set hsv u,by unfold ch7;rw[List.length_set,List.length_set,h.len],fun i h1 h2=>?_,fun i j hi hj hij=>?_⟩
 ·have hi:i<att.length:=by unfold ch7 at h1;rw[List.length_set]at h1;exact h1
  have hi':i<vs.length:=by rw[h.len];exact hi
  by_cases e:s=i
  ·subst e
   have e1:(vs.set s u)[s]'h2=u:=by simp
   have e2:(ch7 att s n)[s]'h1=att[s]++[n]:=by simp only[ch7,List.getElem_set_self];rw[e0]
   rw[e1,e2,List.map_append,List.length_append,List.length_singleton]
   exact md7 hu R1 (by decide) _ _
  ·have e1:(vs.set s u)[i]'h2=vs[i]:=by rw[List.getElem_set_ne e]
   have e2:(ch7 att s n)[i]'h1=att[i]:=by simp only[ch7,List.getElem_set,if_neg e]
   rw[e1,e2]
   exact md7 ((h.rows i hi hi').kept hg (h.apart i _ hi' hsv (Ne.symm e))) R1 (by decide) _ _
 ·have hlt:∀i (hi:i<vs.length) b,vs[i].ownBlock=some b→b<w.heap.size:=fun i hi b hb=>((h.rows i (by rw[← h.len];exact hi) hi).lt b hb).2
  simp only[List.length_set]at hi hj
  simp only[List.getElem_set]
  split
  ·rename_i ei
   split
   ·omega
   ·rename_i ej
    rcases hat with e | ⟨b,e,hb⟩
    ·rw[e];exact h.apart _ j hsv hj ej
    ·refine .inr fun e'=>?_
     have:=hlt j hj b (by rw[← e',e]);omega
  ·rename_i ei
   split
   ·rename_i ej
    rcases hat with e | ⟨b,e,hb⟩
    ·rw[e];exact h.apart i _ hi hsv (by omega)
    ·refine .inr fun e'=>?_
     have:=hlt i hi b (by rw[e',e]);omega
   ·exact h.apart i j hi hj hij
theorem xcc7.new (w:World) (B n:Nat):xcc7 (w.alloc (.cells (Array.replicate n (.slice none 0 0)) 72)) B w.heap.size (List.replicate n []) (List.replicate n (.slice none 0 0)):=by
 have h:=Row.new (w:=w) (g:=w.heap.size) (e:=72) (cs:=List.replicate n (.slice none 0 0)) rfl
 refine⟨by simpa using h,by simp,fun i h1 h2=>?_,fun i j hi hj _=>.inl ?_⟩
 ·simp only[List.getElem_replicate]
  exact World.ownsRow_nil _ _ _ _
 ·simp only[List.getElem_replicate];rfl
theorem dl7 {α:Type}[DecidableEq α]:∀(l m:List α),l.Nodup→(∀x∈l,x∈m)→l.length≤m.length
 | [],_,_,_=>Nat.zero_le _
 | a::l,m,hn,hs=>by
  have hn':=List.nodup_cons.1 hn
  have ha:=hs a (List.mem_cons_self ..)
  have ih:=dl7 l (m.erase a) hn'.2 fun x hx=>(List.mem_erase_of_ne (by rintro rfl;exact hn'.1 hx)).2 (hs x (List.mem_cons_of_mem _ hx))
  rw[List.length_erase_of_mem ha]at ih
  have:=List.length_pos_of_mem ha
  rw[List.length_cons];omega
theorem qm7 {l:List Nat}{n:Nat}(hn:l.Nodup) (h:∀i∈l,i<n):l.length≤n:=by
 have:=dl7 l (List.range n) hn fun x hx=>List.mem_range.2 (h x hx)
 rwa [List.length_range]at this
def wz7 (g:bb7) (D:Nat→Bool) (j:Nat):Nat→Nat
 | 0=>0
 | n+1=>wz7 g D j n+if (na7 g n).dst==j && !D n then 1 else 0
def upd (D:Nat→Bool) (k:Nat):Nat→Bool:=fun m=>m==k || D m
theorem dzb7 (g:bb7) (D:Nat→Bool) (j:Nat):∀n,wz7 g D j n≤n
 | 0=>Nat.le_refl _
 | n+1=>by have:=dzb7 g D j n;unfold wz7;split <;> omega
theorem fs7 {g:bb7}{D:Nat→Bool}{j k:Nat}(h:(na7 g k).dst≠j):∀n,wz7 g (upd D k) j n=wz7 g D j n
 | 0=>rfl
 | n+1=>by
  unfold wz7
  rw[fs7 h n]
  congr 1
  by_cases e:n=k
  ·subst e;simp[h]
  ·simp[upd,e]
theorem qxb7 {g:bb7}{D:Nat→Bool}{j k:Nat}:∀n,n≤k→wz7 g (upd D k) j n=wz7 g D j n
 | 0,_=>rfl
 | n+1,h=>by
  unfold wz7
  rw[qxb7 n (by omega)]
  have e:n≠k:=by omega
  simp[upd,e]
theorem agb7 {g:bb7}{D:Nat→Bool}{j k:Nat}(hd:D k=false) (hj:(na7 g k).dst=j):∀n,k<n→wz7 g (upd D k) j n+1=wz7 g D j n
 | 0,h=>absurd h (Nat.not_lt_zero _)
 | n+1,h=>by
  unfold wz7
  by_cases e:n=k
  ·subst e
   rw[qxb7 n (Nat.le_refl _)]
   simp[upd,hd,hj]
  ·have ih:=agb7 hd hj n (by omega)
   have e2:upd D k n=D n:=by simp[upd,e]
   rw[e2];omega
theorem sgb7 {g:bb7}{D:Nat→Bool}{j:Nat}:∀n,wz7 g D j n=0↔∀k,k<n→(na7 g k).dst=j→D k=true
 | 0=>by simp[wz7]
 | n+1=>by
  have ih:=sgb7 (g:=g) (D:=D) (j:=j) n
  unfold wz7
  rw[Nat.add_eq_zero_iff,ih]
  constructor
  ·rintro⟨h1,h2⟩ k hk hd
   by_cases e:k=n
   ·subst e
    cases hD:D k with
    | true=>rfl
    | false=>simp[hd,hD]at h2
   ·exact h1 k (by omega) hd
  ·intro h
   refine⟨fun k hk=>h k (by omega), ?_⟩
   by_cases e:(na7 g n).dst=j
   ·simp[h n (by omega) e]
   ·simp[e]
structure lzb7 (g:bb7) (out:List Nat) (D:Nat→Bool) (ins:List Int) (ids:List Nat):Prop where
 len:ins.length=g.n
 ins:∀j,j<g.n→ins.getD j 0=(wz7 g D j g.arcs.length:Int)
 nodup:out.Nodup
 lt:∀i∈out,i<g.n
 idsN:ids.Nodup
 idsM:∀j,j∈ids↔j<g.n∧j ∉ out∧wz7 g D j g.arcs.length=0
 topo:∀p (h:p<out.length),∀k,k<g.arcs.length→(na7 g k).dst=out[p]→(na7 g k).frm∈out.take p
 doneOut:∀k,k<g.arcs.length→D k=true→(na7 g k).frm∈out
theorem lzb7.start {g:bb7}{ins:List Int}{ids:List Nat}(hl:ins.length=g.n) (hi:∀j,j<g.n→ins.getD j 0=(wz7 g (fun _=>false) j g.arcs.length:Int)) (hn:ids.Nodup)
  (hm:∀j,j∈ids↔j<g.n∧wz7 g (fun _=>false) j g.arcs.length=0):lzb7 g [] (fun _=>false) ins ids :=
 ⟨hl,hi,List.nodup_nil,(fun _ h=>by cases h),hn,fun j=>by rw[hm];simp,fun p h=>absurd h (Nat.not_lt_zero _),fun _ _ h=>by cases h⟩
def Full (g:bb7) (out:List Nat) (D:Nat→Bool):Prop:=∀k,k<g.arcs.length→(na7 g k).frm∈out→D k=true
def pab7 (g:bb7) (out:List Nat) (D:Nat→Bool) (rest:List Nat):Prop:=rest.Nodup∧(∀k∈rest,k<g.arcs.length∧D k=false)∧∀k,k<g.arcs.length→(na7 g k).frm∈out→D k=true∨k∈rest
theorem fr7 {g:bb7}{i n k:Nat}:k∈jrb7 g i n↔k<n∧(na7 g k).frm=i:=by
 unfold jrb7;simp[List.mem_filter]
theorem oy7 (g:bb7) (i n:Nat):(jrb7 g i n).Nodup:=List.Pairwise.filter _ List.nodup_range
theorem lzb7.take {g:bb7}{out:List Nat}{D:Nat→Bool}{ins:List Int}{ids ids':List Nat}{i:Nat}(h:lzb7 g out D ins ids) (hf:Full g out D) (hp:(i::ids').Perm ids) :
  i<g.n∧lzb7 g (out++[i]) D ins ids'∧pab7 g (out++[i]) D (jrb7 g i g.arcs.length):=by
 obtain⟨hi1,hi2,hi3⟩:=(h.idsM i).1 (hp.mem_iff.1 (List.mem_cons_self ..))
 have hn:=List.nodup_cons.1 (hp.nodup_iff.2 h.idsN)
 refine⟨hi1,⟨h.len,h.ins, ?_, ?_,hn.2,fun j=>?_,fun p hpl k hk hd=>?_,fun k hk hd=>List.mem_append_left _ (h.doneOut k hk hd)⟩,oy7 _ _ _,fun k hk=>?_,fun k hk hfr=>?_⟩
 ·rw[List.nodup_append]
  exact⟨h.nodup,by simp,fun a ha b hb e=>hi2 (by rw[List.mem_singleton]at hb;rw[← hb,← e];exact ha)⟩
 ·intro j hj
  rcases List.mem_append.1 hj with hj | hj
  ·exact h.lt j hj
  ·rw[List.mem_singleton.1 hj];exact hi1
 ·have e:j∈ids'↔j∈ids∧j≠i:=by
   rw[← hp.mem_iff,List.mem_cons]
   constructor
   ·intro hj;exact⟨.inr hj,by rintro rfl;exact hn.1 hj⟩
   ·rintro⟨hj,hne⟩;exact hj.resolve_left hne
  rw[e,h.idsM,List.mem_append,List.mem_singleton]
  constructor
  ·rintro⟨⟨a,b,c⟩,d⟩;exact⟨a,fun h=>h.elim b d,c⟩
  ·rintro⟨a,b,c⟩;exact⟨⟨a,fun h=>b (.inl h),c⟩,fun h=>b (.inr h)⟩
 ·by_cases hpo:p<out.length
  ·rw[List.getElem_append_left hpo]at hd
   rw[List.take_append_of_le_length (by omega)]
   exact h.topo p hpo k hk hd
  ·have hpe:p=out.length:=by rw[List.length_append,List.length_singleton]at hpl;omega
   subst hpe
   rw[List.getElem_append_right (Nat.le_refl _)]at hd
   simp only[Nat.sub_self,List.getElem_cons_zero]at hd
   rw[List.take_append_of_le_length (Nat.le_refl _),List.take_length]
   exact h.doneOut k hk ((sgb7 _).1 hi3 k hk hd)
 ·obtain⟨h1,h2⟩:=fr7.1 hk
  refine⟨h1, ?_⟩
  cases hD:D k with
  | false=>rfl
  | true=>exact absurd (h2 ▸ h.doneOut k h1 hD) hi2
 ·rcases List.mem_append.1 hfr with hfr | hfr
  ·exact .inl (hf k hk hfr)
  ·exact .inr (fr7.2 ⟨hk,List.mem_singleton.1 hfr⟩)
theorem lzb7.dst_new {g:bb7}{o:List Nat}{i:Nat}{D:Nat→Bool}{ins:List Int}{ids:List Nat}(h:lzb7 g (o++[i]) D ins ids) {k:Nat}(hk:k<g.arcs.length) (hf:(na7 g k).frm=i):(na7 g k).dst ∉ o++[i]:=by
 intro hm
 obtain⟨p,hp,e⟩:=List.getElem_of_mem hm
 have ht:=h.topo p hp k hk e.symm
 rw[hf]at ht
 have hpo:p≤o.length:=by rw[List.length_append,List.length_singleton]at hp;omega
 rw[List.take_append_of_le_length hpo]at ht
 have hn:=h.nodup
 rw[List.nodup_append]at hn
 exact hn.2.2 i (List.mem_of_mem_take ht) i (List.mem_singleton.2 rfl) rfl
theorem lzb7.arc {g:bb7}{o:List Nat}{i:Nat}{D:Nat→Bool}{ins:List Int}{ids:List Nat}(h:lzb7 g (o++[i]) D ins ids) {k:Nat}{rest:List Nat}(hP:pab7 g (o++[i]) D (k::rest)) (hf:(na7 g k).frm=i) (hd:(na7 g k).dst<g.n)
  {v:Int} (hv:ins.getD (na7 g k).dst 0=v) {ids':List Nat} (hi:if v-1=0 then ids'.Perm ((na7 g k).dst::ids) else ids'=ids) :
  (1≤v∧v≤g.arcs.length)∧lzb7 g (o++[i]) (upd D k) (ins.set (na7 g k).dst (v-1)) ids'∧pab7 g (o++[i]) (upd D k) rest:=by
 obtain⟨hP1,hP2,hP3⟩:=hP
 have hP1':=List.nodup_cons.1 hP1
 obtain⟨hk,hDk⟩:=hP2 k (List.mem_cons_self ..)
 have hnew:=h.dst_new hk hf
 have hvc:=h.ins _ hd
 rw[hv]at hvc
 have hdone:=agb7 (g:=g) hDk rfl g.arcs.length hk
 have hle:=dzb7 g D (na7 g k).dst g.arcs.length
 have hnid:(na7 g k).dst ∉ ids:=fun hm=>by have:=((h.idsM _).1 hm).2.2;omega
 have key:∀j,j∈ids'↔j<g.n∧j ∉ o++[i]∧wz7 g (upd D k) j g.arcs.length=0:=fun j=>by
  by_cases e:(na7 g k).dst=j
  ·subst e
   split at hi
   ·rw[hi.mem_iff]
    exact⟨fun _=>⟨hd,hnew,by omega⟩,fun _=>List.mem_cons_self ..⟩
   ·subst hi
    constructor
    ·exact fun hm=>absurd hm hnid
    ·rintro⟨_,_,h0⟩;omega
  ·rw[fs7 e]
   rw[← h.idsM j]
   split at hi
   ·rw[hi.mem_iff,List.mem_cons]
    exact⟨fun hj=>hj.resolve_left (fun h=>e h.symm),.inr⟩
   ·subst hi;exact Iff.rfl
 refine⟨⟨by omega,by omega⟩,⟨by rw[List.length_set];exact h.len,fun j hj=>?_,h.nodup,h.lt, ?_,key,h.topo,fun m hm hD=>?_⟩,hP1'.2,fun m hm=>?_,fun m hm hfr=>?_⟩
 ·rw[List.getD_eq_getElem?_getD,List.getElem?_set]
  by_cases e:(na7 g k).dst=j
  ·subst e
   rw[if_pos rfl,if_pos (by rw[h.len];exact hj),Option.getD_some];omega
  ·rw[if_neg e,fs7 e,← h.ins j hj,List.getD_eq_getElem?_getD]
 ·split at hi
  ·exact hi.nodup_iff.2 (List.nodup_cons.2 ⟨hnid,h.idsN⟩)
  ·rw[hi];exact h.idsN
 ·unfold upd at hD
  rcases Bool.or_eq_true_iff.1 hD with e | e
  ·rw[beq_iff_eq.1 e,hf];simp
  ·exact h.doneOut m hm e
 ·have hmk:m≠k:=by rintro rfl;exact hP1'.1 hm
  obtain⟨a,b⟩:=hP2 m (List.mem_cons_of_mem _ hm)
  exact⟨a,by simp[upd,hmk,b]⟩
 ·rcases hP3 m hm hfr with hh | hh
  ·exact .inl (by simp[upd,hh])
  ·rcases List.mem_cons.1 hh with rfl | hh
   ·exact .inl (by simp[upd])
   ·exact .inr hh
theorem pab7.full {g:bb7}{out:List Nat}{D:Nat→Bool}(h:pab7 g out D []):Full g out D:=fun k hk hf=>(h.2.2 k hk hf).resolve_right (fun h=>by cases h)
structure xic7 (g:bb7) (out:List Nat):Prop where
 nodup:out.Nodup
 lt:∀i∈out,i<g.n
 all:∀i,i<g.n→i∈out
 before:∀p (h:p<out.length),∀k,k<g.arcs.length→(na7 g k).dst=out[p]→(na7 g k).frm∈out.take p
theorem xic7.len {g:bb7}{out:List Nat}(h:xic7 g out):out.length=g.n:=by
 have h1:=qm7 h.nodup h.lt
 have h2:=dl7 (List.range g.n) out List.nodup_range fun x hx=>h.all x (List.mem_range.1 hx)
 rw[List.length_range]at h2
 omega
theorem yu7 (l:List Int) (k i:Nat) (v:Int):(l.set k v).getD i 0=if k=i∧i<l.length then v else l.getD i 0:=by
 rw[List.getD_eq_getElem?_getD,List.getElem?_set,List.getD_eq_getElem?_getD]
 by_cases e:k=i
 ·subst e
  by_cases h:k<l.length
  ·rw[if_pos rfl,if_pos h,if_pos ⟨rfl,h⟩];rfl
  ·rw[if_pos rfl,if_neg h,if_neg (fun h'=>h h'.2),List.getElem?_eq_none (by omega)]
 ·rw[if_neg e,if_neg (fun h=>e h.1)]
structure qvb7 (g:bb7) (fr d:List Int) (D:Nat→Bool):Prop where
 len:d.length=g.n
 lo:∀j,j<g.n→fr.getD j 0≤d.getD j 0
 up:∀k,k<g.arcs.length→D k=true→d.getD (na7 g k).frm 0+(na7 g k).wt≤d.getD (na7 g k).dst 0
 eq:∀j,j<g.n→d.getD j 0=fr.getD j 0∨∃k,k<g.arcs.length∧D k=true∧(na7 g k).dst=j∧d.getD j 0=d.getD (na7 g k).frm 0+(na7 g k).wt
def ty7 (d:List Int) (s:irb7):List Int:=d.set s.dst (max (d.getD s.dst 0) (d.getD s.frm 0+s.wt))
theorem qvb7.start {g:bb7}{fr:List Int}(h:fr.length=g.n):qvb7 g fr fr (fun _=>false):=⟨h,fun _ _=>Int.le_refl _,(fun _ _ h=>by cases h),fun _ _=>.inl rfl⟩
theorem qvb7.arc {g:bb7}{fr d:List Int}{D:Nat→Bool}(h:qvb7 g fr d D) {k:Nat}(hk:k<g.arcs.length) (hn:(na7 g k).dst<g.n) (hne:(na7 g k).frm≠(na7 g k).dst) (hD:∀m,m<g.arcs.length→D m=true→(na7 g m).frm≠(na7 g k).dst) :
  qvb7 g fr (ty7 d (na7 g k)) (upd D k):=by
 have hl:(na7 g k).dst<d.length:=by rw[h.len];exact hn
 have hget:∀i,(ty7 d (na7 g k)).getD i 0=if (na7 g k).dst=i then max (d.getD (na7 g k).dst 0) (d.getD (na7 g k).frm 0+(na7 g k).wt) else d.getD i 0:=fun i=>by
  unfold ty7
  rw[yu7]
  by_cases e:(na7 g k).dst=i
  ·rw[if_pos ⟨e,by omega⟩,if_pos e]
  ·rw[if_neg (fun h=>e h.1),if_neg e]
 have hfk:(ty7 d (na7 g k)).getD (na7 g k).frm 0=d.getD (na7 g k).frm 0:=by rw[hget,if_neg (fun e=>hne e.symm)]
 have hfm:∀m,m<g.arcs.length→D m=true→(ty7 d (na7 g k)).getD (na7 g m).frm 0=d.getD (na7 g m).frm 0:=fun m hm hd=>by rw[hget,if_neg (fun e=>hD m hm hd e.symm)]
 have hge:∀i,d.getD i 0≤(ty7 d (na7 g k)).getD i 0:=fun i=>by
  rw[hget]
  by_cases e:(na7 g k).dst=i
  ·subst e;rw[if_pos rfl];omega
  ·rw[if_neg e];exact Int.le_refl _
 refine⟨by unfold ty7;rw[List.length_set];exact h.len,fun j hj=>Int.le_trans (h.lo j hj) (hge j),fun m hm hd=>?_,fun j hj=>?_⟩
 ·unfold upd at hd
  by_cases e:m=k
  ·subst e
   rw[hfk,hget,if_pos rfl];omega
  ·have hd':D m=true:=by simpa[e]using hd
   rw[hfm m hm hd']
   exact Int.le_trans (h.up m hm hd') (hge _)
 ·by_cases e:(na7 g k).dst=j
  ·subst e
   rw[hget,if_pos rfl]
   by_cases hc:d.getD (na7 g k).frm 0+(na7 g k).wt≤d.getD (na7 g k).dst 0
   ·rw[show max (d.getD (na7 g k).dst 0) (d.getD (na7 g k).frm 0+(na7 g k).wt)=d.getD (na7 g k).dst 0 by omega]
    rcases h.eq _ hj with h0 | ⟨m,hm,hd,h1,h2⟩
    ·exact .inl h0
    ·exact .inr ⟨m,hm,by simp[upd,hd],h1,by rw[hfm m hm hd];exact h2⟩
   ·exact .inr ⟨k,hk,by simp[upd],rfl,by rw[hfk];omega⟩
  ·rw[hget,if_neg e]
   rcases h.eq _ hj with h0 | ⟨m,hm,hd,h1,h2⟩
   ·exact .inl h0
   ·exact .inr ⟨m,hm,by simp[upd,hd],h1,by rw[hfm m hm hd];exact h2⟩
def jn7 (g:bb7) (fr d:List Int):Prop:=qvb7 g fr d (fun _=>true)
theorem qvb7.late {g:bb7}{fr d:List Int}{D:Nat→Bool}(h:qvb7 g fr d D) (hD:∀k,k<g.arcs.length→D k=true):jn7 g fr d :=
 ⟨h.len,h.lo,fun k hk _=>h.up k hk (hD k hk),fun j hj=>(h.eq j hj).imp id fun ⟨k,h1,h2,h3⟩=>⟨k,h1,rfl,h3⟩⟩
theorem jn7.unique {g:bb7}{fr d d':List Int}(hg:∀a∈g.arcs,a.frm<a.dst∧a.dst<g.n) (h:jn7 g fr d) (h':jn7 g fr d'):d=d':=by
 have key:∀j,j<g.n→d.getD j 0=d'.getD j 0:=by
  intro j
  induction j using Nat.strongRecOn with
  | _ j ih =>
   intro hj
   have step:∀k,k<g.arcs.length→(na7 g k).dst=j→d.getD (na7 g k).frm 0=d'.getD (na7 g k).frm 0:=fun k hk hd=>by
    have:=hg _ (List.getElem_mem hk)
    rw[← mh7 hk]at this
    exact ih _ (by omega) (by omega)
   have le1:d.getD j 0≤d'.getD j 0:=by
    rcases h.eq j hj with h0 | ⟨k,hk,_,h1,h2⟩
    ·have:=h'.lo j hj;omega
    ·have:=h'.up k hk rfl
     rw[h1,← step k hk h1]at this;omega
   have le2:d'.getD j 0≤d.getD j 0:=by
    rcases h'.eq j hj with h0 | ⟨k,hk,_,h1,h2⟩
    ·have:=h.lo j hj;omega
    ·have:=h.up k hk rfl
     rw[h1,step k hk h1]at this;omega
   omega
 refine List.ext_getElem (by rw[h.len,h'.len]) fun i h1 h2=>?_
 have:=key i (by rw[← h.len];exact h1)
 rw[List.getD_eq_getElem?_getD,List.getD_eq_getElem?_getD,List.getElem?_eq_getElem h1,List.getElem?_eq_getElem h2]at this
 exact this
theorem xic7.new {g:bb7}{l:List Nat}(h:xic7 g l) {p:Nat}(hp:p<l.length) {k:Nat}(hk:k<g.arcs.length) (hf:(na7 g k).frm=l[p]):(na7 g k).dst ∉ l.take (p+1):=by
 intro hm
 obtain⟨q,hq,e⟩:=List.getElem_of_mem hm
 rw[List.getElem_take]at e
 have hq':q<p+1:=by rw[List.length_take]at hq;omega
 have ht:=h.before q (by omega) k hk e.symm
 rw[hf]at ht
 obtain⟨r,hr,e2⟩:=List.getElem_of_mem ht
 rw[List.getElem_take]at e2
 have hrq:r<q:=by rw[List.length_take]at hr;omega
 exact (List.pairwise_iff_getElem.1 h.nodup) r p (by omega) hp (by omega) e2
structure LSt (g:bb7) (fr:List Int) (M:Int) (l:List Nat) (p:Nat) (d:List Int) (D:Nat→Bool) (rest:List Nat):Prop where
 inv:qvb7 g fr d D
 done:∀k,k<g.arcs.length→D k=true→(na7 g k).frm∈l.take (p+1)
 part:pab7 g (l.take (p+1)) D rest
 bd:∀j,j<g.n→0≤d.getD j 0∧d.getD j 0≤M+1099511627776*((p:Int)+1)
 bi:∀(h:p<l.length),d.getD l[p] 0≤M+1099511627776*(p:Int)
structure rkc7 (g:bb7) (fr:List Int) (M:Int) (l:List Nat) (p:Nat) (d:List Int) (D:Nat→Bool):Prop where
 inv:qvb7 g fr d D
 done:∀k,k<g.arcs.length→D k=true→(na7 g k).frm∈l.take p
 full:Full g (l.take p) D
 bd:∀j,j<g.n→0≤d.getD j 0∧d.getD j 0≤M+1099511627776*(p:Int)
theorem rkc7.start {g:bb7}{fr:List Int}{M:Int}{l:List Nat}(h:fr.length=g.n) (hb:∀v∈fr,0≤v∧v≤M):rkc7 g fr M l 0 fr (fun _=>false) :=
 ⟨qvb7.start h,(fun _ _ h=>by cases h),(fun _ _ h=>by simp at h),fun j hj=>by
  rw[List.getD_eq_getElem?_getD,List.getElem?_eq_getElem (by omega)]
  have:=hb _ (List.getElem_mem (show j<fr.length by omega))
  simpa using this⟩
theorem rkc7.next {g:bb7}{fr:List Int}{M:Int}{l:List Nat}{p:Nat}{d:List Int}{D:Nat→Bool}(h:rkc7 g fr M l p d D) (hT:xic7 g l) (hp:p<l.length):LSt g fr M l p d D (jrb7 g l[p] g.arcs.length):=by
 have htk:l.take (p+1)=l.take p++[l[p]]:=List.take_succ_eq_append_getElem hp
 refine⟨h.inv,fun k hk hd=>by rw[htk];exact List.mem_append_left _ (h.done k hk hd),⟨oy7 _ _ _,fun k hk=>?_,fun k hk hf=>?_⟩,fun j hj=>by have:=h.bd j hj;omega,fun _=>(h.bd _ (hT.lt _ (List.getElem_mem hp))).2⟩
 ·obtain⟨h1,h2⟩:=fr7.1 hk
  refine⟨h1, ?_⟩
  cases hD:D k with
  | false=>rfl
  | true =>
   have hm:=h.done k h1 hD
   rw[h2]at hm
   obtain⟨r,hr,e2⟩:=List.getElem_of_mem hm
   rw[List.getElem_take]at e2
   have hrq:r<p:=by rw[List.length_take]at hr;omega
   exact absurd e2 ((List.pairwise_iff_getElem.1 hT.nodup) r p (by omega) hp (by omega))
 ·rw[htk]at hf
  rcases List.mem_append.1 hf with hf | hf
  ·exact .inl (h.full k hk hf)
  ·exact .inr (fr7.2 ⟨hk,List.mem_singleton.1 hf⟩)
theorem LSt.arc {g:bb7}{fr:List Int}{M:Int}{l:List Nat}{p:Nat}{d:List Int}{D:Nat→Bool}{k:Nat}{rest:List Nat}(h:LSt g fr M l p d D (k::rest)) (hg:kxb7 g) (hT:xic7 g l) (hp:p<l.length) (hk:k<g.arcs.length) (hf:(na7 g k).frm=l[p]) :
  LSt g fr M l p (ty7 d (na7 g k)) (upd D k) rest:=by
 have ha:=hg.arc _ (List.getElem_mem hk)
 rw[← mh7 hk]at ha
 have hnew:=hT.new hp hk hf
 have hpi:l[p]∈l.take (p+1):=by rw[List.take_succ_eq_append_getElem hp];exact List.mem_append_right _ (List.mem_singleton.2 rfl)
 have hnd:∀m,m<g.arcs.length→D m=true→(na7 g m).frm≠(na7 g k).dst:=fun m hm hd e=>hnew (e ▸ h.done m hm hd)
 have hbi:=h.bi hp
 obtain⟨hP1,hP2,hP3⟩:=h.part
 have hP1':=List.nodup_cons.1 hP1
 have hget:∀i,(ty7 d (na7 g k)).getD i 0=if (na7 g k).dst=i then max (d.getD (na7 g k).dst 0) (d.getD (na7 g k).frm 0+(na7 g k).wt) else d.getD i 0:=fun i=>by
  unfold ty7
  rw[yu7]
  by_cases e:(na7 g k).dst=i
  ·rw[if_pos ⟨e,by rw[h.inv.len];omega⟩,if_pos e]
  ·rw[if_neg (fun h=>e h.1),if_neg e]
 refine⟨h.inv.arc hk ha.2.1 (by omega) hnd,fun m hm hd=>?_,⟨hP1'.2,fun m hm=>?_,fun m hm hfr=>?_⟩,fun j hj=>?_,fun _=>?_⟩
 ·unfold upd at hd
  rcases Bool.or_eq_true_iff.1 hd with e | e
  ·rw[beq_iff_eq.1 e,hf];exact hpi
  ·exact h.done m hm e
 ·have hmk:m≠k:=by rintro rfl;exact hP1'.1 hm
  obtain⟨a,b⟩:=hP2 m (List.mem_cons_of_mem _ hm)
  exact⟨a,by simp[upd,hmk,b]⟩
 ·rcases hP3 m hm hfr with hh | hh
  ·exact .inl (by simp[upd,hh])
  ·rcases List.mem_cons.1 hh with rfl | hh
   ·exact .inl (by simp[upd])
   ·exact .inr hh
 ·have h1:=h.bd j hj
  rw[hget]
  split
  ·rename_i e
   subst e
   rw[hf]
   omega
  ·exact h1
 ·rw[hget,if_neg (fun e:(na7 g k).dst=l[p]=>hnew (by rw[e];exact hpi))]
  exact hbi
theorem rkc7.late {g:bb7}{fr:List Int}{M:Int}{l:List Nat}{d:List Int}{D:Nat→Bool}(h:rkc7 g fr M l l.length d D) (hg:kxb7 g) (hT:xic7 g l):jn7 g fr d:=by
 refine h.inv.late fun k hk=>h.full k hk ?_
 have ha:=hg.arc _ (List.getElem_mem hk)
 rw[← mh7 hk]at ha
 rw[List.take_length]
 exact hT.all _ (by omega)
structure SnT where
 now:Int
 node:Int
 ready:List Int
 l:List Int
def xb7 (x:ca7) (st:SnT) (s:ba7):SnT :=
 ⟨st.now+gb7 x st.node (1+s.sat),1+s.sat,st.ready.set s.sat.toNat (max (st.ready.getD s.sat.toNat 0) (st.now+gb7 x st.node (1+s.sat)+vi7 x s.sat)),st.l++[st.now+gb7 x st.node (1+s.sat)]⟩
structure SnA where
 ready:List Int
 ts:List (List Int)
def mi7 (x:ca7) (a:SnA) (t:List ba7):SnT:=t.foldl (xb7 x) ⟨0,0,a.ready,[]⟩
def ee7 (x:ca7) (a:SnA) (t:List ba7):SnA:=⟨(mi7 x a t).ready,a.ts++[(mi7 x a t).l]⟩
def sa7 (x:ca7) (l:List (List ba7)):SnA:=l.foldl (ee7 x) ⟨List.replicate x.sats.length 0,[]⟩
structure SnB where
 now:Int
 node:Int
 starts:List Int
def yb7 (x:ca7) (st:SnB) (c:Int):SnB :=
 ⟨max (st.now+gb7 x st.node (1+x.sats.length+c)) (fc7 x c).opn+(fc7 x c).stay,1+x.sats.length+c,st.starts++[max (st.now+gb7 x st.node (1+x.sats.length+c)) (fc7 x c).opn]⟩
def kd7 (x:ca7) (ready:List Int) (b:ga7):SnB:=b.stops.foldl (yb7 x) ⟨ready.getD b.sat.toNat 0,1+b.sat,[]⟩
def tg7 (x:ca7) (ready:List Int) (b:ga7):ka7 :=
 ⟨ready.getD b.sat.toNat 0,(kd7 x ready b).starts,(kd7 x ready b).now+gb7 x (kd7 x ready b).node (1+b.sat)⟩
def fm7 (x:ca7) (p:ua7):nb7:=⟨(sa7 x p.trucks).ts,p.bikes.map (tg7 x (sa7 x p.trucks).ready)⟩
def bxb7 (r:ka7):List Int:=r.out::(r.starts++[r.back])
def mrc7 (t:nb7):List Int:=t.trucks.flatten++t.bikes.flatMap bxb7
theorem rp7 {n:Nat}{arcs:List irb7}{fr d:List Int}:jn7 ⟨n,arcs⟩ fr d↔d.length=n∧(∀j,j<n→fr.getD j 0≤d.getD j 0)∧(∀a∈arcs,d.getD a.frm 0+a.wt≤d.getD a.dst 0)∧∀j,j<n→d.getD j 0=fr.getD j 0∨∃a∈arcs,a.dst=j∧d.getD j 0=d.getD a.frm 0+a.wt:=by
 constructor
 ·intro h
  refine⟨h.len,h.lo,fun a ha=>?_,fun j hj=>?_⟩
  ·obtain⟨k,hk,rfl⟩:=List.getElem_of_mem ha
   have h1:=h.up k hk rfl
   rw[mh7 (g:=⟨n,arcs⟩) hk]at h1
   exact h1
  ·rcases h.eq j hj with h1 | ⟨k,hk,-,h1,h2⟩
   ·exact .inl h1
   ·rw[mh7 (g:=⟨n,arcs⟩) hk]at h1 h2
    exact .inr ⟨arcs[k]'hk,List.getElem_mem _,h1,h2⟩
 ·rintro⟨h1,h2,h3,h4⟩
  refine⟨h1,h2,fun k hk _=>?_,fun j hj=>?_⟩
  ·rw[mh7 (g:=⟨n,arcs⟩) hk];exact h3 _ (List.getElem_mem _)
  ·rcases h4 j hj with h5 | ⟨a,ha,h5,h6⟩
   ·exact .inl h5
   ·obtain⟨k,hk,rfl⟩:=List.getElem_of_mem ha
    exact .inr ⟨k,hk,rfl,by rw[mh7 (g:=⟨n,arcs⟩) hk];exact h5,by rw[mh7 (g:=⟨n,arcs⟩) hk];exact h6⟩
theorem ev7 (l:List Int) (v:Int) (i:Nat):(l++[v]).getD i 0=if i<l.length then l.getD i 0 else if i=l.length then v else 0:=by
 rw[List.getD_eq_getElem?_getD,List.getD_eq_getElem?_getD]
 by_cases h:i<l.length
 ·rw[if_pos h,List.getElem?_append_left h]
 ·rw[if_neg h,List.getElem?_append_right (by omega)]
  by_cases h2:i=l.length
  ·rw[if_pos h2,h2,Nat.sub_self];rfl
  ·rw[if_neg h2,List.getElem?_eq_none (by simp only[List.length_singleton];omega)];rfl
theorem wc7 {l:List Int}{v:Int}{i:Nat}(h:i<l.length):(l++[v]).getD i 0=l.getD i 0:=by rw[ev7,if_pos h]
theorem sd7 (l:List Int) (v:Int):(l++[v]).getD l.length 0=v:=by rw[ev7,if_neg (by omega),if_pos rfl]
theorem xub7 {n:Nat}{arcs new:List irb7}{fr d:List Int}{f v:Int}(h:jn7 ⟨n,arcs⟩ fr d) (hfr:fr.length=n) (ho:∀a∈arcs,a.frm<n∧a.dst<n) (hn:∀a∈new,a.frm<n∧a.dst=n)
  (hf:f≤v) (hu:∀a∈new,d.getD a.frm 0+a.wt≤v) (he:v=f∨∃a∈new,v=d.getD a.frm 0+a.wt):jn7 ⟨n+1,arcs++new⟩ (fr++[f]) (d++[v]):=by
 obtain⟨h1,h2,h3,h4⟩:=rp7.1 h
 subst h1
 have hv:∀j,j<d.length→(fr++[f]).getD j 0=fr.getD j 0:=fun j hj=>wc7 (by omega)
 have hvl:(fr++[f]).getD d.length 0=f:=by rw[← hfr,sd7]
 refine rp7.2 ⟨by simp,fun j hj=>?_,fun a ha=>?_,fun j hj=>?_⟩
 ·rcases Nat.lt_or_ge j d.length with hj' | hj'
  ·rw[hv j hj',wc7 hj'];exact h2 j hj'
  ·obtain rfl:j=d.length:=by omega
   rw[hvl,sd7];exact hf
 ·rcases List.mem_append.1 ha with ha | ha
  ·obtain⟨p,q⟩:=ho a ha
   rw[wc7 p,wc7 q];exact h3 a ha
  ·obtain⟨p,q⟩:=hn a ha
   rw[wc7 p,q,sd7];exact hu a ha
 ·rcases Nat.lt_or_ge j d.length with hj' | hj'
  ·rw[hv j hj',wc7 hj']
   rcases h4 j hj' with h5 | ⟨a,ha,h5,h6⟩
   ·exact .inl h5
   ·exact .inr ⟨a,List.mem_append_left _ ha,h5,by rw[wc7 (ho a ha).1];exact h6⟩
  ·obtain rfl:j=d.length:=by omega
   rw[hvl,sd7]
   rcases he with he | ⟨a,ha,h6⟩
   ·exact .inl he
   ·exact .inr ⟨a,List.mem_append_right _ ha,(hn a ha).2,by rw[wc7 (hn a ha).1];exact h6⟩
structure eh7 (x:ca7) (d:DrS) (ts ready:List Int):Prop where
 late:jn7 ⟨d.fr.length,d.arcs⟩ d.fr ts
 arc:∀a∈d.arcs,a.frm<a.dst∧a.dst<d.fr.length∧0≤a.wt∧a.wt≤1099511627776
 frB:∀f∈d.fr,0≤f∧f≤1000000000
 tsB:∀i,0≤ts.getD i 0
 rdyL:ready.length=x.sats.length
 attL:d.att.length=x.sats.length
 rdy:∀s,s<x.sats.length→0≤ready.getD s 0∧(∀n∈d.att.getD s [],n<d.fr.length∧ts.getD n 0+vi7 x s≤ready.getD s 0)∧(ready.getD s 0=0∨∃n∈d.att.getD s [],ready.getD s 0=ts.getD n 0+vi7 x s)
theorem eh7.len {x:ca7}{d:DrS}{ts ready:List Int}(h:eh7 x d ts ready):ts.length=d.fr.length:=(rp7.1 h.late).1
theorem eh7.event {x:ca7}{d:DrS}{ts ready:List Int}{f v:Int}{new:List irb7}(h:eh7 x d ts ready) (hn:∀a∈new,a.frm<d.fr.length∧a.dst=d.fr.length∧0≤a.wt∧a.wt≤1099511627776)
  (hf0:0≤f∧f≤1000000000) (hf:f≤v) (hu:∀a∈new,ts.getD a.frm 0+a.wt≤v) (he:v=f∨∃a∈new,v=ts.getD a.frm 0+a.wt):eh7 x ⟨d.fr++[f],d.arcs++new,d.att⟩ (ts++[v]) ready:=by
 have hl:=h.len
 refine⟨?_,fun a ha=>?_,fun g hg=>?_,fun i=>?_,h.rdyL,h.attL,fun s hs=>?_⟩
 ·rw[List.length_append,List.length_singleton]
  exact xub7 h.late rfl (fun a ha=>⟨by have:=h.arc a ha;omega,(h.arc a ha).2.1⟩) (fun a ha=>⟨(hn a ha).1,(hn a ha).2.1⟩) hf hu he
 ·rw[List.length_append,List.length_singleton]
  rcases List.mem_append.1 ha with ha | ha
  ·have:=h.arc a ha;omega
  ·have:=hn a ha;omega
 ·rcases List.mem_append.1 hg with hg | hg
  ·exact h.frB g hg
  ·rw[List.mem_singleton.1 hg];exact hf0
 ·have:=h.tsB i
  rw[ev7]
  split
  ·exact this
  ·split <;> omega
 ·obtain⟨h1,h2,h3⟩:=h.rdy s hs
  refine⟨h1,fun n hn'=>?_, ?_⟩
  ·obtain⟨p,q⟩:=h2 n hn'
   rw[List.length_append,List.length_singleton,wc7 (by omega)]
   exact⟨by omega,q⟩
  ·rcases h3 with h3 | ⟨n,hn',h3⟩
   ·exact .inl h3
   ·exact .inr ⟨n,hn',by rw[wc7 (by have:=(h2 n hn').1;omega)];exact h3⟩
theorem xfb7 {α:Type}(l:List α) (k i:Nat) (v z:α) (hk:k<l.length):(l.set k v).getD i z=if k=i then v else l.getD i z:=by
 rw[List.getD_eq_getElem?_getD,List.getD_eq_getElem?_getD,List.getElem?_set]
 by_cases e:k=i
 ·rw[if_pos e,if_pos e,if_pos hk];rfl
 ·rw[if_neg e,if_neg e]
theorem ax7 {x:ca7}(g:Good x) (s:Int):0≤vi7 x s∧vi7 x s≤1000000000:=by
 unfold vi7
 rw[List.getD_eq_getElem?_getD]
 by_cases h:s.toNat<x.sats.length
 ·rw[List.getElem?_eq_getElem h,Option.getD_some];exact (g.sat _ (List.getElem_mem h)).2
 ·rw[List.getElem?_eq_none (by omega)];simp
theorem qcb7 {x:ca7}(g:Good x) {c:Int}(hc:je7 x c):(0≤(fc7 x c).opn∧(fc7 x c).opn≤1000000000)∧((fc7 x c).opn≤(fc7 x c).cls∧(fc7 x c).cls≤1000000000)∧0≤(fc7 x c).stay∧(fc7 x c).stay≤1000000000:=by
 unfold fc7
 obtain⟨h1,h2⟩:=hc
 have h:c.toNat<x.custs.length:=by omega
 rw[List.getD_eq_getElem?_getD,List.getElem?_eq_getElem h,Option.getD_some]
 exact (g.cust _ (List.getElem_mem h)).2
theorem eh7.att {x:ca7}{d:DrS}{ts ready:List Int}{s:Int}{v:Int}{fr:List Int}{arcs:List irb7}{n:Nat}(h:eh7 x ⟨fr,arcs,d.att⟩ ts ready) (hs:0≤s∧s<x.sats.length) (hn:n<fr.length) (hv:ts.getD n 0=v) (gd:Good x) :
  eh7 x ⟨fr,arcs,ch7 d.att s.toNat n⟩ ts (ready.set s.toNat (max (ready.getD s.toNat 0) (v+vi7 x s))):=by
 have ha:s.toNat<d.att.length:=by have:=h.attL;show s.toNat<(DrS.mk fr arcs d.att).att.length;omega
 have hr:s.toNat<ready.length:=by have:=h.rdyL;omega
 have hh:=ax7 gd s
 have hv0:=h.tsB n
 refine⟨h.late,h.arc,h.frB,h.tsB,by rw[List.length_set];exact h.rdyL,by show (ch7 d.att s.toNat n).length=_;unfold ch7;rw[List.length_set];exact h.attL,fun k hk=>?_⟩
 obtain⟨h1,h2,h3⟩:=h.rdy k hk
 show 0≤_∧(∀m∈(ch7 d.att s.toNat n).getD k [],_)∧(_∨∃m∈(ch7 d.att s.toNat n).getD k [],_)
 unfold ch7
 rw[xfb7 _ _ _ _ _ ha,xfb7 _ _ _ _ _ hr]
 by_cases e:s.toNat=k
 ·rw[if_pos e,if_pos e]
  have es:vi7 x (k:Int)=vi7 x s:=by rw[← e,Int.toNat_of_nonneg hs.1]
  rw[es]at h2 h3 ⊢
  rw[e]
  refine⟨by omega,fun m hm=>?_, ?_⟩
  ·rcases List.mem_append.1 hm with hm | hm
   ·obtain⟨p,q⟩:=h2 m hm
    exact⟨p,by omega⟩
   ·rw[List.mem_singleton.1 hm];exact⟨hn,by omega⟩
  ·rcases Int.le_total (v+vi7 x s) (ready.getD k 0) with hle | hle
   ·rw[Int.max_eq_left hle]
    rcases h3 with h3 | ⟨m,hm,h3⟩
    ·exact .inl h3
    ·exact .inr ⟨m,List.mem_append_left _ hm,h3⟩
   ·rw[Int.max_eq_right hle]
    exact .inr ⟨n,List.mem_append_right _ (List.mem_singleton.2 rfl),by rw[hv]⟩
 ·rw[if_neg e,if_neg e]
  exact⟨h1,h2,h3⟩
structure xpb7 (x:ca7) (st:StT) (sn:SnT) (ts0:List Int):Prop where
 inv:eh7 x st.d (ts0++sn.l) sn.ready
 node:st.node=sn.node
 first:st.last<0→sn.now=0∧sn.node=0
 next:0≤st.last→st.last.toNat<st.d.fr.length∧(ts0++sn.l).getD st.last.toNat 0=sn.now
theorem xpb7.step {x:ca7}(gd:Good x) {st:StT}{sn:SnT}{ts0:List Int}{s:ba7}(h:xpb7 x st sn ts0) (hs:bi7 x s):xpb7 x (vd7 x st s) (xb7 x sn s) ts0:=by
 have hw:=pe7 gd st.node (1+s.sat)
 have hw0:=pe7 gd 0 (1+s.sat)
 have hl:=h.inv.len
 have key:∃f arcs,(vd7 x st s).d=⟨st.d.fr++[f],st.d.arcs++arcs,ch7 st.d.att s.sat.toNat st.d.fr.length⟩∧eh7 x ⟨st.d.fr++[f],st.d.arcs++arcs,st.d.att⟩ ((ts0++sn.l)++[sn.now+gb7 x sn.node (1+s.sat)]) sn.ready:=by
  by_cases hlast:st.last<0
  ·obtain⟨h1,h2⟩:=h.first hlast
   refine⟨gb7 x 0 (1+s.sat),[], ?_,h.inv.event (by simp) hw0 ?_ (by simp) (.inl ?_)⟩
   ·simp only[vd7,if_pos hlast,List.append_nil]
   ·rw[h1,h2];omega
   ·rw[h1,h2];omega
  ·obtain⟨h1,h2⟩:=h.next (by omega)
   have hb:=h.inv.tsB st.last.toNat
   refine⟨0,[⟨st.last.toNat,st.d.fr.length,gb7 x st.node (1+s.sat)⟩], ?_,h.inv.event (fun a ha=>?_) (by omega) ?_ (fun a ha=>?_) (.inr ⟨_,List.mem_singleton.2 rfl, ?_⟩)⟩
   ·simp only[vd7,if_neg hlast]
   ·rw[List.mem_singleton.1 ha];exact⟨h1,rfl,hw.1,by show gb7 x st.node (1+s.sat)≤_;omega⟩
   ·rw[h.node]at hw;omega
   ·rw[List.mem_singleton.1 ha]
    show (ts0++sn.l).getD st.last.toNat 0+gb7 x st.node (1+s.sat)≤_
    rw[h2,h.node];exact Int.le_refl _
   ·show _=(ts0++sn.l).getD st.last.toNat 0+gb7 x st.node (1+s.sat)
    rw[h2,h.node]
 obtain⟨f,arcs,he,hi⟩:=key
 have ha:=eh7.att (s:=s.sat) (n:=st.d.fr.length) (v:=sn.now+gb7 x sn.node (1+s.sat)) hi hs.1 (by simp) (by rw[← hl,sd7]) gd
 refine⟨?_,rfl,fun hn=>?_,fun _=>?_⟩
 ·rw[he]
  simp only[xb7,← List.append_assoc]
  exact ha
 ·exfalso
  simp only[vd7]at hn
  omega
 ·rw[he]
  simp only[vd7,xb7,← List.append_assoc,Int.toNat_natCast]
  exact⟨by simp,by rw[← hl,sd7]⟩
theorem bib7 {x:ca7}(gd:Good x) {ts0:List Int}:∀(l:List ba7) (st:StT) (sn:SnT),(∀s∈l,bi7 x s)→xpb7 x st sn ts0→xpb7 x (l.foldl (vd7 x) st) (l.foldl (xb7 x) sn) ts0
 | [],_,_,_,h=>h
 | s::l,st,sn,hl,h=>bib7 gd l _ _ (fun t ht=>hl t (List.mem_cons_of_mem _ ht)) (h.step gd (hl s List.mem_cons_self))
theorem exb7 {x:ca7}(gd:Good x) {d:DrS}{a:SnA}{t:List ba7}(ht:∀s∈t,bi7 x s) (h:eh7 x d a.ts.flatten a.ready):eh7 x (eq7 x d t) (ee7 x a t).ts.flatten (ee7 x a t).ready:=by
 have h0:xpb7 x ⟨d,-1,0⟩ ⟨0,0,a.ready,[]⟩ a.ts.flatten:=⟨by rw[List.append_nil];exact h,rfl,fun _=>⟨rfl,rfl⟩,fun hh=>absurd hh (by show ¬((0:Int) ≤ -1);omega)⟩
 have h1:=(bib7 gd t _ _ ht h0).inv
 have e:(ee7 x a t).ts.flatten=a.ts.flatten++(t.foldl (xb7 x) ⟨0,0,a.ready,[]⟩).l:=by
  simp only[ee7,mi7,List.flatten_append,List.flatten_cons,List.flatten_nil,List.append_nil]
 rw[e]
 exact h1
theorem gz7 {x:ca7}(gd:Good x):∀(l:List (List ba7)) (d:DrS) (a:SnA),(∀t∈l,∀s∈t,bi7 x s)→eh7 x d a.ts.flatten a.ready→eh7 x (l.foldl (eq7 x) d) (l.foldl (ee7 x) a).ts.flatten (l.foldl (ee7 x) a).ready
 | [],_,_,_,h=>h
 | t::l,d,a,hl,h=>gz7 gd l _ _ (fun u hu=>hl u (List.mem_cons_of_mem _ hu)) (exb7 gd (hl t List.mem_cons_self) h)
theorem ayb7 (x:ca7):eh7 x (uj7 x) [] (List.replicate x.sats.length 0):=by
 refine⟨rp7.2 ⟨rfl,fun j hj=>absurd hj (by simp[uj7]),fun a ha=>(by cases ha),fun j hj=>absurd hj (by simp[uj7])⟩,(fun a ha=>by cases ha),(fun f hf=>by cases hf),fun i=>by simp,by simp,by simp[uj7],fun s hs=>?_⟩
 have e1:(uj7 x).att.getD s []=[]:=by simp only[uj7,List.getD_eq_getElem?_getD,List.getElem?_replicate];split <;> rfl
 have e2:(List.replicate x.sats.length (0:Int)).getD s 0=0:=by simp only[List.getD_eq_getElem?_getD,List.getElem?_replicate];split <;> rfl
 rw[e1,e2]
 exact⟨by omega,(fun n hn=>by cases hn),.inl rfl⟩
structure nqb7 (x:ca7) (st:StB) (sn:SnB) (ts0 ready:List Int):Prop where
 inv:eh7 x st.d (ts0++sn.starts) ready
 node:st.node=sn.node
 last:st.last<st.d.fr.length∧(ts0++sn.starts).getD st.last 0+st.stay=sn.now
 stay:0≤st.stay∧st.stay≤1000000000
theorem nqb7.step {x:ca7}(gd:Good x) {st:StB}{sn:SnB}{ts0 ready:List Int}{c:Int}(h:nqb7 x st sn ts0 ready) (hc:je7 x c):nqb7 x (od7 x st c) (yb7 x sn c) ts0 ready:=by
 have hw:=pe7 gd st.node (1+x.sats.length+c)
 have hb:=qcb7 gd hc
 have hl:=h.inv.len
 have h1:=h.last
 have h2:=h.stay
 have hi:=h.inv.event (f:=(fc7 x c).opn) (v:=max (sn.now+gb7 x sn.node (1+x.sats.length+c)) (fc7 x c).opn) (new:=[⟨st.last,st.d.fr.length,st.stay+gb7 x st.node (1+x.sats.length+c)⟩])
  (fun a ha=>by rw[List.mem_singleton.1 ha];exact⟨h1.1,rfl,by show 0≤st.stay+gb7 x st.node _;omega,by show st.stay+gb7 x st.node _≤_;omega⟩) hb.1 (by omega)
  (fun a ha=>by
   rw[List.mem_singleton.1 ha]
   show (ts0++sn.starts).getD st.last 0+(st.stay+gb7 x st.node _)≤_
   rw[h.node];omega)
  (by
   rcases Int.le_total (sn.now+gb7 x sn.node (1+x.sats.length+c)) (fc7 x c).opn with hle | hle
   ·exact .inl (by omega)
   ·refine .inr ⟨_,List.mem_singleton.2 rfl, ?_⟩
    show _=(ts0++sn.starts).getD st.last 0+(st.stay+gb7 x st.node _)
    rw[h.node];omega)
 refine⟨?_,rfl,⟨by simp[od7], ?_⟩,hb.2.2⟩
 ·simp only[od7,yb7,← List.append_assoc]
  exact hi
 ·simp only[od7,yb7,← List.append_assoc]
  rw[← hl,sd7]
theorem yab7 {x:ca7}(gd:Good x) {ts0 ready:List Int}:∀(l:List Int) (st:StB) (sn:SnB),(∀c∈l,je7 x c)→nqb7 x st sn ts0 ready→nqb7 x (l.foldl (od7 x) st) (l.foldl (yb7 x) sn) ts0 ready
 | [],_,_,_,h=>h
 | s::l,st,sn,hl,h=>yab7 gd l _ _ (fun t ht=>hl t (List.mem_cons_of_mem _ ht)) (h.step gd (hl s List.mem_cons_self))
theorem ebc7 {x:ca7}(gd:Good x) {d:DrS}{ts ready:List Int}{b:ga7}(hb:rz7 x b) (h:eh7 x d ts ready):eh7 x (xp7 x d b) (ts++bxb7 (tg7 x ready b)) ready:=by
 have hl:=h.len
 obtain⟨r1,r2,r3⟩:=h.rdy b.sat.toNat (by have:=hb.1;omega)
 have hnat:((b.sat.toNat:Nat):Int)=b.sat:=Int.toNat_of_nonneg hb.1.1
 rw[hnat]at r2 r3
 have hh:=ax7 gd b.sat
 have hi:=h.event (f:=0) (v:=ready.getD b.sat.toNat 0) (new:=sn7 x d b (d.att.getD b.sat.toNat []).length)
  (fun a ha=>by
   unfold sn7 at ha
   rw[List.take_length]at ha
   obtain⟨n,hn,rfl⟩:=List.mem_map.1 ha
   exact⟨(r2 n hn).1,rfl,hh.1,by show vi7 x b.sat≤_;omega⟩) (by omega) r1
  (fun a ha=>by
   unfold sn7 at ha
   rw[List.take_length]at ha
   obtain⟨n,hn,rfl⟩:=List.mem_map.1 ha
   exact (r2 n hn).2)
  (by
   rcases r3 with r3 | ⟨n,hn,r3⟩
   ·exact .inl r3
   ·refine .inr ⟨⟨n,d.fr.length,vi7 x b.sat⟩, ?_,r3⟩
    unfold sn7
    rw[List.take_length]
    exact List.mem_map.2 ⟨n,hn,rfl⟩)
 have h0:nqb7 x (pc7 x d b) ⟨ready.getD b.sat.toNat 0,1+b.sat,[]⟩ (ts++[ready.getD b.sat.toNat 0]) ready:=by
  refine⟨by rw[List.append_nil];exact hi,rfl,⟨by simp[pc7], ?_⟩,by simp[pc7]⟩
  simp only[pc7,List.append_nil]
  rw[← hl,sd7];omega
 have h1:=yab7 gd b.stops _ _ hb.2.2 h0
 have hw:=pe7 gd (b.stops.foldl (od7 x) (pc7 x d b)).node (1+b.sat)
 have hs:=h1.stay
 have hn:=h1.node
 have hla:=h1.last
 have hge:=h1.inv.tsB (b.stops.foldl (od7 x) (pc7 x d b)).last
 generalize hE:b.stops.foldl (od7 x) (pc7 x d b)=E at *
 have hS:kd7 x ready b=b.stops.foldl (yb7 x) ⟨ready.getD b.sat.toNat 0,1+b.sat,[]⟩:=rfl
 rw[← hS]at h1 hn hla
 have hfin:(kd7 x ready b).now+gb7 x (kd7 x ready b).node (1+b.sat)=((ts++[ready.getD b.sat.toNat 0])++(kd7 x ready b).starts).getD E.last 0+(E.stay+gb7 x E.node (1+b.sat)):=by rw[hn];omega
 have h2:=h1.inv.event (f:=0) (v:=(kd7 x ready b).now+gb7 x (kd7 x ready b).node (1+b.sat)) (new:=[⟨E.last,E.d.fr.length,E.stay+gb7 x E.node (1+b.sat)⟩])
  (fun a ha=>by rw[List.mem_singleton.1 ha];exact⟨hla.1,rfl,by show 0≤E.stay+gb7 x _ _;omega,by show E.stay+gb7 x _ _≤_;omega⟩) (by omega)
  (by rw[hfin];have:=h1.inv.tsB E.last;omega)
  (fun a ha=>by
   rw[List.mem_singleton.1 ha]
   exact Int.le_of_eq hfin.symm)
  (.inr ⟨_,List.mem_singleton.2 rfl,hfin⟩)
 have e:ts++bxb7 (tg7 x ready b)=((ts++[ready.getD b.sat.toNat 0])++(b.stops.foldl (yb7 x) ⟨ready.getD b.sat.toNat 0,1+b.sat,[]⟩).starts)++[(kd7 x ready b).now+gb7 x (kd7 x ready b).node (1+b.sat)]:=by
  simp only[bxb7,tg7,kd7,List.append_assoc,List.cons_append,List.nil_append]
 rw[e,← hS]
 show eh7 x (hy7 x (b.stops.foldl (od7 x) (pc7 x d b)) b) _ _
 rw[hE]
 exact h2
theorem dgb7 {x:ca7}(gd:Good x) {ready:List Int}:∀(l:List ga7) (d:DrS) (ts:List Int),(∀b∈l,rz7 x b)→eh7 x d ts ready→eh7 x (l.foldl (xp7 x) d) (ts++(l.map (tg7 x ready)).flatMap bxb7) ready
 | [],_,_,_,h=>by simpa using h
 | b::l,d,ts,hl,h=>by
  rw[List.foldl_cons,List.map_cons,List.flatMap_cons,← List.append_assoc]
  exact dgb7 gd l _ _ (fun u hu=>hl u (List.mem_cons_of_mem _ hu)) (ebc7 gd (hl b List.mem_cons_self) h)
theorem eu7 {x:ca7}{p:ua7}(hok:lsb7 x p):eh7 x (xy7 x p) (mrc7 (fm7 x p)) (sa7 x p.trucks).ready :=
 dgb7 (rl7 hok.inst) p.bikes _ _ hok.bike (gz7 (rl7 hok.inst) p.trucks _ _ (fun t ht=>(hok.truck t ht).2) (ayb7 x))
theorem wab7 (m k i:Nat):(m ||| 2 ^ k).testBit i=(m.testBit i || decide (k=i)):=by
 rw[Nat.testBit_or,Nat.testBit_two_pow]
theorem pw7 {x:ca7}:∀(l:List ba7) (m:Nat) (left:Int) (r:Nat×Int),l.foldl (vp7 x) (some (m,left))=some r→(l.map fun s=>s.sat.toNat).Nodup∧∀s∈l,m.testBit s.sat.toNat=false
 | [],_,_,_,_=>⟨List.nodup_nil,fun s hs=>by cases hs⟩
 | a::l,m,left,r,h=>by
  rw[List.foldl_cons]at h
  cases hb:hh7 x m a
  ·rw[iv7 hb]at h
   obtain⟨h1,h2⟩:=pw7 l _ _ r h
   have hm:m.testBit a.sat.toNat=false:=by
    simp only[hh7,Bool.or_eq_false_iff]at hb;exact hb.1.1.2
   refine⟨?_,fun s hs=>?_⟩
   ·rw[List.map_cons,List.nodup_cons]
    refine⟨fun hin=>?_,h1⟩
    obtain⟨s,hs,e⟩:=List.mem_map.1 hin
    have:=h2 s hs
    rw[wab7,Bool.or_eq_false_iff]at this
    exact absurd e.symm (by simpa using this.2)
   ·rcases List.mem_cons.1 hs with rfl | hs
    ·exact hm
    ·have:=h2 s hs
     rw[wab7,Bool.or_eq_false_iff]at this
     exact this.1
  ·rw[sr7 hb,vr7]at h;cases h
theorem xv7 {x:ca7}:∀(l:List Int) (m:Nat) (left:Int) (r:Nat×Int),l.foldl (jo7 x) (some (m,left))=some r→(l.map Int.toNat).Nodup∧(∀s∈l,m.testBit s.toNat=false)∧(∀i,r.1.testBit i=false→m.testBit i=false)∧∀s∈l,r.1.testBit s.toNat=true
 | [],m,left,r,h=>by
  cases h
  exact⟨List.nodup_nil,(fun s hs=>by cases hs),fun _ h=>h,fun s hs=>by cases hs⟩
 | a::l,m,left,r,h=>by
  rw[List.foldl_cons]at h
  cases hb:gh7 x m a
  ·rw[yw7 hb]at h
   obtain⟨h1,h2,h3,h4⟩:=xv7 l _ _ r h
   have hm:m.testBit a.toNat=false:=by
    simp only[gh7,Bool.or_eq_false_iff]at hb;exact hb.2
   refine⟨?_,fun s hs=>?_,fun i hi=>?_,fun s hs=>?_⟩
   ·rw[List.map_cons,List.nodup_cons]
    refine⟨fun hin=>?_,h1⟩
    obtain⟨s,hs,e⟩:=List.mem_map.1 hin
    have:=h2 s hs
    rw[wab7,Bool.or_eq_false_iff]at this
    exact absurd e.symm (by simpa using this.2)
   ·rcases List.mem_cons.1 hs with rfl | hs
    ·exact hm
    ·have:=h2 s hs
     rw[wab7,Bool.or_eq_false_iff]at this
     exact this.1
   ·have:=h3 i hi
    rw[wab7,Bool.or_eq_false_iff]at this
    exact this.1
   ·rcases List.mem_cons.1 hs with rfl | hs
    ·cases hr:r.1.testBit s.toNat
     ·have:=h3 _ hr
      rw[wab7,Bool.or_eq_false_iff]at this
      exact absurd this.2 (by simp)
     ·rfl
    ·exact h4 s hs
  ·rw[us7 hb,ns7]at h;cases h
theorem ft7 {x:ca7}:∀(l:List ga7) (m:Nat) (d:Bool),(gk7 x l m d).1=true→((l.flatMap ga7.stops).map Int.toNat).Nodup∧∀b∈l,∀c∈b.stops,m.testBit c.toNat=false
 | [],_,_,_=>⟨List.nodup_nil,fun b hb=>by cases hb⟩
 | a::l,m,d,h=>by
  cases ha:ll7 x a
  case true=>rw[kr7 ha]at h;cases h
  cases hs:jw7 x m a.stops with
  | none=>rw[qo7 hs]at h;cases h
  | some q =>
   obtain⟨m',left⟩:=q
   rw[gy7 ha hs]at h
   obtain⟨h1,h2,h3,h4⟩:=xv7 _ _ _ _ hs
   obtain⟨g1,g2⟩:=ft7 l _ _ h
   refine⟨?_,fun b hb c hc=>?_⟩
   ·rw[List.flatMap_cons,List.map_append,List.nodup_append]
    refine⟨h1,g1,fun i hi j hj e=>?_⟩
    obtain⟨c,hc,rfl⟩:=List.mem_map.1 hi
    obtain⟨c',hc',rfl⟩:=List.mem_map.1 hj
    obtain⟨b,hb,hc'⟩:=List.mem_flatMap.1 hc'
    have e1:=h4 c hc
    have e2:=g2 b hb c' hc'
    rw[e]at e1
    simp only at e1 e2
    rw[e1]at e2;cases e2
   ·rcases List.mem_cons.1 hb with rfl | hb
    ·exact h2 c hc
    ·exact h3 _ (g2 b hb c hc)
theorem kv7 {x:ca7}:∀(l:List (List ba7)) (r d:Bool),(sg7 x l r d).1=true→∀t∈l,(t.map fun s=>s.sat.toNat).Nodup
 | [],_,_,_,t,ht=>by cases ht
 | a::l,r,d,h,t,ht=>by
  cases ha:ol7 x a with
  | none=>rw[bp7 ha]at h;cases h
  | some q =>
   obtain⟨m,left⟩:=q
   rw[tn7 ha]at h
   rcases List.mem_cons.1 ht with rfl | ht
   ·exact (pw7 _ _ _ _ ha).1
   ·exact kv7 l _ _ h t ht
theorem grb7 (l:List Nat) (n:Nat) (h:∀v∈l,v≤n):l.sum≤l.length*n:=by
 induction l with
 | nil=>simp
 | cons a l ih =>
  have h1:=h a List.mem_cons_self
  have h2:=ih fun v hv=>h v (List.mem_cons_of_mem _ hv)
  rw[List.sum_cons,List.length_cons,Nat.add_mul,Nat.one_mul];omega
theorem rpb7 (l:List Nat) (h:∀v∈l,1≤v):l.length≤l.sum:=by
 induction l with
 | nil=>simp
 | cons a l ih =>
  have h1:=h a List.mem_cons_self
  have h2:=ih fun v hv=>h v (List.mem_cons_of_mem _ hv)
  rw[List.sum_cons,List.length_cons];omega
structure ex7 (x:ca7) (p:ua7):Prop where
 ok:lsb7 x p
 tl:p.trucks.length≤60
 t:kc7 p.trucks p.trucks.length≤720
 t1:∀t∈p.trucks,t.length≤12
 b:p.bikes.length≤6
 s:ic7 p.bikes p.bikes.length≤6
theorem ytb7 {x:ca7}{p:ua7}(h:fb7 x p=0) (hn:x.custs.length≤6):ex7 x p:=by
 have hok:=ntb7 h
 have gd:=rl7 hok.inst
 have h2:(zi7 x p.trucks).1=true∧(mm7 x p.bikes).1=true:=by
  unfold fb7 at h
  rw[if_neg (by simpa using hok.inst)]at h
  split at h
  ·cases h
  split at h
  ·cases h
  rename_i h2
  simpa using h2
 have ht1:∀t∈p.trucks,t.length≤12:=fun t ht=>by
  have h3:=kv7 _ _ _ h2.1 t ht
  have h4:=qm7 h3 (n:=x.sats.length) fun i hi=>by
   obtain⟨s,hs,rfl⟩:=List.mem_map.1 hi
   have:=((hok.truck t ht).2 s hs).1;omega
  rw[List.length_map]at h4
  have:=gd.sats;omega
 have htl:p.trucks.length≤60:=by have:=hok.many;have:=gd.tmany;omega
 have hs:ic7 p.bikes p.bikes.length≤6:=by
  have h3:=(ft7 _ _ _ h2.2).1
  have h4:=qm7 h3 (n:=x.custs.length) fun i hi=>by
   obtain⟨c,hc,rfl⟩:=List.mem_map.1 hi
   obtain⟨b,hb,hc⟩:=List.mem_flatMap.1 hc
   have:=(hok.bike b hb).2.2 c hc;unfold je7 at this;omega
  rw[List.length_map,List.length_flatMap]at h4
  unfold ic7
  rw[List.take_length];omega
 refine⟨hok,htl, ?_,ht1, ?_,hs⟩
 ·unfold kc7
  rw[List.take_length]
  have:=grb7 (p.trucks.map List.length) 12 fun v hv=>by
   obtain⟨t,ht,rfl⟩:=List.mem_map.1 hv;exact ht1 t ht
  rw[List.length_map]at this;omega
 ·have:=rpb7 (p.bikes.map fun b=>b.stops.length) fun v hv=>by
   obtain⟨b,hb,rfl⟩:=List.mem_map.1 hv;exact (hok.bike b hb).2.1
  unfold ic7 at hs
  rw[List.take_length]at hs
  rw[List.length_map]at this;omega
theorem ex7.fr {x:ca7}{p:ua7}(h:ex7 x p):(xy7 x p).fr.length=kc7 p.trucks p.trucks.length+ic7 p.bikes p.bikes.length+2*p.bikes.length∧(xy7 x p).arcs.length≤20000:=by
 have gd:=rl7 h.ok.inst
 have h1:=afb7 (fun t ht=>(h.ok.truck t ht).2) p.trucks.length (Nat.le_refl _)
 obtain⟨m,hm,h2⟩:=fob7 gd h.ok.bike h1 p.bikes.length (Nat.le_refl _)
 rw[List.take_length,List.take_length]at h2
 have h3:glb7 x (xy7 x p) _ _:=h2
 refine⟨h3.frL,Nat.le_trans h3.arL (Nat.le_trans hm ?_)⟩
 have hb:=h.b
 have ht:=h.t
 have hs:=h.s
 have h5:mzb7 (kc7 p.trucks p.trucks.length) p.bikes p.bikes.length≤738:=by unfold mzb7;omega
 exact Nat.le_trans (Nat.mul_le_mul h5 (show p.bikes.length+1≤7 by omega)) (by decide)
theorem ex7.graph {x:ca7}{p:ua7}(h:ex7 x p):kxb7 ⟨(xy7 x p).fr.length,(xy7 x p).arcs⟩:=by
 have hb:=h.b
 have ht:=h.t
 have hs:=h.s
 exact⟨by show (xy7 x p).fr.length≤1000;rw[h.fr.1];omega,h.fr.2,(eu7 h.ok).arc⟩
theorem ex7.late {x:ca7}{p:ua7}(h:ex7 x p) {d:List Int}(hd:jn7 ⟨(xy7 x p).fr.length,(xy7 x p).arcs⟩ (xy7 x p).fr d):d=mrc7 (fm7 x p) :=
 jn7.unique (fun a ha=>⟨((eu7 h.ok).arc a ha).1,((eu7 h.ok).arc a ha).2.1⟩) hd (eu7 h.ok).late
structure TkS where
 now:Int
 node:Int
 ready:List Int
def nsc7 (a f t:Int):Bool:=decide (f≤a)&&decide (a≤t)
def pec7 (x:ca7) (st:TkS) (s:ba7) (v:Int):Option TkS :=
 if nsc7 v (st.now+gb7 x st.node (1+s.sat)) x.fin=true then some ⟨v,1+s.sat,st.ready.set s.sat.toNat (max (st.ready.getD s.sat.toNat 0) (v+vi7 x s.sat))⟩ else none
structure BkS where
 now:Int
 node:Int
def qec7 (x:ca7) (st:BkS) (c v:Int):Option BkS :=
 if nsc7 v (max (fc7 x c).opn (st.now+gb7 x st.node (1+x.sats.length+c))) (min (fc7 x c).cls x.fin)=true then some ⟨v+(fc7 x c).stay,1+x.sats.length+c⟩ else none
open Go.RowKit Go.Lib
abbrev S (l:List UInt8):ByteArray:=ByteArray.mk (List.toArray l)
theorem em7 (a b:List UInt8):S a++S b=S (a++b):=ByteArray.mk_append_mk a b
theorem sxb7 (l:List UInt8):(S l).size=l.length:=rfl
theorem es7 (u:Nat):0<(decDigits u).length:=by rw[decDigits_length];exact nDigits_pos u
theorem sac7 (n:Int):0<(itoa n).length:=by
 unfold itoa
 split
 ·simp
 ·exact es7 _
theorem uu7 {n:Int}(h:oa7 n):(itoa n).length≤21:=itoa_length_le n (by unfold oa7 at h;omega) (by unfold oa7 at h;omega)
def tf7 (b:List UInt8) (n:Int):List UInt8:=(if 0<b.length then b++[32] else b)++itoa n
def lnS (nm:List UInt8) (l:List Int):List UInt8:=l.foldl tf7 nm
def xf7 (nm:List UInt8) (l:List Int):List UInt8:=lnS nm l++[10]
theorem ceb7 (nm:List UInt8) (l:List Int) {i:Nat}(h:i<l.length):lnS nm (l.take (i+1))=tf7 (lnS nm (l.take i)) (l.getD i 0):=by
 unfold lnS
 rw[List.take_succ_eq_append_getElem h,List.foldl_append,List.getD_eq_getElem?_getD,List.getElem?_eq_getElem h]
 rfl
theorem vpb7 (b:List UInt8) (n:Int):0<(tf7 b n).length:=by
 have:=sac7 n
 unfold tf7
 rw[List.length_append]
 omega
theorem mic7 (nm:List UInt8) (l:List Int) {i:Nat}(h0:0<i) (h:i≤l.length):0<(lnS nm (l.take i)).length:=by
 obtain⟨i,rfl⟩:∃j,i=j+1:=⟨i-1,by omega⟩
 rw[ceb7 nm l (by omega)]
 exact vpb7 _ _
theorem edb7:∀(l:List Int) (nm:List UInt8),(∀n∈l,oa7 n)→(lnS nm l).length≤nm.length+22*l.length
 | [],nm,_=>by simp[lnS]
 | n::l,nm,h=>by
  have h1:=edb7 l (tf7 nm n) fun m hm=>h m (List.mem_cons_of_mem _ hm)
  have h2:=uu7 (h n (List.mem_cons_self ..))
  have h3:(tf7 nm n).length≤nm.length+1+(itoa n).length:=by
   unfold tf7
   split <;> simp <;> omega
  show (lnS (tf7 nm n) l).length≤_
  rw[List.length_cons]
  omega
theorem zm7 {l:List Int}{nm:List UInt8}(h:∀n∈l,oa7 n):(xf7 nm l).length≤nm.length+22*l.length+1:=by
 have:=edb7 l nm h
 unfold xf7
 rw[List.length_append,List.length_singleton]
 omega
theorem ggb7 (nm:List UInt8) (l:List Int):0<(xf7 nm l).length:=by unfold xf7;simp
def tItem (t:List ba7) (u:List Int) (j:Nat):List Int:=[(t.getD j ⟨0,0⟩).sat,(t.getD j ⟨0,0⟩).load,u.getD j 0]
def tCells (t:List ba7) (u:List Int) (k:Nat):List Int:=(t.length:Int)::(List.range k).flatMap (tItem t u)
def bItem (b:ga7) (r:ka7) (j:Nat):List Int:=[b.stops.getD j 0,r.starts.getD j 0]
def kCells (b:ga7) (r:ka7) (k:Nat):List Int:=b.sat::r.out::(b.stops.length:Int)::(List.range k).flatMap (bItem b r)
theorem ui7 (t:List ba7) (u:List Int) (k:Nat):tCells t u (k+1)=tCells t u k++tItem t u k:=by
 unfold tCells
 rw[List.range_succ,List.flatMap_append]
 simp
theorem wi7 (b:ga7) (r:ka7) (k:Nat):kCells b r (k+1)=kCells b r k++bItem b r k:=by
 unfold kCells
 rw[List.range_succ,List.flatMap_append]
 simp
theorem lc7 (t:List ba7) (u:List Int):∀k,(tCells t u k).length=1+3*k
 | 0=>rfl
 | k+1=>by rw[ui7,List.length_append,lc7 t u k];simp[tItem];omega
theorem fd7 (b:ga7) (r:ka7):∀k,(kCells b r k).length=3+2*k
 | 0=>rfl
 | k+1=>by rw[wi7,List.length_append,fd7 b r k];simp[bItem];omega
def do7 (t:nb7) (i:Nat):ka7:=t.bikes.getD i ⟨0,[],0⟩
def bn7 (p:ua7) (i:Nat):ga7:=p.bikes.getD i ⟨0,[]⟩
def ph7 (p:ua7) (i:Nat):List ba7:=p.trucks.getD i []
def ey7 (p:ua7) (t:nb7) (i:Nat):List UInt8:=xf7 [] (tCells (ph7 p i) (t.trucks.getD i []) (ph7 p i).length)
def yqb7 (p:ua7) (t:nb7) (i:Nat):List UInt8:=xf7 [] (kCells (bn7 p i) (do7 t i) (bn7 p i).stops.length++[(do7 t i).back])
def ze7 (p:ua7) (t:nb7) (k:Nat):List UInt8:=(List.range k).flatMap (ey7 p t)
def bh7 (p:ua7) (t:nb7) (k:Nat):List UInt8:=(List.range k).flatMap (yqb7 p t)
theorem kh7 (p:ua7) (t:nb7) (k:Nat):ze7 p t (k+1)=ze7 p t k++ey7 p t k:=by
 unfold ze7
 rw[List.range_succ,List.flatMap_append]
 simp
theorem jj7 (p:ua7) (t:nb7) (k:Nat):bh7 p t (k+1)=bh7 p t k++yqb7 p t k:=by
 unfold bh7
 rw[List.range_succ,List.flatMap_append]
 simp
def yg7 (p:ua7) (c:Int):List UInt8:=xf7 [112,108,97,110] [c]++xf7 [116,114,117,99,107,115] [(p.trucks.length:Int)]
def meb7 (p:ua7) (t:nb7) (c:Int):List UInt8:=yg7 p c++ze7 p t p.trucks.length++xf7 [98,105,107,101,115] [(p.bikes.length:Int)]
def cg7 (p:ua7) (t:nb7) (c:Int):List UInt8:=meb7 p t c++bh7 p t p.bikes.length++[101,110,100,10]
structure ce7 (p:ua7) (t:nb7) (c:Int):Prop where
 nt:p.trucks.length≤100000
 nb:p.bikes.length≤100000
 st:∀l∈p.trucks,l.length≤30000∧∀s∈l,oa7 s.sat∧oa7 s.load
 sb:∀b∈p.bikes,b.stops.length≤30000∧oa7 b.sat∧∀c∈b.stops,oa7 c
 tt:∀l∈t.trucks,∀v∈l,oa7 v
 tb:∀r∈t.bikes,oa7 r.out∧oa7 r.back∧∀v∈r.starts,oa7 v
 c:oa7 c
theorem ih7 {α:Type}{P:α→Prop}{l:List α}{d:α}(h:∀x∈l,P x) (hd:P d) (i:Nat):P (l.getD i d):=by
 rw[List.getD_eq_getElem?_getD]
 by_cases hi:i<l.length
 ·rw[List.getElem?_eq_getElem hi];exact h _ (List.getElem_mem hi)
 ·rw[List.getElem?_eq_none (by omega)];exact hd
theorem w0:oa7 0:=by unfold oa7;omega
theorem wn {n:Nat}(h:n≤100000):oa7 (n:Int):=by unfold oa7;omega
theorem tm7 {n:Int}(hn:oa7 n) (nm:List UInt8):(xf7 nm [n]).length≤nm.length+23:=by
 have:=zm7 (nm:=nm) (l:=[n]) fun m hm=>by rw[List.mem_singleton.1 hm];exact hn
 simpa using this
section
variable {p:ua7} {t:nb7} {c:Int} (h:ce7 p t c)
include h
theorem ce7.truck (i:Nat):(ph7 p i).length≤30000∧∀s∈ph7 p i,oa7 s.sat∧oa7 s.load:=ih7 (P:=fun l:List ba7=>l.length≤30000∧∀s∈l,oa7 s.sat∧oa7 s.load) h.st ⟨by simp,fun s hs=>by cases hs⟩ i
theorem ce7.bike (i:Nat):(bn7 p i).stops.length≤30000∧oa7 (bn7 p i).sat∧∀c∈(bn7 p i).stops,oa7 c:=ih7 (P:=fun b:ga7=>b.stops.length≤30000∧oa7 b.sat∧∀c∈b.stops,oa7 c) h.sb ⟨by simp,w0,fun s hs=>by cases hs⟩ i
theorem ce7.ride (i:Nat):oa7 (do7 t i).out∧oa7 (do7 t i).back∧∀v∈(do7 t i).starts,oa7 v:=ih7 (P:=fun r:ka7=>oa7 r.out∧oa7 r.back∧∀v∈r.starts,oa7 v) h.tb ⟨w0,w0,fun s hs=>by cases hs⟩ i
theorem ce7.time (i:Nat):∀v∈t.trucks.getD i [],oa7 v:=ih7 (P:=fun l:List Int=>∀v∈l,oa7 v) h.tt (fun s hs=>by cases hs) i
theorem ce7.tItem (i j:Nat):∀n∈tItem (ph7 p i) (t.trucks.getD i []) j,oa7 n:=by
 have h1:=ih7 (P:=fun s:ba7=>oa7 s.sat∧oa7 s.load) (d:=⟨0,0⟩) (h.truck i).2 ⟨w0,w0⟩ j
 have h2:=ih7 (P:=oa7) (d:=0) (h.time i) w0 j
 intro n hn
 simp only[Go.Proofs.YtedahhjopmkbbaaGreat.tItem,List.mem_cons,List.not_mem_nil,or_false]at hn
 rcases hn with rfl | rfl | rfl
 ·exact h1.1
 ·exact h1.2
 ·exact h2
theorem ce7.bItem (i j:Nat):∀n∈bItem (bn7 p i) (do7 t i) j,oa7 n:=by
 have h1:=ih7 (P:=oa7) (d:=0) (h.bike i).2.2 w0 j
 have h2:=ih7 (P:=oa7) (d:=0) (h.ride i).2.2 w0 j
 intro n hn
 simp only[Go.Proofs.YtedahhjopmkbbaaGreat.bItem,List.mem_cons,List.not_mem_nil,or_false]at hn
 rcases hn with rfl | rfl
 ·exact h1
 ·exact h2
theorem ce7.tCells (i:Nat):∀k,∀n∈tCells (ph7 p i) (t.trucks.getD i []) k,oa7 n
 | 0,n,hn=>by
  simp only[Go.Proofs.YtedahhjopmkbbaaGreat.tCells,List.range_zero,List.flatMap_nil,List.mem_cons,List.not_mem_nil,or_false]at hn
  rw[hn];exact wn (by have:=(h.truck i).1;omega)
 | k+1,n,hn=>by
  rw[ui7,List.mem_append]at hn
  exact hn.elim (ce7.tCells i k n) (h.tItem i k n)
theorem ce7.kCells (i:Nat):∀k,∀n∈kCells (bn7 p i) (do7 t i) k,oa7 n
 | 0,n,hn=>by
  simp only[Go.Proofs.YtedahhjopmkbbaaGreat.kCells,List.range_zero,List.flatMap_nil,List.mem_cons,List.not_mem_nil,or_false]at hn
  rcases hn with rfl | rfl | rfl
  ·exact (h.bike i).2.1
  ·exact (h.ride i).1
  ·exact wn (by have:=(h.bike i).1;omega)
 | k+1,n,hn=>by
  rw[wi7,List.mem_append]at hn
  exact hn.elim (ce7.kCells i k n) (h.bItem i k n)
theorem ce7.truckL (i:Nat):(ey7 p t i).length≤1980023:=by
 have h1:=zm7 (nm:=[]) (h.tCells i (ph7 p i).length)
 rw[lc7]at h1
 have:=(h.truck i).1
 unfold ey7
 simp only[List.length_nil]at h1
 omega
theorem ce7.bikeL (i:Nat):(yqb7 p t i).length≤1320089:=by
 have h1:=zm7 (nm:=[]) (l:=Go.Proofs.YtedahhjopmkbbaaGreat.kCells (bn7 p i) (do7 t i) (bn7 p i).stops.length++[(do7 t i).back]) fun n hn=>by
  rcases List.mem_append.1 hn with hn | hn
  ·exact h.kCells i _ n hn
  ·rw[List.mem_singleton.1 hn];exact (h.ride i).2.1
 rw[List.length_append,fd7,List.length_singleton]at h1
 have:=(h.bike i).1
 unfold yqb7
 simp only[List.length_nil]at h1
 omega
theorem ce7.trucksL:∀k,(ze7 p t k).length≤1980023*k
 | 0=>Nat.zero_le _
 | k+1=>by
  have:=ce7.trucksL k
  have:=h.truckL k
  rw[kh7,List.length_append]
  omega
theorem ce7.bikesL:∀k,(bh7 p t k).length≤1320089*k
 | 0=>Nat.zero_le _
 | k+1=>by
  have:=ce7.bikesL k
  have:=h.bikeL k
  rw[jj7,List.length_append]
  omega
theorem ce7.headL:(yg7 p c).length≤56:=by
 have h1:=tm7 h.c [112,108,97,110]
 have h2:=tm7 (wn h.nt) [116,114,117,99,107,115]
 unfold yg7
 rw[List.length_append]
 simp only[List.length_cons,List.length_nil]at h1 h2
 omega
theorem ce7.midL:(meb7 p t c).length≤198002300100:=by
 have h1:=h.headL
 have h2:=h.trucksL p.trucks.length
 have h3:=tm7 (wn h.nb) [98,105,107,101,115]
 have h4:=h.nt
 unfold meb7
 rw[List.length_append,List.length_append]
 simp only[List.length_cons,List.length_nil]at h3
 omega
end
end Go.Proofs.YtedahhjopmkbbaaGreat
namespace Go.Proofs.YtedahhjopmkbbaaGreat
open Go.RowKit
def jub7 (c:UInt8):Bool:=decide (c≠10)&&(decide (c<32) || decide (126<c))
structure Sc where
 out:List (List UInt8×Nat)
 fr:Option Nat
 note:Bool
def hib7 (s:List UInt8) (a b:Nat):List UInt8:=(s.drop a).take (b-a)
def gib7 (c:UInt8):Bool:=decide (c=32) || decide (c=10) || decide (c=35)
def zp7 (s:List UInt8) (i:Nat) (c:UInt8) (σ:Sc):Sc :=
 if σ.note then ⟨σ.out,σ.fr,decide (c≠10)⟩
 else if gib7 c then ⟨match σ.fr with | some a=>σ.out++[(hib7 s a i,a)] | none=>σ.out,none,decide (c=35)⟩
 else match σ.fr with
  | some _=>σ
  | none=>⟨σ.out,some i,false⟩
def scan (s:List UInt8):Nat→Sc
 | 0=>⟨[],none,false⟩
 | k+1=>zp7 s k (s.getD k 10) (scan s k)
def ta7 (s:List UInt8):List (List UInt8×Nat):=(scan s (s.length+1)).out
def xkb7 (s:List UInt8) (k:Nat):Prop:=∀i,i<k→jub7 (s.getD i 10)=false
theorem rhb7 (s:List UInt8):xkb7 s 0:=fun _ h=>absurd h (Nat.not_lt_zero _)
theorem lfb7 {s:List UInt8}{k:Nat}(h:xkb7 s k) (hc:jub7 (s.getD k 10)=false):xkb7 s (k+1):=fun i hi=>by
 by_cases e:i=k
 ·rw[e];exact hc
 ·exact h i (by omega)
def iq7 (s:List UInt8):Nat:=(s.takeWhile fun c => !jub7 c).length
theorem skb7 (s:List UInt8):∀k,∀a,(scan s k).fr=some a→a<k∧(scan s k).note=false
 | 0,a,h=>by cases h
 | k+1,a,h=>by
  unfold scan zp7 at h ⊢
  have ih:=skb7 s k
  split at h
  ·rename_i hn
   exact absurd (ih a h).2 (by rw[hn];simp)
  ·rename_i hn
   split at h
   ·cases h
   ·rename_i hd
    cases hf:(scan s k).fr with
    | some b =>
     rw[hf]at h
     simp only at h
     have:=ih a h
     rw[if_neg hn,if_neg hd]
     exact⟨by omega,this.2⟩
    | none =>
     rw[hf]at h
     simp only at h
     cases h
     rw[if_neg hn,if_neg hd]
     exact⟨by omega,rfl⟩
theorem cu7 (s:List UInt8):∀k,(scan s k).out.length≤k
 | 0=>Nat.le_refl _
 | k+1=>by
  have ih:=cu7 s k
  unfold scan zp7
  split
  ·show (scan s k).out.length≤k+1;omega
  ·split
   ·cases (scan s k).fr with
    | some a=>simp;omega
    | none=>show (scan s k).out.length≤k+1;omega
   ·cases (scan s k).fr with
    | some a=>show (scan s k).out.length≤k+1;omega
    | none=>show (scan s k).out.length≤k+1;omega
def bac7 (v:Int):Bool:=decide (¬v=10)&&(decide (v<32) || decide (126<v))
def fsb7 (v:Int):Bool:=decide (v=32) || decide (v=10) || decide (v=35)
def yeb7 (s:List UInt8) (i:Nat) (v:Int) (σ:Sc):Sc :=
 if σ.note then ⟨σ.out,σ.fr,decide (¬v=10)⟩
 else if fsb7 v then ⟨match σ.fr with | some a=>σ.out++[(hib7 s a i,a)] | none=>σ.out,none,decide (v=35)⟩
 else match σ.fr with
  | some _=>σ
  | none=>⟨σ.out,some i,false⟩
theorem msb7 (c d:UInt8):(c=d)=((c.toNat:Int)=(d.toNat:Int)):=propext ⟨fun h=>by rw[h],fun h=>UInt8.toNat_inj.1 (by omega)⟩
theorem zvc7 (c d:UInt8):(c<d)=((c.toNat:Int)<(d.toNat:Int)):=propext ⟨fun h=>by have:=UInt8.lt_iff_toNat_lt.1 h;omega,fun h=>UInt8.lt_iff_toNat_lt.2 (by omega)⟩
theorem dnb7 (c:UInt8):jub7 c=bac7 (c.toNat:Int):=by
 unfold jub7 bac7
 simp only[ne_eq,msb7,zvc7];rfl
theorem vgb7 (c:UInt8):gib7 c=fsb7 (c.toNat:Int):=by
 unfold gib7 fsb7
 simp only[msb7];rfl
theorem agc7 (s:List UInt8) (i:Nat) (c:UInt8) (σ:Sc):zp7 s i c σ=yeb7 s i (c.toNat:Int) σ:=by
 unfold zp7 yeb7
 rw[vgb7]
 simp only[ne_eq,msb7];rfl
theorem bnc7 (s:List UInt8) (k:Nat):scan s (k+1)=yeb7 s k ((s.getD k 10).toNat:Int) (scan s k):=agc7 _ _ _ _
theorem ehb7 {a:UInt8}{s:List UInt8}{k:Nat}(h:xkb7 (a::s) (k+1)):jub7 a=false∧xkb7 s k :=
 ⟨h 0 (by omega),fun i hi=>h (i+1) (by omega)⟩
theorem wib7:∀{s:List UInt8}{k:Nat},xkb7 s k→k<s.length→jub7 (s.getD k 10)=true→iq7 s=k
 | a::s,0,_,_,hc=>by
  have hc:jub7 a=true:=hc
  unfold iq7
  rw[List.takeWhile_cons,hc];rfl
 | a::s,k+1,h,hk,hc=>by
  obtain⟨h1,h2⟩:=ehb7 h
  have:=wib7 h2 (by simpa using hk) hc
  unfold iq7 at this ⊢
  rw[List.takeWhile_cons,h1]
  simpa using this
theorem pu7:∀{s:List UInt8},xkb7 s s.length→iq7 s=s.length
 | [],_=>rfl
 | a::s,h=>by
  obtain⟨h1,h2⟩:=ehb7 h
  have:=pu7 h2
  unfold iq7 at this ⊢
  rw[List.takeWhile_cons,h1]
  simpa using this
def ae7 (s:List UInt8) (k:Nat):List (List UInt8×Nat) :=
 match (scan s k).fr with
 | some a=>(scan s k).out++[(hib7 s a k,a)]
 | none=>(scan s k).out
def yy7 (s:List UInt8) (k:Nat):Prop :=
 ((scan s k).note=false∧(scan s k).fr=none)∨((scan s k).note=true∧(scan s k).fr=none∧s.getD k 10=10)∨∃a,(scan s k).fr=some a∧(scan s k).note=false∧gib7 (s.getD k 10)=true
theorem psb7 (s:List UInt8):yy7 s 0:=.inl ⟨rfl,rfl⟩
section
variable {s:List UInt8} {k:Nat}
theorem ur7:scan s (k+1)=zp7 s k (s.getD k 10) (scan s k):=rfl
theorem gr7 (hg:yy7 s k) (hc:gib7 (s.getD k 10)=true) (hn:(scan s k).note=false):scan s (k+1)=⟨ae7 s k,none,decide (s.getD k 10=35)⟩:=by
 rw[ur7]
 unfold zp7 ae7
 rw[if_neg (by rw[hn];simp),if_pos hc]
theorem zxb7 (hg:yy7 s k) (hc:s.getD k 10=35):scan s (k+1)=⟨ae7 s k,none,true⟩:=by
 rcases hg with ⟨h1,h2⟩ | ⟨h1,h2,h3⟩ | ⟨a,h1,h2,h3⟩
 ·rw[gr7 (.inl ⟨h1,h2⟩) (by rw[hc];rfl) h1,hc];rfl
 ·rw[hc]at h3;exact absurd h3 (by decide)
 ·rw[gr7 (.inr (.inr ⟨a,h1,h2,h3⟩)) h3 h2,hc];rfl
theorem as7 (hg:yy7 s k) (hc:s.getD k 10=32∨s.getD k 10=10):yy7 s (k+1)∧ae7 s (k+1)=ae7 s k:=by
 have key:scan s (k+1)=⟨ae7 s k,none,false⟩:=by
  have hd:gib7 (s.getD k 10)=true:=by rcases hc with h | h <;> rw[h] <;> rfl
  have hf:decide (s.getD k 10=35)=false:=by rcases hc with h | h <;> rw[h] <;> rfl
  rcases hg with ⟨h1,h2⟩ | ⟨h1,h2,h3⟩ | ⟨a,h1,h2,h3⟩
  ·rw[gr7 (.inl ⟨h1,h2⟩) hd h1,hf]
  ·rw[ur7]
   unfold zp7 ae7
   rw[if_pos h1,h2,h3];rfl
  ·rw[gr7 (.inr (.inr ⟨a,h1,h2,h3⟩)) hd h2,hf]
 exact⟨.inl (by rw[key];exact⟨rfl,rfl⟩),by rw[show ae7 s (k+1)=(match (scan s (k+1)).fr with | some a=>(scan s (k+1)).out++[(hib7 s a (k+1),a)] | none=>(scan s (k+1)).out) from rfl,key]⟩
theorem wfb7 (hg:yy7 s k) (hc:gib7 (s.getD k 10)=false):scan s (k+1)=⟨ae7 s k,some k,false⟩:=by
 rcases hg with ⟨h1,h2⟩ | ⟨h1,h2,h3⟩ | ⟨a,h1,h2,h3⟩
 ·rw[ur7]
  unfold zp7 ae7
  rw[if_neg (by rw[h1];simp),if_neg (by rw[hc];simp),h2]
 ·rw[h3]at hc;exact absurd hc (by decide)
 ·rw[h3]at hc;cases hc
theorem owb7 {o:List (List UInt8×Nat)}(h:scan s k=⟨o,none,true⟩) (hc:¬s.getD k 10=10):scan s (k+1)=⟨o,none,true⟩:=by
 rw[ur7,h]
 unfold zp7
 rw[if_pos rfl]
 show (⟨o,none,decide (s.getD k 10≠10)⟩:Sc)=_
 rw[decide_eq_true hc]
theorem dib7 {o:List (List UInt8×Nat)}{a:Nat}(h:scan s k=⟨o,some a,false⟩) (hc:gib7 (s.getD k 10)=false):scan s (k+1)=⟨o,some a,false⟩:=by
 rw[ur7,h]
 unfold zp7
 rw[if_neg (by simp),if_neg (by rw[hc];simp)]
theorem dcc7 {o:List (List UInt8×Nat)}(h:scan s k=⟨o,none,true⟩) (hc:s.getD k 10=10):yy7 s k∧ae7 s k=o :=
 ⟨.inr (.inl ⟨by rw[h],by rw[h],hc⟩),by unfold ae7;rw[h]⟩
theorem omb7 {o:List (List UInt8×Nat)}{a:Nat}(h:scan s k=⟨o,some a,false⟩) (hc:gib7 (s.getD k 10)=true):yy7 s k∧ae7 s k=o++[(hib7 s a k,a)] :=
 ⟨.inr (.inr ⟨a,by rw[h],by rw[h],hc⟩),by unfold ae7;rw[h]⟩
theorem fmb7 (hg:yy7 s s.length):ae7 s s.length=ta7 s:=by
 have e:s.getD s.length 10=10:=by rw[List.getD_eq_getElem?_getD,List.getElem?_eq_none (Nat.le_refl _)];rfl
 have:=(as7 hg (.inr e)).2
 rw[← this]
 unfold ta7
 obtain⟨h,-⟩:=as7 hg (.inr e)
 show ae7 s (s.length+1)=(scan s (s.length+1)).out
 unfold ae7
 have hn:(scan s (s.length+1)).fr=none:=by
  cases hf:(scan s (s.length+1)).fr with
  | none=>rfl
  | some a =>
   have hs:=ur7 (s:=s) (k:=s.length)
   rw[e]at hs
   rw[hs]at hf
   unfold zp7 at hf
   rcases hg with ⟨h1,h2⟩ | ⟨h1,h2,h3⟩ | ⟨b,h1,h2,h3⟩
   ·rw[if_neg (by rw[h1];simp),if_pos (show gib7 10=true from rfl)]at hf;cases hf
   ·rw[if_pos h1,h2]at hf;cases hf
   ·rw[if_neg (by rw[h2];simp),if_pos (show gib7 10=true from rfl)]at hf;cases hf
 rw[hn]
end
theorem lrb7 (s:List UInt8) (k:Nat):(ae7 s k).length≤k+1:=by
 have:=cu7 s k
 unfold ae7
 cases (scan s k).fr with
 | none=>show (scan s k).out.length≤k+1;omega
 | some a=>simp;omega
end Go.Proofs.YtedahhjopmkbbaaGreat
