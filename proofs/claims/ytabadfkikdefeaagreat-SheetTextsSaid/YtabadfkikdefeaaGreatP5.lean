/- Texts of the proof, joined: PlanBd, ClockD, LoadAll, CodeD, One, Awake17, Awake22, Whole, FitsLaw, LoadsU, MakeOk, HaulErrors, HaulOrders, HaulTrucks, HaulWholes. -/
import Derived.Deep.DeepCutAuto
import Derived.Test.YtabadfkikdefeaaGreatMake
import Derived.Test.YtabadfkikdefeaaGreatDraft
import Derived.Test.YtabadfkikdefeaaGreatSpoilt
set_option linter.all false
set_option maxRecDepth 100000
set_option maxHeartbeats 6400000
namespace Go.Proofs.YtabadfkikdefeaaGreat
open Go.RowKit
theorem xz7 (m k i:Nat):(m ||| 2 ^ k).testBit i=(m.testBit i || decide (k=i)):=by
 rw[Nat.testBit_or,Nat.testBit_two_pow]
theorem av7 {x:ba7}:∀(l:List ea7) (m:Nat) (left:Int) (r:Nat×Int),l.foldl (zj7 x) (some (m,left))=some r→(l.map fun s=>s.sat.toNat).Nodup∧∀s∈l,m.testBit s.sat.toNat=false
 | [],_,_,_,_=>⟨List.nodup_nil,fun s hs=>by cases hs⟩
 | a::l,m,left,r,h=>by
  rw[List.foldl_cons]at h
  cases hb:td7 x m a
  ·rw[iq7 hb]at h
   obtain⟨h1,h2⟩:=av7 l _ _ r h
   have hm:m.testBit a.sat.toNat=false:=by
    simp only[td7,Bool.or_eq_false_iff]at hb;exact hb.1.1.2
   refine⟨?_,fun s hs=>?_⟩
   ·rw[List.map_cons,List.nodup_cons]
    refine⟨fun hin=>?_,h1⟩
    obtain⟨s,hs,e⟩:=List.mem_map.1 hin
    have:=h2 s hs
    rw[xz7,Bool.or_eq_false_iff]at this
    exact absurd e.symm (by simpa using this.2)
   ·rcases List.mem_cons.1 hs with rfl | hs
    ·exact hm
    ·have:=h2 s hs
     rw[xz7,Bool.or_eq_false_iff]at this
     exact this.1
  ·rw[xn7 hb,sn7]at h;cases h
theorem zv7 {x:ba7}:∀(l:List Int) (m:Nat) (left:Int) (r:Nat×Int),l.foldl (ej7 x) (some (m,left))=some r→(l.map Int.toNat).Nodup∧(∀s∈l,m.testBit s.toNat=false)∧(∀i,r.1.testBit i=false→m.testBit i=false)∧∀s∈l,r.1.testBit s.toNat=true
 | [],m,left,r,h=>by
  cases h
  exact⟨List.nodup_nil,(fun s hs=>by cases hs),fun _ h=>h,fun s hs=>by cases hs⟩
 | a::l,m,left,r,h=>by
  rw[List.foldl_cons]at h
  cases hb:fe7 x m a
  ·rw[xq7 hb]at h
   obtain⟨h1,h2,h3,h4⟩:=zv7 l _ _ r h
   have hm:m.testBit a.toNat=false:=by
    simp only[fe7,Bool.or_eq_false_iff]at hb;exact hb.2
   refine⟨?_,fun s hs=>?_,fun i hi=>?_,fun s hs=>?_⟩
   ·rw[List.map_cons,List.nodup_cons]
    refine⟨fun hin=>?_,h1⟩
    obtain⟨s,hs,e⟩:=List.mem_map.1 hin
    have:=h2 s hs
    rw[xz7,Bool.or_eq_false_iff]at this
    exact absurd e.symm (by simpa using this.2)
   ·rcases List.mem_cons.1 hs with rfl | hs
    ·exact hm
    ·have:=h2 s hs
     rw[xz7,Bool.or_eq_false_iff]at this
     exact this.1
   ·have:=h3 i hi
    rw[xz7,Bool.or_eq_false_iff]at this
    exact this.1
   ·rcases List.mem_cons.1 hs with rfl | hs
    ·cases hr:r.1.testBit s.toNat
     ·have:=h3 _ hr
      rw[xz7,Bool.or_eq_false_iff]at this
      exact absurd this.2 (by simp)
     ·rfl
    ·exact h4 s hs
  ·rw[zn7 hb,yn7]at h;cases h
theorem xt7 {x:ba7}:∀(l:List ra7) (m:Nat) (d:Bool),(si7 x l m d).1=true→((l.flatMap ra7.stops).map Int.toNat).Nodup∧∀b∈l,∀c∈b.stops,m.testBit c.toNat=false
 | [],_,_,_=>⟨List.nodup_nil,fun b hb=>by cases hb⟩
 | a::l,m,d,h=>by
  cases ha:ig7 x a
  case true=>rw[eo7 ha]at h;cases h
  cases hs:wq7 x m a.stops with
  | none=>rw[am7 hs]at h;cases h
  | some q =>
   obtain⟨m',left⟩:=q
   rw[vr7 ha hs]at h
   obtain⟨h1,h2,h3,h4⟩:=zv7 _ _ _ _ hs
   obtain⟨g1,g2⟩:=xt7 l _ _ h
   refine⟨?_,fun b hb c hc=>?_⟩
   ·rw[List.flatMap_cons,List.map_append,List.nodup_append]
    refine⟨h1,g1,fun i hi j hj e=>?_⟩
    obtain⟨c,hc,rfl⟩:=List.mem_map.1 hi
    obtain⟨c',hc',rfl⟩:=List.mem_map.1 hj
    obtain⟨b,hb,hc'⟩:=List.mem_flatMap.1 hc'
    have e1:=h4 c hc
    have e2:=g2 b hb c' hc'
    rw[e]at e1
    simp only at e1 e2
    rw[e1]at e2;cases e2
   ·rcases List.mem_cons.1 hb with rfl | hb
    ·exact h2 c hc
    ·exact h3 _ (g2 b hb c hc)
theorem bv7 {x:ba7}:∀(l:List (List ea7)) (r d:Bool),(kf7 x l r d).1=true→∀t∈l,(t.map fun s=>s.sat.toNat).Nodup
 | [],_,_,_,t,ht=>by cases ht
 | a::l,r,d,h,t,ht=>by
  cases ha:fj7 x a with
  | none=>rw[il7 ha]at h;cases h
  | some q =>
   obtain⟨m,left⟩:=q
   rw[kk7 ha]at h
   rcases List.mem_cons.1 ht with rfl | ht
   ·exact (av7 _ _ _ _ ha).1
   ·exact bv7 l _ _ h t ht
theorem jmb7 (l:List Nat) (n:Nat) (h:∀v∈l,v≤n):l.sum≤l.length*n:=by
 induction l with
 | nil=>simp
 | cons a l ih =>
  have h1:=h a List.mem_cons_self
  have h2:=ih fun v hv=>h v (List.mem_cons_of_mem _ hv)
  rw[List.sum_cons,List.length_cons,Nat.add_mul,Nat.one_mul];omega
theorem cmb7 (l:List Nat) (h:∀v∈l,1≤v):l.length≤l.sum:=by
 induction l with
 | nil=>simp
 | cons a l ih =>
  have h1:=h a List.mem_cons_self
  have h2:=ih fun v hv=>h v (List.mem_cons_of_mem _ hv)
  rw[List.sum_cons,List.length_cons];omega
structure nx7 (x:ba7) (p:sa7):Prop where
 ok:aeb7 x p
 tl:p.trucks.length≤60
 t:ya7 p.trucks p.trucks.length≤720
 t1:∀t∈p.trucks,t.length≤12
 b:p.bikes.length≤6
 s:mb7 p.bikes p.bikes.length≤6
theorem jr7 {x:ba7}{p:sa7}(h:na7 x p=0) (hn:x.custs.length≤6):nx7 x p:=by
 have hok:=jj7 h
 have gd:=vf7 hok.inst
 have h2:(qd7 x p.trucks).1=true∧(ne7 x p.bikes).1=true:=by
  unfold na7 at h
  rw[if_neg (by simpa using hok.inst)]at h
  split at h
  ·cases h
  split at h
  ·cases h
  rename_i h2
  simpa using h2
 have ht1:∀t∈p.trucks,t.length≤12:=fun t ht=>by
  have h3:=bv7 _ _ _ h2.1 t ht
  have h4:=ng7 h3 (n:=x.sats.length) fun i hi=>by
   obtain⟨s,hs,rfl⟩:=List.mem_map.1 hi
   have:=((hok.truck t ht).2 s hs).1;omega
  rw[List.length_map]at h4
  have:=gd.sats;omega
 have htl:p.trucks.length≤60:=by have:=hok.many;have:=gd.tmany;omega
 have hs:mb7 p.bikes p.bikes.length≤6:=by
  have h3:=(xt7 _ _ _ h2.2).1
  have h4:=ng7 h3 (n:=x.custs.length) fun i hi=>by
   obtain⟨c,hc,rfl⟩:=List.mem_map.1 hi
   obtain⟨b,hb,hc⟩:=List.mem_flatMap.1 hc
   have:=(hok.bike b hb).2.2 c hc;unfold zc7 at this;omega
  rw[List.length_map,List.length_flatMap]at h4
  unfold mb7
  rw[List.take_length];omega
 refine⟨hok,htl, ?_,ht1, ?_,hs⟩
 ·unfold ya7
  rw[List.take_length]
  have:=jmb7 (p.trucks.map List.length) 12 fun v hv=>by
   obtain⟨t,ht,rfl⟩:=List.mem_map.1 hv;exact ht1 t ht
  rw[List.length_map]at this;omega
 ·have:=cmb7 (p.bikes.map fun b=>b.stops.length) fun v hv=>by
   obtain⟨b,hb,rfl⟩:=List.mem_map.1 hv;exact (hok.bike b hb).2.1
  unfold mb7 at hs
  rw[List.take_length]at hs
  rw[List.length_map]at this;omega
theorem nx7.fr {x:ba7}{p:sa7}(h:nx7 x p):(jg7 x p).fr.length=ya7 p.trucks p.trucks.length+mb7 p.bikes p.bikes.length+2*p.bikes.length∧(jg7 x p).arcs.length≤20000:=by
 have gd:=vf7 h.ok.inst
 have h1:=jq7 (fun t ht=>(h.ok.truck t ht).2) p.trucks.length (Nat.le_refl _)
 obtain⟨m,hm,h2⟩:=xbb7 gd h.ok.bike h1 p.bikes.length (Nat.le_refl _)
 rw[List.take_length,List.take_length]at h2
 have h3:ugb7 x (jg7 x p) _ _:=h2
 refine⟨h3.frL,Nat.le_trans h3.arL (Nat.le_trans hm ?_)⟩
 have hb:=h.b
 have ht:=h.t
 have hs:=h.s
 have h5:lmb7 (ya7 p.trucks p.trucks.length) p.bikes p.bikes.length≤738:=by unfold lmb7;omega
 exact Nat.le_trans (Nat.mul_le_mul h5 (show p.bikes.length+1≤7 by omega)) (by decide)
theorem nx7.graph {x:ba7}{p:sa7}(h:nx7 x p):mdb7 ⟨(jg7 x p).fr.length,(jg7 x p).arcs⟩:=by
 have hb:=h.b
 have ht:=h.t
 have hs:=h.s
 exact⟨by show (jg7 x p).fr.length≤1000;rw[h.fr.1];omega,h.fr.2,(bq7 h.ok).arc⟩
theorem nx7.late {x:ba7}{p:sa7}(h:nx7 x p) {d:List Int}(hd:km7 ⟨(jg7 x p).fr.length,(jg7 x p).arcs⟩ (jg7 x p).fr d):d=dk7 (ab7 x p) :=
 km7.unique (fun a ha=>⟨((bq7 h.ok).arc a ha).1,((bq7 h.ok).arc a ha).2.1⟩) hd (bq7 h.ok).late
theorem lk7 {w:World}{F:Nat→Prop}{xs:List dd7}{cs:List Value}(h:hz7.rep w F xs cs) :
  ∃(a:Option Addr) (b off c:Nat),cs=[.slice a xs.length c]∧xs.length≤c∧c≤9223372036854775807∧(0<xs.length→a=some ⟨b,off,none⟩)∧(0<xs.length→F b) ∧
   ∀k (h:k<xs.length),∃v,w.cell? ⟨b,off+k*3,none⟩=some (.int .i64 xs[k].out)∧w.cell? ⟨b,off+k*3+1,none⟩=some v∧w.cell? ⟨b,off+k*3+2,none⟩=some (.int .i64 xs[k].back)∧pa7 xs[k].out∧pa7 xs[k].back∧(ia7 dg7).rep w F xs[k].starts [v]:=by
 obtain⟨a,b,off,c,rfl,h1,h2,h3,h4⟩:=h
 refine⟨a,b,off,c,rfl,h1,h2,fun h=>(h3 h).1,fun h=>(h3 h).2,fun k hk=>?_⟩
 obtain⟨es,⟨v,rfl,hw,hw',hr⟩,hc⟩:=h4 k hk
 have e0:=hc 0 (by decide)
 have e1:=hc 1 (by decide)
 have e2:=hc 2 (by decide)
 exact⟨v,by simpa[cy7]using e0,by simpa[cy7]using e1,by simpa[cy7]using e2,hw,hw',hr⟩
structure TkS where
 now:Int
 node:Int
 ready:List Int
def uw7 (a f t:Int):Bool:=decide (f≤a)&&decide (a≤t)
def kdb7 (x:ba7) (st:TkS) (s:ea7) (v:Int):Option TkS :=
 if uw7 v (st.now+za7 x st.node (1+s.sat)) x.fin=true then some ⟨v,1+s.sat,st.ready.set s.sat.toNat (max (st.ready.getD s.sat.toNat 0) (v+bg7 x s.sat))⟩ else none
def wh7 (x:ba7) (t:List ea7) (l ready:List Int):Nat→Option TkS
 | 0=>some ⟨0,0,ready⟩
 | j+1=>(wh7 x t l ready j).bind fun st=>kdb7 x st (t.getD j ⟨0,0⟩) (l.getD j 0)
theorem nt7 {x:ba7}{t:List ea7}{l ready:List Int}{j:Nat}(h:wh7 x t l ready j=none):∀m,wh7 x t l ready (j+m)=none
 | 0=>h
 | m+1=>by rw[← Nat.add_assoc];simp only[wh7,nt7 h m,Option.bind_none]
def ro7 (x:ba7) (t:List ea7) (l ready:List Int):Option (List Int) :=
 (wh7 x t l ready t.length).bind fun st=>if st.now+za7 x st.node 0≤x.fin then some st.ready else none
def eg7 (x:ba7) (p:sa7) (t:tb7):Nat→Option (List Int)
 | 0=>some (List.replicate x.sats.length 0)
 | k+1=>(eg7 x p t k).bind fun r=>ro7 x (p.trucks.getD k []) (t.trucks.getD k []) r
theorem sr7 {x:ba7}{p:sa7}{t:tb7}{j:Nat}(h:eg7 x p t j=none):∀m,eg7 x p t (j+m)=none
 | 0=>h
 | m+1=>by rw[← Nat.add_assoc];simp only[eg7,sr7 h m,Option.bind_none]
structure BkS where
 now:Int
 node:Int
def mkb7 (x:ba7) (st:BkS) (c v:Int):Option BkS :=
 if uw7 v (max (yb7 x c).opn (st.now+za7 x st.node (1+x.sats.length+c))) (min (yb7 x c).cls x.fin)=true then some ⟨v+(yb7 x c).stay,1+x.sats.length+c⟩ else none
def tj7 (x:ba7) (b:ra7) (r:dd7):Nat→Option BkS
 | 0=>some ⟨r.out,1+b.sat⟩
 | j+1=>(tj7 x b r j).bind fun st=>mkb7 x st (b.stops.getD j 0) (r.starts.getD j 0)
theorem pw7 {x:ba7}{b:ra7}{r:dd7}{j:Nat}(h:tj7 x b r j=none):∀m,tj7 x b r (j+m)=none
 | 0=>h
 | m+1=>by rw[← Nat.add_assoc];simp only[tj7,pw7 h m,Option.bind_none]
def qhb7 (x:ba7) (b:ra7) (r:dd7) (ready:List Int):Bool :=
 uw7 r.out (ready.getD b.sat.toNat 0) x.fin&&match tj7 x b r b.stops.length with
  | none=>false
  | some st=>uw7 r.back (st.now+za7 x st.node (1+b.sat)) x.fin
def ufb7 (t:tb7) (k:Nat):dd7:=t.bikes.getD k ⟨0,[],0⟩
def gs7 (x:ba7) (p:sa7) (t:tb7) (ready:List Int) (k:Nat):Bool:=(List.range k).all fun i=>qhb7 x (p.bikes.getD i ⟨0,[]⟩) (ufb7 t i) ready
def eu7 (p:sa7) (t:tb7) (k:Nat):Bool:=(List.range k).all fun i=>decide ((t.trucks.getD i []).length=(p.trucks.getD i []).length)
def sq7 (p:sa7) (t:tb7) (k:Nat):Bool:=(List.range k).all fun i=>decide ((ufb7 t i).starts.length=(p.bikes.getD i ⟨0,[]⟩).stops.length)
def wlb7 (p:sa7) (t:tb7):Bool:=(decide (t.trucks.length=p.trucks.length)&&decide (t.bikes.length=p.bikes.length))&&(eu7 p t p.trucks.length&&sq7 p t p.bikes.length)
def efc7 (x:ba7) (p:sa7) (t:tb7):Bool:=match eg7 x p t p.trucks.length with
 | none=>false
 | some r=>gs7 x p t r p.bikes.length
def ta7 (x:ba7) (p:sa7) (t:tb7):Int :=
 if na7 x p≠0 then na7 x p else if wlb7 p t=false then 4 else if efc7 x p t=false then 12 else 0
theorem pab7 (f:Nat→Bool) (k:Nat):(List.range (k+1)).all f=((List.range k).all f&&f k):=by
 rw[List.range_succ,List.all_append];simp
theorem xnb7 {w:World}{x:ba7}{q:Nat}{a:Option Addr}{c1:Nat}{s:Int}(h3:w.cell? ⟨q,5,none⟩=some (.slice a x.sats.length c1)) :
  Calls Tryz.prog 76 #[.int .i64 s,.pointer (some ⟨q,0,none⟩)] w fun e w'=>e = .returned (.bool (decide (0≤s)&&decide (s<x.sats.length)))∧w'=w:=by
 by_cases e1:0≤s
 ·by_cases e2:s<x.sats.length
  all_goals
   go_enter Tryz.func76,Tryz.ntmps76
   go_wp2
   go_ret
   exact⟨by simp[e1,e2],rfl⟩
 ·go_enter Tryz.func76,Tryz.ntmps76
  go_wp2
  go_ret
  exact⟨by rw[decide_eq_false (by omega),Bool.false_and];rfl,rfl⟩
def ycb7 (m:Nat) (pre:List ea7):Prop:=(∀o∈pre,0≤o.sat)∧∀i,m.testBit i=pre.any (fun o=>o.sat.toNat==i)
theorem ycb7.nil:ycb7 0 []:=⟨fun _ h=>(List.not_mem_nil h).elim,fun i=>by simp⟩
theorem ycb7.push {m:Nat}{pre:List ea7}{s:ea7}(h:ycb7 m pre) (hs:0≤s.sat):ycb7 (m ||| 2 ^ s.sat.toNat) (pre++[s]):=by
 refine⟨fun o ho=>?_,fun i=>?_⟩
 ·rcases List.mem_append.1 ho with ho | ho
  ·exact h.1 o ho
  ·rw[List.mem_singleton.1 ho];exact hs
 ·rw[Nat.testBit_or,Nat.testBit_two_pow,h.2 i,List.any_append,List.any_cons,List.any_nil,Bool.or_false]
  congr 1
def tg7 (x:ba7) (s:Int):Bool:=decide (0≤s)&&decide (s<x.sats.length)
def xi7 (x:ba7) (pre:List ea7) (s:ea7):Bool:=((tg7 x s.sat&&decide (1≤s.load))&&decide (s.load≤1000000000))&&pre.all (fun o=>o.sat != s.sat)
theorem it7 {x:ba7}{m:Nat}{pre:List ea7}{s:ea7}(h:ycb7 m pre):xi7 x pre s = !td7 x m s:=by
 by_cases h0:0≤s.sat
 ·have e:m.testBit s.sat.toNat = !pre.all (fun o=>o.sat != s.sat):=by
   rw[h.2,List.not_all_eq_any_not]
   rw[Bool.eq_iff_iff,List.any_eq_true,List.any_eq_true]
   constructor
   ·rintro⟨o,ho,e⟩
    refine⟨o,ho, ?_⟩
    have:=h.1 o ho
    simp at e ⊢; omega
   ·rintro⟨o,ho,e⟩
    refine⟨o,ho, ?_⟩
    have:=h.1 o ho
    simp at e ⊢; omega
  unfold xi7 td7 tg7
  rw[e,Bool.eq_iff_iff]
  simp only[Bool.and_eq_true,decide_eq_true_eq,Bool.not_eq_true',Bool.or_eq_false_iff,decide_eq_false_iff_not,Bool.not_eq_false']
  constructor
  ·rintro⟨⟨⟨h1,h2⟩,h3⟩,h4⟩
   exact⟨⟨⟨⟨by omega,by omega⟩,h4⟩,by omega⟩,by omega⟩
  ·rintro⟨⟨⟨⟨h1,h2⟩,h4⟩,h3⟩,h5⟩
   exact⟨⟨⟨⟨by omega,by omega⟩,by omega⟩,by omega⟩,h4⟩
 ·unfold xi7 td7 tg7
  rw[decide_eq_false h0,decide_eq_true (show s.sat<0 by omega)];simp
theorem tv7 {x:ba7}{pre:List ea7}{s:ea7}(h:xi7 x pre s=true):qe7 x s:=by
 simp only[xi7,tg7,Bool.and_eq_true,decide_eq_true_eq]at h
 exact⟨h.1.1.1,h.1.1.2,h.1.2⟩
theorem rr7 (x:ba7):∀(l:List (List ea7)) (ld:Bool),(kf7 x l false ld).1=false
 | [],_=>rfl
 | t::ts,ld=>by
  unfold kf7
  cases fj7 x t with
  | none=>rfl
  | some p=>rw[Bool.false_and];exact rr7 x ts _
def mf7 (n:Nat):List Int:=List.replicate n 0
structure llb7 (x:ba7) (l:List (List ea7)) (k:Nat) (r ld:Bool) (out:List Int):Prop where
 len:out.length=x.sats.length
 yes:r=true→qd7 x l=kf7 x (l.drop k) true ld∧out=(l.take k).foldl bi7 (List.replicate x.sats.length 0)∧gc7 out (ya7 l k)
 no:r=false→(qd7 x l).1=false
theorem llb7.start (x:ba7) (l:List (List ea7)):llb7 x l 0 true true (mf7 x.sats.length) :=
 ⟨by simp[mf7],fun _=>⟨rfl,rfl,gc7.zero _⟩,fun h=>by cases h⟩
structure rv7 (x:ba7) (l:List (List ea7)) (k:Nat) (t:List ea7) (j:Nat) (r ld:Bool) (sum:Int) (out:List Int):Prop where
 len:out.length=x.sats.length
 sumB:0≤sum∧sum≤1000000000*(j:Int)
 yes:r=true→(∃m,ycb7 m (t.take j)∧fj7 x t=(t.drop j).foldl (zj7 x) (some (m,x.troom-sum)))∧qd7 x l=kf7 x (l.drop k) true ld∧0<t.length ∧
  out=(t.take j).foldl kh7 ((l.take k).foldl bi7 (List.replicate x.sats.length 0))∧gc7 out (ya7 l k+j)
 no:r=false→(qd7 x l).1=false
theorem rv7.start {x:ba7}{l:List (List ea7)}{k:Nat}{r ld:Bool}{out:List Int}(h:llb7 x l k r ld out) (hk:k<l.length):rv7 x l k l[k] 0 (r&&decide (0<l[k].length)) ld 0 out:=by
 refine⟨h.len,by decide,fun hr=>?_,fun hr=>?_⟩
 ·simp only[Bool.and_eq_true,decide_eq_true_eq]at hr
  obtain⟨h1,h2,h3⟩:=h.yes hr.1
  exact⟨⟨0,ycb7.nil,by simp only[fj7,List.drop_zero,Int.sub_zero]⟩,h1,hr.2,h2,h3⟩
 ·cases r with
  | false=>exact h.no rfl
  | true =>
   have h0:l[k].length=0:=by simpa using hr
   rw[(h.yes rfl).1,List.drop_eq_getElem_cons hk,List.eq_nil_of_length_eq_zero h0,kk7 (m:=0) (left:=x.troom) rfl]
   exact rr7 x _ _
theorem rv7.step {x:ba7}{l:List (List ea7)}{k:Nat}{t:List ea7}{j:Nat}{r ld:Bool}{sum:Int}{out:List Int}(h:rv7 x l k t j r ld sum out) (hj:j<t.length)
  (hr:(r&&xi7 x (t.take j) t[j])=true):rv7 x l k t (j+1) true ld (sum+t[j].load) (kh7 out t[j]):=by
 simp only[Bool.and_eq_true]at hr
 have ho:=tv7 hr.2
 obtain⟨⟨m,hm,ht⟩,h1,h2,h3,h4⟩:=h.yes hr.1
 have hb:=it7 (x:=x) (s:=t[j]) hm
 rw[hr.2]at hb
 have hb2:td7 x m t[j]=false:=by simpa using hb.symm
 have hl:=ho.2
 have hs:=h.sumB
 refine⟨by rw[ep7];exact h.len,by push_cast;omega,fun _=>⟨⟨m ||| 2 ^ t[j].sat.toNat, ?_, ?_⟩,h1,h2, ?_, ?_⟩,fun h=>by cases h⟩
 ·rw[List.take_succ_eq_append_getElem hj];exact hm.push ho.1.1
 ·rw[ht,List.drop_eq_getElem_cons hj,List.foldl_cons,iq7 hb2,show x.troom-sum-t[j].load=x.troom-(sum+t[j].load) by omega]
 ·rw[xa7 _ _ _ _ hj,← h3]
 ·unfold kh7
  refine h4.add ?_ ⟨by omega,hl.2⟩
  have hlt:t[j].sat.toNat<out.length:=by have:=ho.1;rw[h.len];omega
  rw[List.getD_eq_getElem?_getD,List.getElem?_eq_getElem hlt]
  exact h4.get hlt
theorem wcb7 {x:ba7}{l:List (List ea7)}{k:Nat}(hk:k<l.length) {ld:Bool}(h:fj7 x l[k]=none):(kf7 x (l.drop k) true ld).1=false:=by
 rw[List.drop_eq_getElem_cons hk,il7 h]
theorem rv7.stop {x:ba7}{l:List (List ea7)}{k:Nat}(hk:k<l.length) {j:Nat}{r ld:Bool}{sum:Int}{out:List Int}(h:rv7 x l k l[k] j r ld sum out) (hj:j<l[k].length)
  (hr:(r&&xi7 x (l[k].take j) (l[k])[j])=false):rv7 x l k l[k] (j+1) false ld sum out:=by
 refine⟨h.len,(by have:=h.sumB;push_cast;omega),(fun h=>by cases h),fun _=>?_⟩
 cases r with
 | false=>exact h.no rfl
 | true =>
  rw[Bool.true_and]at hr
  obtain⟨⟨m,hm,ht⟩,h1,-,-,-⟩:=h.yes rfl
  have hb:=it7 (x:=x) (s:=(l[k])[j]) hm
  rw[hr]at hb
  have hb2:td7 x m (l[k])[j]=true:=by simpa using hb.symm
  rw[h1]
  refine wcb7 hk ?_
  rw[ht,List.drop_eq_getElem_cons hj,List.foldl_cons,xn7 hb2,sn7]
theorem rv7.done {x:ba7}{l:List (List ea7)}{k:Nat}(hk:k<l.length) {r ld:Bool}{sum:Int}{out:List Int}(h:rv7 x l k l[k] l[k].length r ld sum out):llb7 x l (k+1) r (ld&&decide (sum≤x.troom)) out:=by
 refine⟨h.len,fun hr=>?_,h.no⟩
 obtain⟨⟨m,hm,ht⟩,h1,h2,h3,h4⟩:=h.yes hr
 rw[List.drop_length,List.foldl_nil]at ht
 rw[List.take_length]at h3
 refine⟨?_, ?_, ?_⟩
 ·rw[h1,List.drop_eq_getElem_cons hk,kk7 ht,decide_eq_true h2,Bool.and_true]
  congr 2
  rw[Bool.eq_iff_iff];simp
 ·rw[xa7 _ _ _ _ hk,h3];rfl
 ·rw[ge7 hk];exact h4
theorem rv7.start2 {x:ba7}{l:List (List ea7)}{k:Nat}{t:List ea7}{r ld:Bool}{out:List Int}(h:llb7 x l k r ld out) (hk:k<l.length) (ht:t=l[k]):rv7 x l k t 0 (r&&decide (0<t.length)) ld 0 out:=by
 subst ht;exact rv7.start h hk
theorem rv7.stop2 {x:ba7}{l:List (List ea7)}{k:Nat}(hk:k<l.length) {t:List ea7}(ht:t=l[k]) {j:Nat}{r ld:Bool}{sum:Int}{out:List Int}(h:rv7 x l k t j r ld sum out) (hj:j<t.length)
  (hr:(r&&xi7 x (t.take j) t[j])=false):rv7 x l k t (j+1) false ld sum out:=by
 subst ht;exact h.stop hk hj hr
theorem rv7.done2 {x:ba7}{l:List (List ea7)}{k:Nat}(hk:k<l.length) {t:List ea7}(ht:t=l[k]) {r ld:Bool}{sum:Int}{out:List Int}(h:rv7 x l k t t.length r ld sum out):llb7 x l (k+1) r (ld&&decide (sum≤x.troom)) out:=by
 subst ht;exact h.done hk
theorem llb7.done {x:ba7}{l:List (List ea7)}{r ld:Bool}{out:List Int}(h:llb7 x l l.length r ld out):(r=true→qd7 x l=(true,ld)∧out=yj7 x l)∧(r=false→(qd7 x l).1=false) :=
 ⟨fun hr=>by
  obtain⟨h1,h2,-⟩:=h.yes hr
  rw[List.drop_length]at h1
  rw[List.take_length]at h2
  exact⟨h1,h2⟩,h.no⟩
/-! Bikes. -/
def lo7 (m n:Nat):List Int:=(List.range n).map fun i=>if m.testBit i then 1 else 0
theorem jeb7 (m n:Nat):(lo7 m n).length=n:=by simp[lo7]
theorem sv7 (m n i:Nat) (h:i<(lo7 m n).length):(lo7 m n)[i]=if m.testBit i then 1 else 0:=by simp[lo7]
theorem osb7 (m n i:Nat) (v:Int) (hv:v=1):(lo7 m n).set i v=lo7 (m ||| 2 ^ i) n:=by
 subst hv
 refine List.ext_getElem (by simp[lo7]) fun j h1 h2=>?_
 rw[List.getElem_set]
 simp only[lo7,List.getElem_map,List.getElem_range,Nat.testBit_or,Nat.testBit_two_pow]
 by_cases e:i=j <;> simp[e]
theorem ylb7 (n:Nat):lo7 0 n=mf7 n:=by
 refine List.ext_getElem (by simp[lo7,mf7]) fun j h1 h2=>?_
 simp[lo7,mf7]
def tu7 (x:ba7) (m:Nat) (c:Int):Bool:=((decide (0≤c))&&decide (c<x.custs.length)) && !m.testBit c.toNat
theorem gt7 (x:ba7) (m:Nat) (c:Int):tu7 x m c = !fe7 x m c:=by
 unfold tu7 fe7
 rw[Bool.eq_iff_iff]
 simp only[Bool.and_eq_true,decide_eq_true_eq,Bool.not_eq_true',Bool.or_eq_false_iff,decide_eq_false_iff_not]
 constructor
 ·rintro⟨⟨h1,h2⟩,h3⟩
  exact⟨⟨by omega,by omega⟩,h3⟩
 ·rintro⟨⟨h1,h2⟩,h3⟩
  exact⟨⟨by omega,by omega⟩,h3⟩
structure BInv (x:ba7) (l:List ra7) (tr lt:Bool) (k:Nat) (r ld:Bool) (sv out:List Int):Prop where
 len:out.length=x.sats.length
 svL:sv.length=x.custs.length
 yes:r=true→tr=true∧(∃(m:Nat) (lb:Bool),ne7 x l=si7 x (l.drop k) m lb∧ld=(lt&&lb)∧sv=lo7 m x.custs.length∧m<2 ^ x.custs.length)∧out=(l.take k).foldl (jp7 x) (List.replicate x.sats.length 0)∧gc7 out (mb7 l k)
 no:r=false→tr=false∨(ne7 x l).1=false
theorem BInv.start (x:ba7) (l:List ra7) (tr lt:Bool):BInv x l tr lt 0 tr lt (mf7 x.custs.length) (mf7 x.sats.length) :=
 ⟨by simp[mf7],by simp[mf7],fun h=>⟨h,⟨0,true,rfl,by simp,(ylb7 _).symm,Nat.two_pow_pos _⟩,rfl,gc7.zero _⟩,fun h=>.inl h⟩
structure mo7 (x:ba7) (l:List ra7) (tr lt:Bool) (k:Nat) (b:ra7) (j:Nat) (r ld:Bool) (sum:Int) (sv out:List Int):Prop where
 len:out.length=x.sats.length
 svL:sv.length=x.custs.length
 sumB:0≤sum∧sum≤1000000000*(j:Int)
 yes:r=true→tr=true∧(∃(m0 m:Nat) (lb:Bool),ne7 x l=si7 x (l.drop k) m0 lb∧ld=(lt&&lb)∧ig7 x b=false∧wq7 x m0 b.stops=(b.stops.drop j).foldl (ej7 x) (some (m,x.broom-sum)) ∧
  sv=lo7 m x.custs.length∧m<2 ^ x.custs.length)∧out=(b.stops.take j).foldl (yf7 x b.sat) ((l.take k).foldl (jp7 x) (List.replicate x.sats.length 0))∧gc7 out (mb7 l k+j)
 no:r=false→tr=false∨(ne7 x l).1=false
theorem vl7 (x:ba7) (b:ra7):ig7 x b = !(decide (0<b.stops.length)&&tg7 x b.sat):=by
 unfold ig7 tg7
 rw[Bool.eq_iff_iff]
 simp only[Bool.or_eq_true,decide_eq_true_eq,Bool.not_eq_true',Bool.and_eq_false_iff,decide_eq_false_iff_not]
 omega
theorem mo7.start {x:ba7}{l:List ra7}{tr lt:Bool}{k:Nat}{r ld:Bool}{sv out:List Int}(h:BInv x l tr lt k r ld sv out) (hk:k<l.length) :
  mo7 x l tr lt k l[k] 0 ((r&&decide (0<l[k].stops.length))&&tg7 x l[k].sat) ld 0 sv out:=by
 refine⟨h.len,h.svL,by decide,fun hr=>?_,fun hr=>?_⟩
 ·rw[Bool.and_assoc,Bool.and_eq_true]at hr
  obtain⟨h0,⟨m,lb,h1,h2,h3,h4⟩,h5,h6⟩:=h.yes hr.1
  exact⟨h0,⟨m,m,lb,h1,h2,by rw[vl7,hr.2];rfl,by simp only[wq7,List.drop_zero,Int.sub_zero],h3,h4⟩,h5,h6⟩
 ·cases r with
  | false=>exact h.no rfl
  | true =>
   rw[Bool.true_and]at hr
   obtain⟨h0,⟨m,lb,h1,h2,h3,h4⟩,h5,h6⟩:=h.yes rfl
   refine .inr ?_
   rw[h1,List.drop_eq_getElem_cons hk,eo7 (by rw[vl7,hr];rfl)]
theorem mo7.addLoad_eq {x:ba7}{sat:Int}{out:List Int}{c:Int}(hs:tg7 x sat=true) (hl:out.length=x.sats.length) (hc:0≤c∧c<x.custs.length) :
  yf7 x sat out c=out.set sat.toNat (out.getD sat.toNat 0+(x.custs.getD c.toNat ⟨0,0,0,0⟩).load):=by
 simp only[tg7,Bool.and_eq_true,decide_eq_true_eq]at hs
 unfold yf7
 rw[if_pos (by rw[hl];omega)]
theorem mo7.step {x:ba7}{l:List ra7}{tr lt:Bool}{k:Nat}{b:ra7}{j:Nat}{ld:Bool}{sum:Int}{sv out:List Int}(h:mo7 x l tr lt k b j true ld sum sv out) (hj:j<b.stops.length)
  (hcu:∀c∈x.custs,0≤c.load∧c.load≤1000000000) (hc:0≤b.stops[j]∧b.stops[j]<x.custs.length) (h0:sv.getD (b.stops[j]).toNat 0=0) :
  mo7 x l tr lt k b (j+1) true ld (sum+(x.custs.getD (b.stops[j]).toNat ⟨0,0,0,0⟩).load) (sv.set (b.stops[j]).toNat 1) (yf7 x b.sat out b.stops[j]):=by
 obtain⟨t0,⟨m0,m,lb,h1,h2,h3,h4,h5,h6⟩,h7,h8⟩:=h.yes rfl
 obtain⟨c,hce⟩:∃c,c=b.stops[j]:=⟨_,rfl⟩
 rw[← hce]at hc h0 ⊢
 have hcl:c.toNat<x.custs.length:=by omega
 have hld:=hcu _ (List.getElem_mem hcl)
 have hcd:(x.custs.getD c.toNat ⟨0,0,0,0⟩)=x.custs[c.toNat]:=by rw[List.getD_eq_getElem?_getD,List.getElem?_eq_getElem hcl];rfl
 have hsb:=h.sumB
 have htb:m.testBit c.toNat=false:=by
  rw[h5,List.getD_eq_getElem?_getD,List.getElem?_eq_getElem (by rw[jeb7];exact hcl),Option.getD_some,sv7]at h0
  cases e:m.testBit c.toNat with
  | false=>rfl
  | true=>rw[e]at h0;cases h0
 have hcb:fe7 x m c=false:=by
  have:=gt7 x m c
  unfold tu7 at this
  rw[decide_eq_true hc.1,decide_eq_true hc.2,htb]at this
  simpa using this.symm
 have hth:tg7 x b.sat=true:=by
  rw[vl7]at h3
  have:(decide (0<b.stops.length)&&tg7 x b.sat)=true:=by simpa using h3
  exact (Bool.and_eq_true_iff.1 this).2
 refine⟨by rw[dx7];exact h.len,by rw[List.length_set];exact h.svL,by rw[hcd];push_cast;omega,fun _=>⟨t0,⟨m0,m ||| 2 ^ c.toNat,lb,h1,h2,h3, ?_, ?_, ?_⟩, ?_, ?_⟩,fun h=>by cases h⟩
 ·rw[h4,List.drop_eq_getElem_cons hj,List.foldl_cons,← hce,xq7 hcb]
  show List.foldl (ej7 x) (some (m ||| 2 ^ c.toNat,x.broom-sum-(x.custs.getD c.toNat ⟨0,0,0,0⟩).load)) _=_
  rw[Int.sub_sub]
 ·rw[h5,osb7 _ _ _ _ rfl]
 ·exact Nat.or_lt_two_pow h6 (Nat.pow_lt_pow_right (by decide) hcl)
 ·rw[xa7 _ _ _ _ hj,← h7,← hce]
 ·rw[mo7.addLoad_eq hth h.len hc,← Nat.add_assoc]
  have hs2:b.sat.toNat<out.length:=by
   simp only[tg7,Bool.and_eq_true,decide_eq_true_eq]at hth
   rw[h.len];omega
  refine h8.add ?_ (by rw[hcd];exact hld)
  rw[List.getD_eq_getElem?_getD,List.getElem?_eq_getElem hs2]
  exact h8.get hs2
theorem mo7.twice {x:ba7}{l:List ra7}{tr lt:Bool}{k:Nat}(hk:k<l.length) {j:Nat}{r ld:Bool}{sum:Int}{sv out:List Int}(h:mo7 x l tr lt k l[k] j r ld sum sv out) (hj:j<l[k].stops.length)
  (hr:r=true→¬((0≤(l[k]).stops[j]∧(l[k]).stops[j]<x.custs.length)∧sv.getD ((l[k]).stops[j]).toNat 0=0)):r=true→(ne7 x l).1=false:=by
 intro hrt
 obtain⟨t0,⟨m0,m,lb,h1,h2,h3,h4,h5,h6⟩,h7,h8⟩:=h.yes hrt
 have hr:=hr hrt
 obtain⟨c,hce⟩:∃c,c=(l[k]).stops[j]:=⟨_,rfl⟩
 rw[← hce]at hr
 have hcb:fe7 x m c=true:=by
  have:=gt7 x m c
  cases e:fe7 x m c with
  | true=>rfl
  | false =>
   rw[e]at this
   simp only[tu7,Bool.and_eq_true,decide_eq_true_eq,Bool.not_eq_true',Bool.not_false]at this
   refine absurd ⟨this.1, ?_⟩ hr
   rw[h5,List.getD_eq_getElem?_getD,List.getElem?_eq_getElem (by rw[jeb7];omega),Option.getD_some,sv7,this.2];rfl
 rw[h1,List.drop_eq_getElem_cons hk,am7 (by rw[h4,List.drop_eq_getElem_cons hj,List.foldl_cons,← hce,zn7 hcb,yn7])]
theorem mo7.stop {x:ba7}{l:List ra7}{tr lt:Bool}{k:Nat}(hk:k<l.length) {j:Nat}{r ld:Bool}{sum sum':Int}{sv out sv' out':List Int}(h:mo7 x l tr lt k l[k] j r ld sum sv out) (hj:j<l[k].stops.length)
  (hr:r=true→¬((0≤(l[k]).stops[j]∧(l[k]).stops[j]<x.custs.length)∧sv.getD ((l[k]).stops[j]).toNat 0=0)) (hl:out'.length=x.sats.length) (hs:sv'.length=x.custs.length) (hb:0≤sum'∧sum'≤1000000000*((j+1:Nat):Int)) :
  mo7 x l tr lt k l[k] (j+1) false ld sum' sv' out' :=
 ⟨hl,hs,hb,(fun h=>by cases h),fun _=>(by
  rcases Bool.eq_false_or_eq_true r with e | e
  ·exact .inr (h.twice hk hj hr e)
  ·exact h.no e)⟩
theorem mo7.done {x:ba7}{l:List ra7}{tr lt:Bool}{k:Nat}(hk:k<l.length) {r ld:Bool}{sum:Int}{sv out:List Int}(h:mo7 x l tr lt k l[k] l[k].stops.length r ld sum sv out) :
  BInv x l tr lt (k+1) r (ld&&decide (sum≤x.broom)) sv out:=by
 refine⟨h.len,h.svL,fun hr=>?_,h.no⟩
 obtain⟨t0,⟨m0,m,lb,h1,h2,h3,h4,h5,h6⟩,h7,h8⟩:=h.yes hr
 rw[List.drop_length,List.foldl_nil]at h4
 rw[List.take_length]at h7
 refine⟨t0,⟨m,lb&&decide (0≤x.broom-sum), ?_, ?_,h5,h6⟩, ?_, ?_⟩
 ·rw[h1,List.drop_eq_getElem_cons hk,vr7 h3 h4]
 ·rw[h2,Bool.and_assoc]
  congr 2
  rw[Bool.eq_iff_iff];simp
 ·rw[xa7 _ _ _ _ hk,h7];rfl
 ·rw[od7 hk];exact h8
theorem mo7.start2 {x:ba7}{l:List ra7}{tr lt:Bool}{k:Nat}{r ld:Bool}{sv out:List Int}(h:BInv x l tr lt k r ld sv out) (hk:k<l.length) {b:ra7}(hb:b=l[k]) :
  mo7 x l tr lt k b 0 ((r&&decide (0<b.stops.length))&&tg7 x b.sat) ld 0 sv out:=by
 subst hb;exact mo7.start h hk
theorem mo7.stop2 {x:ba7}{l:List ra7}{tr lt:Bool}{k:Nat}(hk:k<l.length) {b:ra7}(hbe:b=l[k]) {j:Nat}{r ld:Bool}{sum sum':Int}{sv out sv' out':List Int}(h:mo7 x l tr lt k b j r ld sum sv out) (hj:j<b.stops.length)
  (hr:r=true→¬((0≤b.stops[j]∧b.stops[j]<x.custs.length)∧sv.getD (b.stops[j]).toNat 0=0)) (hl:out'.length=x.sats.length) (hs:sv'.length=x.custs.length) (hb:0≤sum'∧sum'≤1000000000*((j+1:Nat):Int)) :
  mo7 x l tr lt k b (j+1) false ld sum' sv' out':=by
 subst hbe;exact h.stop hk hj hr hl hs hb
theorem mo7.done2 {x:ba7}{l:List ra7}{tr lt:Bool}{k:Nat}(hk:k<l.length) {b:ra7}(hb:b=l[k]) {r ld:Bool}{sum:Int}{sv out:List Int}(h:mo7 x l tr lt k b b.stops.length r ld sum sv out) :
  BInv x l tr lt (k+1) r (ld&&decide (sum≤x.broom)) sv out:=by
 subst hb;exact h.done hk
theorem mo7.facts {x:ba7}{l:List ra7}{tr lt:Bool}{k:Nat}{b:ra7}{j:Nat}{ld:Bool}{sum:Int}{sv out:List Int}(h:mo7 x l tr lt k b j true ld sum sv out) (c:Nat) :
  (0≤b.sat∧b.sat<x.sats.length)∧(0≤sv.getD c 0∧sv.getD c 0≤1)∧gc7 out (mb7 l k+j):=by
 obtain⟨t0,⟨m0,m,lb,h1,h2,h3,h4,h5,h6⟩,h7,h8⟩:=h.yes rfl
 refine⟨?_, ?_,h8⟩
 ·rw[vl7]at h3
  have:(decide (0<b.stops.length)&&tg7 x b.sat)=true:=by simpa using h3
  have:=(Bool.and_eq_true_iff.1 this).2
  simpa[tg7]using this
 ·rw[h5,List.getD_eq_getElem?_getD]
  by_cases hc:c<(lo7 m x.custs.length).length
  ·rw[List.getElem?_eq_getElem hc,Option.getD_some,sv7];split <;> decide
  ·rw[List.getElem?_eq_none (by omega)];decide
theorem mo7.go {x:ba7}{l:List ra7}{tr lt:Bool}{k:Nat}(hk:k<l.length) {b:ra7}(hbe:b=l[k]) {j:Nat}{ld:Bool}{sum:Int}{sv out:List Int}(h:mo7 x l tr lt k b j true ld sum sv out) (hj:j<b.stops.length)
  (hcu:∀c∈x.custs,0≤c.load∧c.load≤1000000000) {c:Int} (hce:c=b.stops[j]) (hc:0≤c∧c<x.custs.length) {v ov lo:Int} (hv:sv.getD c.toNat 0=v) (hov:out.getD b.sat.toNat 0=ov) (hlo:(x.custs.getD c.toNat ⟨0,0,0,0⟩).load=lo) :
  mo7 x l tr lt k b (j+1) (v+1==1) ld (sum+lo) (sv.set c.toNat (v+1)) (out.set b.sat.toNat (ov+lo)):=by
 subst hce hv hov hlo
 have hf:=h.facts 0
 have hcl:(b.stops[j]).toNat<x.custs.length:=by omega
 have hld:=hcu _ (List.getElem_mem hcl)
 have hcd:(x.custs.getD (b.stops[j]).toNat ⟨0,0,0,0⟩)=x.custs[(b.stops[j]).toNat]:=by rw[List.getD_eq_getElem?_getD,List.getElem?_eq_getElem hcl];rfl
 by_cases h0:sv.getD (b.stops[j]).toNat 0=0
 ·have:=h.step hj hcu hc h0
  rw[mo7.addLoad_eq (by simp[tg7,hf.1]) h.len hc]at this
  rw[h0]
  exact this
 ·have e:(sv.getD (b.stops[j]).toNat 0+1==1)=false:=by rw[beq_eq_false_iff_ne];omega
  rw[e]
  have hs:=h.sumB
  exact h.stop2 hk hbe hj (fun _ hn=>h0 hn.2) (by rw[List.length_set];exact h.len) (by rw[List.length_set];exact h.svL) (by rw[hcd];push_cast;omega)
theorem xsb7:∀n,n≤6→∀m,m<2 ^ n→(Lib.onesCount m=n↔∀i,i<n→m.testBit i=true):=by decide +kernel
theorem wub7 {x:ba7}{p:sa7}{tr lt r ld:Bool}{dr sv out:List Int}(hn:x.custs.length≤6) (hck:check x=0) (hT:llb7 x p.trucks p.trucks.length tr lt dr) (hB:BInv x p.bikes tr lt p.bikes.length r ld sv out)
  (hf:¬(x.tmany<p.trucks.length∨x.bmany<p.bikes.length)):na7 x p=if r=false then 15 else if 0∈sv then 8 else if (ld && !rk7 x out x.sats.length)=false then 10 else if out=dr then 0 else 13:=by
 unfold na7
 rw[if_neg (by simpa using hck),if_neg hf]
 have ht:=hT.done
 cases r with
 | false =>
  rw[if_pos rfl,if_pos]
  rcases hB.no rfl with h | h
  ·exact .inl (ht.2 h)
  ·exact .inr h
 | true =>
  obtain⟨htr,⟨m,lb,h1,h2,h3,h4⟩,h5,h6⟩:=hB.yes rfl
  obtain⟨h7,h8⟩:=ht.1 htr
  rw[List.drop_length]at h1
  rw[List.take_length]at h5
  have h9:ne7 x p.bikes=(true,decide (Lib.onesCount m=x.custs.length),lb):=h1
  have h10:out=tk7 x p.bikes:=h5
  rw[h7,h9,← h10,← h8]
  have hz:(0∈sv)↔¬Lib.onesCount m=x.custs.length:=by
   rw[xsb7 _ hn _ h4,h3]
   simp only[lo7,List.mem_map,List.mem_range]
   constructor
   ·rintro⟨i,hi,e⟩ hall
    rw[hall i hi]at e;cases e
   ·intro hna
    obtain⟨i,hi⟩:=Classical.not_forall.1 hna
    obtain⟨hi,e⟩:=Classical.not_imp.1 hi
    exact⟨i,hi,by rw[if_neg e]⟩
  simp only[Bool.true_eq_false,or_self,if_false]
  by_cases hon:Lib.onesCount m=x.custs.length
  ·have hz2:¬(0∈sv):=fun h=>hz.1 h hon
   rw[decide_eq_true hon,if_neg hz2]
   subst h2
   cases lt <;> cases lb <;> cases rk7 x out x.sats.length <;> simp
  ·rw[decide_eq_false hon,if_pos rfl,if_pos (hz.2 hon)]
def pk7:vb7:=⟨0,0,0,0,0,[],[],[],[],false,false⟩
theorem imb7 (w:World):mr7.rep w (fun _=>False) pk7 [.int .u8 0,.int .u8 0,.int .u8 0,.int .u8 0,.int .u8 0,.slice none 0 0,.slice none 0 0,.slice none 0 0,.slice none 0 0,.bool false,.bool false]:=by
 have h0:∀{α:Type} (S:Shape α),njb7 S w (fun _=>False) [] [.slice none 0 0]:=fun S=>⟨none,0,0,0,rfl,Nat.le_refl _,Nat.zero_le _,fun h=>absurd h (Nat.not_lt_zero _),fun i h=>absurd h (Nat.not_lt_zero _)⟩
 exact⟨_,_,_,_,rfl,by unfold wf8 pk7;decide,h0 _,h0 _,h0 _,h0 _⟩
theorem gbc7 (w:World):Calls Tryz.prog 70 #[] w fun e w'=>∃ds,e = .returned (.agg ds.toArray)∧wd7 87 167 78 2 w' w.heap.size (dh7 pk7) ds∧Below w.heap.size w w':=by
 have hz:=imb7
 go_enter Tryz.func70,Tryz.ntmps70
 go_wp2_with (go_at_call 20;refine (wwb7 (hz _)).mono ?_;rintro e w1 ⟨ds,rfl,hi,hb⟩;obtain⟨gs,cs1,gc,cc1,gco,cco,gti,cti,rfl⟩:=hi.lit;have R:=(Row.new (w:=w) (e:=57) (cs:=[.int .i64 0,.int .i64 0,.int .i64 0,.int .i64 0,.int .i64 0,.slice none 0 0,.slice none 0 0,.slice none 0 0,.slice none 0 0]) rfl).below hb;obtain⟨r0,r1,r2,r3,r4,r5,r6,r7,r8⟩:=sh7 R;obtain⟨f0,f1,f2,f3,f4,f5,f6,f7,f8⟩:=vac7 R)
 refine bodyPost_ret (v:=.agg #[.int .i64 (dh7 pk7).fin,.int .i64 (dh7 pk7).tmany,.int .i64 (dh7 pk7).troom,.int .i64 (dh7 pk7).bmany,.int .i64 (dh7 pk7).broom,.slice (some ⟨gs,0,none⟩) (dh7 pk7).sats.length cs1,.slice (some ⟨gc,0,none⟩) (dh7 pk7).custs.length cc1,.slice (some ⟨gco,0,none⟩) (dh7 pk7).cost.length cco,.slice (some ⟨gti,0,none⟩) (dh7 pk7).time.length cti]) (by simp[results,Tryz.results70,go_sem,r0,r1,r2,r3,r4,r5,r6,r7,r8]) rfl ⟨_,rfl, ?_, ?_⟩
 ·refine wd7.keepOn (w:=w1) (TX:=57) ?_ (fun b e cs hR he=>?_) (by decide) (by decide) (by decide) (by decide)
  ·exact hi.mono (by simp)
  ·have n1:b≠w.heap.size:=hR.ne R he
   iterate 9 (rw[Below.heap_setCell _ _ _ _ (by exact n1)])
 ·iterate 9 (refine Below.setCell ?_ (by exact Nat.le_refl _) _)
  exact ((Below.refl _ _).alloc (Nat.le_refl _) _).trans (hb.mono (by simp))
def qa7:ba7:=⟨40,1,5,1,3,[⟨60,2⟩],[⟨2,5,90,1⟩],[[0,0,0],[0,0,0],[0,0,0]],[[0,0,0],[0,0,0],[0,0,0]]⟩
theorem lbb7:dh7 pk7=qa7:=by decide
def zt7:ba7:=(qa7.putCost 0 1 5).putCost 1 2 7
def ze7:sa7:=⟨[[⟨0,2⟩]],[⟨0,[0]⟩]⟩
theorem ikc7:aq7 zt7:=by
 unfold aq7 pa7 zt7 qa7 ba7.putCost setAt maxLen;simp
theorem hqb7:na7 zt7 ze7=0:=by decide +kernel
theorem pcc7:uj7 zt7 ze7=12:=by decide +kernel
theorem zub7:na7 zt7 ⟨[],[]⟩=8:=by decide +kernel
theorem qw7:zt7.custs.length≤6:=by decide
theorem crb7 (w:World):ud7.rep w (fun _=>True) ⟨[],[]⟩ [.slice none 0 0,.slice none 0 0] :=
 ⟨_,_,rfl,⟨none,0,0,0,rfl,Nat.le_refl _,Nat.zero_le _,fun h=>absurd h (Nat.not_lt_zero _),fun i h=>absurd h (Nat.not_lt_zero _)⟩,⟨none,0,0,0,rfl,Nat.le_refl _,Nat.zero_le _,fun h=>absurd h (Nat.not_lt_zero _),fun i h=>absurd h (Nat.not_lt_zero _)⟩⟩
theorem rp7 {w:World}{h1 h2 h3 h4:Nat}{s l b c:Int}{T1 T2 T3 T4:TypeId}(r1:Row w h1 T1 [.int .i64 s,.int .i64 l]) (r2:Row w h2 T2 [.slice (some ⟨h1,0,none⟩) 1 1]) (r3:Row w h3 T3 [.int .i64 c]) (r4:Row w h4 T4 [.int .i64 b,.slice (some ⟨h3,0,none⟩) 1 1])
  (w1:pa7 s) (w2:pa7 l) (w3:pa7 b) (w4:pa7 c):ud7.rep w (fun _=>True) ⟨[[⟨s,l⟩]],[⟨b,[c]⟩]⟩ [.slice (some ⟨h2,0,none⟩) 1 1,.slice (some ⟨h4,0,none⟩) 1 1]:=by
 have e1:(ia7 ph7).rep w (fun _=>True) [⟨s,l⟩] [.slice (some ⟨h1,0,none⟩) 1 1]:=tvb7 (S:=ph7) ⟨rfl,w1,w2⟩ r1 trivial
 have e2:wm7.rep w (fun _=>True) [[⟨s,l⟩]] [.slice (some ⟨h2,0,none⟩) 1 1]:=tvb7 (S:=ia7 ph7) e1 r2 trivial
 have e3:(ia7 dg7).rep w (fun _=>True) [c] [.slice (some ⟨h3,0,none⟩) 1 1]:=tvb7 (S:=dg7) ⟨rfl,w4⟩ r3 trivial
 have e4:vo7.rep w (fun _=>True) [⟨b,[c]⟩] [.slice (some ⟨h4,0,none⟩) 1 1]:=tvb7 (S:=rq7) ⟨_,rfl,w3,e3⟩ r4 trivial
 exact⟨_,_,rfl,e2,e4⟩
theorem tnb7 (w:World):Calls Tryz.prog 87 #[] w fun e w'=>e = .returned (.bool true)∧Below w.heap.size w w':=by
 go_enter Tryz.func87,Tryz.ntmps87
 go_wp2_with fail
 refine (gbc7 _).mono ?_
 rintro e w1 ⟨ds,rfl,hi,hb⟩
 rw[lbb7]at hi
 obtain⟨gs,cs1,gc,cc1,gco,cco,rco,gti,cti,rti,I⟩:=hi.at
 obtain rfl:=I.lit
 clear hi
 have R0:=Row.new (w:=w1) (e:=57) (cs:=[.int .i64 qa7.fin,.int .i64 qa7.tmany,.int .i64 qa7.troom,.int .i64 qa7.bmany,.int .i64 qa7.broom,.slice (some ⟨gs,0,none⟩) qa7.sats.length cs1,.slice (some ⟨gc,0,none⟩) qa7.custs.length cc1,.slice (some ⟨gco,0,none⟩) qa7.cost.length cco,.slice (some ⟨gti,0,none⟩) qa7.time.length cti]) rfl
 have hob:Old w1 (w1.alloc (.cells ([.int .i64 qa7.fin,.int .i64 qa7.tmany,.int .i64 qa7.troom,.int .i64 qa7.bmany,.int .i64 qa7.broom,.slice (some ⟨gs,0,none⟩) qa7.sats.length cs1,.slice (some ⟨gc,0,none⟩) qa7.custs.length cc1,.slice (some ⟨gco,0,none⟩) qa7.cost.length cco,.slice (some ⟨gti,0,none⟩) qa7.time.length cti]).toArray 57)):=(Below.refl _ _).alloc (Nat.le_refl _) _
 have I0:=I.below hob
 have hB0:=ca7 hb hob
 have hzb:=hb.size
 clear hob I hb
 go_upto_region 2 with fail
 generalize hwq:w1.alloc (.cells _ 57)=wq at *
 clear hwq
 go_cut [] (fun wx=>bf7 87 167 78 2 wx w.heap.size zt7 ([.int .i64 qa7.fin,.int .i64 qa7.tmany,.int .i64 qa7.troom,.int .i64 qa7.bmany,.int .i64 qa7.broom,.slice (some ⟨gs,0,none⟩) qa7.sats.length cs1,.slice (some ⟨gc,0,none⟩) qa7.custs.length cc1,.slice (some ⟨gco,0,none⟩) qa7.cost.length cco,.slice (some ⟨gti,0,none⟩) qa7.time.length cti]) gs cs1 gc cc1 gco cco rco gti cti rti∧Row wx w1.heap.size 57 ([.int .i64 qa7.fin,.int .i64 qa7.tmany,.int .i64 qa7.troom,.int .i64 qa7.bmany,.int .i64 qa7.broom,.slice (some ⟨gs,0,none⟩) qa7.sats.length cs1,.slice (some ⟨gc,0,none⟩) qa7.custs.length cc1,.slice (some ⟨gco,0,none⟩) qa7.cost.length cco,.slice (some ⟨gti,0,none⟩) qa7.time.length cti])∧Below w.heap.size w wx)
 case first =>
  obtain⟨c0,r0,l0,m0⟩:=I0.costs.row (i:=0) (by decide)
  obtain⟨c1,r1,l1,m1⟩:=I0.costs.row (i:=1) (by decide)
  have hne:=I0.costs.apart (i:=0) (i':=1) (by decide) (by decide) (by decide)
  have I2:=(I0.setCost (i:=0) (j:=1) (by decide) (by decide) (by decide) (by decide) (by decide) 5)
  have I3:=(I2.setCost (i:=1) (j:=2) (by decide) (by decide) (by decide) (by decide) (by decide) 7)
  have hr0:=R0.ne r0 (by decide)
  have hr1:=R0.ne r1 (by decide)
  generalize hx0:rco.getD 0 0=x0 at *
  generalize hx1:rco.getD 1 0=x1 at *
  clear hx0 hx1 m0 m1
  have R3:=hid ((R0.setOther (a:=⟨x0,1,none⟩) hr0 (wa7 5)).setOther (a:=⟨x1,2,none⟩) hr1 (wa7 7))
  have hB3:=hid ((hB0.setCell (p:=⟨x0,1,none⟩) l0 (wa7 5)).setCell (p:=⟨x1,2,none⟩) l1 (wa7 7))
  have HI3:=hid I3
  have d0:=r0.cell (j:=1) (by decide)
  have d1:=r1.cell (j:=2) (by decide)
  have f0:=r0.frozen 1
  have f1:=r1.frozen 2
  have hx0:∀w,(Instr.indexAt 38 (.slice (some ⟨gco,0,none⟩) qa7.cost.length cco) (.int .i64 0)).run Tryz.prog w = .ok (.pointer (some ⟨gco,0,none⟩)) w:=ga7 Tryz.underlying38 rh7 rfl (k:=0) (by decide)
  have hx1:∀w,(Instr.indexAt 38 (.slice (some ⟨gco,0,none⟩) qa7.cost.length cco) (.int .i64 1)).run Tryz.prog w = .ok (.pointer (some ⟨gco,1,none⟩)) w:=ga7 Tryz.underlying38 rh7 rfl (k:=1) (by decide)
  have hx2:∀w,(Instr.indexAt 78 (.slice (some ⟨x0,0,none⟩) (qa7.cost.getD 0 []).length (qa7.cost.getD 0 []).length) (.int .i64 1)).run Tryz.prog w = .ok (.pointer (some ⟨x0,1,none⟩)) w:=ga7 Tryz.underlying78 ec7 rfl (k:=1) (by decide)
  have hx3:∀w,(Instr.indexAt 78 (.slice (some ⟨x1,0,none⟩) (qa7.cost.getD 1 []).length (qa7.cost.getD 1 []).length) (.int .i64 2)).run Tryz.prog w = .ok (.pointer (some ⟨x1,2,none⟩)) w:=ga7 Tryz.underlying78 ec7 rfl (k:=2) (by decide)
  clear I0 I2 I3 hr0 hr1 r0 r1 hB0
  obtain⟨q0,q1,q2,q3,q4,q5,q6,q7,q8⟩:=sh7 R0
  have z7:∀e:At (Old wq),_:=fun e=>e.cell q7
  have z9:∀e:At (Old wq),_:=fun e=>e.cell c0
  have z10:∀e:At (Old wq),_:=fun e=>e.cell c1
  refine ja7 (Old wq) [9,10,11] [([0,1,2,3,4,5,6,7],8,false),([],9,true),([],10,true),([],11,true)] (by kernel_rfl) (by kernel_rfl) (fun _ _ d _ _ h=>by cases d <;> exact h) (Old.drew _) ?_
  simp only[lc7,List.map_cons,List.map_nil,Array.getD_eq_getD_getElem?,List.getElem?_toArray,List.getElem?_cons_succ,List.getElem?_cons_zero,Option.getD_some,me7]
  repeat (go_big_quiet_step (fail))
  refine wpQuiet_nil ?_
  go_wp2
  refine⟨Old.drew _,wpQuiet_nil ?_⟩
  go_wp2
  refine wpQuiet_nil ?_
  go_wp2
  refine wpQuiet_nil ?_
  go_wp2
  go_meet
  exact⟨HI3.out.drew,R3.out.drew,hB3.out.drew⟩
 case rest =>
  obtain⟨I,R,hB⟩:=hcut
  obtain⟨wq,rfl⟩:∃wq:World,wq=wc:=⟨_,rfl⟩
  obtain⟨W,hW,hold,r1,r2,r3,r4,r5,hz⟩:=mgb7 wq [.int .i64 0,.int .i64 2] [.slice (some ⟨wq.heap.size,0,none⟩) 1 1] [.int .i64 0] [.int .i64 0,.slice (some ⟨wq.heap.size+2,0,none⟩) 1 1] [.slice (some ⟨wq.heap.size+1,0,none⟩) 1 1,.slice (some ⟨wq.heap.size+3,0,none⟩) 1 1] 121 124 3 70 37
  have HW:=hid hW
  have R1:=R.below hold
  have hB1:=ca7 hB hold
  have hI:eb7.rep W (fun b=>w.heap.size≤b) zt7 _:=(I.below hold).own.rep ikc7
  have hP:=rp7 (s:=0) (l:=2) (b:=0) (c:=0) r1 r2 r3 r4 (by unfold pa7;decide) (by unfold pa7;decide) (by unfold pa7;decide) (by unfold pa7;decide)
  have HI:=hid hI
  have HP:=hid hP
  obtain⟨q0,q1,q2,q3,q4,q5,q6,q7,q8⟩:=sh7 R
  have hzq:=R.lt
  have hzq1:w1.heap.size<wq.heap.size+1:=by omega
  have hzq2:w1.heap.size<wq.heap.size+1+1:=by omega
  have hzq3:w1.heap.size<wq.heap.size+1+1+1:=by omega
  have hzq4:w1.heap.size<wq.heap.size+1+1+1+1:=by omega
  clear hW hold I R hB hI hP r1 r2 r3 r4
  go_wp2_with fail
  rw[show wq.heap.size+1+1+1=wq.heap.size+3 from rfl,show wq.heap.size+1+1=wq.heap.size+2 from rfl,← HW.out]
  refine (zmb7 HI.out HP.out (fun _=>qw7) (by unfold jc7;decide)).mono ?_
  rintro e w2 ⟨rfl,hb2⟩
  rw[show (⟨[[⟨0,2⟩]],[⟨0,[0]⟩]⟩:sa7)=ze7 from rfl,pcc7,hqb7]
  have R2:=R1.below hb2
  have P2:=r5.below hb2
  have hB2:=ca7 hB1 hb2
  have HI2:=hid (eb7.below HI.out hb2)
  have HP2:=hid (ud7.below HP.out hb2)
  clear q0 q1 q2 q3 q4 q5 q6 q7 q8 HI HP R1 r5 hB1 hb2 HW
  obtain⟨q0,q1,q2,q3,q4,q5,q6,q7,q8⟩:=sh7 R2
  obtain⟨p0,p1⟩:=kc7 P2
  go_wp2_with fail
  refine (uh7 HI2.out HP2.out (fun _=>qw7) (by unfold jc7;decide)).mono ?_
  rintro e w3 ⟨rfl,hb3⟩
  rw[show (⟨[[⟨0,2⟩]],[⟨0,[0]⟩]⟩:sa7)=ze7 from rfl,hqb7]
  have R3:=R2.below hb3
  have hB3:=ca7 hB2 hb3
  have HI3:=hid (eb7.below HI2.out hb3)
  clear q0 q1 q2 q3 q4 q5 q6 q7 q8 p0 p1 HI2 HP2 R2 P2 hB2 hb3
  obtain⟨q0,q1,q2,q3,q4,q5,q6,q7,q8⟩:=sh7 R3
  go_wp2_with fail
  refine (uh7 HI3.out (crb7 _) (fun _=>qw7) (by unfold jc7;decide)).mono ?_
  rintro e w4 ⟨rfl,hb4⟩
  rw[zub7]
  go_wp2
  go_ret
  exact⟨rfl,ca7 hB3 hb4⟩
end Go.Proofs.YtabadfkikdefeaaGreat


namespace Go.Proofs.YtabadfkikdefeaaGreat
open Go.RowKit
/-! Sums. -/
theorem tob7:∀(l:List Int) (k:Nat) (h:k<l.length) (v:Int),(l.set k v).sum=l.sum+(v-l[k])
 | a::l,0,_,v=>by simp;omega
 | a::l,k+1,h,v=>by
  rw[List.set_cons_succ,List.sum_cons,List.sum_cons,tob7 l k (Nat.lt_of_succ_lt_succ h) v,List.getElem_cons_succ];omega
def bump (l:List Int) (k:Nat) (v:Int):List Int:=l.set k (l.getD k 0+v)
theorem qu7 {l:List Int}{k:Nat}(h:k<l.length) (v:Int):(bump l k v).sum=l.sum+v:=by
 unfold bump
 rw[tob7 l k h,List.getD_eq_getElem?_getD,List.getElem?_eq_getElem h,Option.getD_some];omega
/-! Trucks that may go. -/
def bx7 (t:List ea7):Int:=(t.map ea7.load).sum
theorem bu7 (t:List ea7) (s:ea7):bx7 (t++[s])=bx7 t+s.load:=by
 unfold bx7;rw[List.map_append,List.sum_append];simp
structure hub7 (x:ba7) (t:List ea7):Prop where
 pos:0<t.length
 ok:∀o∈t,qe7 x o
 nodup:(t.map ea7.sat).Nodup
 room:bx7 t≤x.troom
theorem bn7 (l:List (List ea7)) (t:List ea7) (s:ea7):ub7 (l++[t]) s=l++[t++[s]]:=by
 unfold ub7
 rw[List.length_append,List.length_singleton,Nat.add_sub_cancel,List.getD_eq_getElem?_getD,List.getElem?_append_right (Nat.le_refl _),Nat.sub_self,List.set_append_right _ _ (Nat.le_refl _),Nat.sub_self];rfl
theorem rs7 (l:List (List ea7)) (t:List ea7):lastT (l++[t])=t:=by
 unfold lastT
 rw[List.length_append,List.length_singleton,Nat.add_sub_cancel,List.getD_eq_getElem?_getD,List.getElem?_append_right (Nat.le_refl _),Nat.sub_self];rfl
theorem nw7 {α:Type}{l:List α}(h:0<l.length):∃l' a,l=l'++[a]:=⟨l.dropLast,l.getLast (List.ne_nil_of_length_pos h),(List.dropLast_concat_getLast _).symm⟩
structure Fit (x:ba7) (D:Nat→Prop) (dr:List Int) (out:List (List ea7)) (left:Int):Prop where
 drop:out.foldl bi7 (mf7 x.sats.length)=dr
 many:(out.length:Int)≤x.tmany
 leftB:0≤left∧left<x.troom
 sum:dr.sum=x.troom*(out.length:Int)-left
 cnt:(((out.map List.length).sum:Nat):Int)≤dr.sum
 trucks:∀t∈out,hub7 x t
 last:0<left→0<out.length∧bx7 (lastT out)=x.troom-left
 sats:∀t∈out,∀o∈t,D o.sat.toNat
theorem Fit.len {x:ba7}{D:Nat→Prop}{dr:List Int}{out:List (List ea7)}{left:Int}(h:Fit x D dr out left):dr.length=x.sats.length:=by
 rw[← h.drop,jl7];simp[mf7]
theorem Fit.nil {x:ba7}{D:Nat→Prop}(hr:1≤x.troom) (hm:0≤x.tmany):Fit x D (mf7 x.sats.length) [] 0 :=
 ⟨rfl,hm,by omega,by simp[mf7],by simp[mf7],(fun _ h=>by cases h),fun h=>absurd h (by decide),fun _ h=>by cases h⟩
theorem Fit.imp {x:ba7}{D D':Nat→Prop}{dr:List Int}{out:List (List ea7)}{left:Int}(h:Fit x D dr out left) (hd:∀s,D s→D' s):Fit x D' dr out left :=
 ⟨h.drop,h.many,h.leftB,h.sum,h.cnt,h.trucks,h.last,fun t ht o ho=>hd _ (h.sats t ht o ho)⟩
theorem Fit.stop {x:ba7}{D:Nat→Prop}{dr:List Int}{out:List (List ea7)}{left k:Int}{s:Nat}(h:Fit x D dr out left) (hl:0<left) (hs:s<x.sats.length) (hD:D s) (hns:∀o∈lastT out,o.sat≠s) (hk:1≤k∧k≤left) (hr:x.troom≤1000000000) :
  Fit x D (bump dr s k) (ub7 out ⟨s,k⟩) (left-k):=by
 obtain⟨h1,h2⟩:=h.last hl
 obtain⟨l,t,rfl⟩:=nw7 h1
 rw[rs7]at h2 hns
 have hb:=h.leftB
 have hsum:=h.sum
 have hcnt:=h.cnt
 have hsl:s<dr.length:=by rw[h.len];exact hs
 have ht:=h.trucks t (by simp)
 rw[bn7]
 refine⟨?_, ?_,by omega, ?_, ?_,fun t' ht'=>?_,fun _=>⟨by simp, ?_⟩,fun t' ht' o ho=>?_⟩
 ·have hd:=h.drop
  rw[List.foldl_append,List.foldl_cons,List.foldl_nil]at hd ⊢
  unfold bi7 at hd ⊢
  rw[List.foldl_append,hd];rfl
 ·have:=h.many;simp only[List.length_append,List.length_singleton]at this ⊢; exact this
 ·rw[qu7 hsl,hsum];simp only[List.length_append,List.length_singleton];omega
 ·rw[qu7 hsl]
  simp only[List.map_append,List.sum_append,List.map_cons,List.map_nil,List.sum_cons,List.sum_nil,List.length_append,List.length_singleton,Nat.add_zero]at hcnt ⊢
  push_cast at hcnt ⊢; omega
 ·rcases List.mem_append.1 ht' with ht' | ht'
  ·exact h.trucks t' (List.mem_append_left _ ht')
  ·obtain rfl:=List.mem_singleton.1 ht'
   refine⟨by simp,fun o ho=>?_, ?_,by rw[bu7];show _+k≤_;omega⟩
   ·rcases List.mem_append.1 ho with ho | ho
    ·exact ht.ok o ho
    ·obtain rfl:=List.mem_singleton.1 ho
     exact⟨⟨Int.natCast_nonneg _,by show ((s:Nat):Int)<_;omega⟩,by show 1≤k;omega,by show k≤_;omega⟩
   ·rw[List.map_append,List.nodup_append]
    refine⟨ht.nodup,by simp,fun a ha b hb e=>?_⟩
    obtain⟨o,ho,rfl⟩:=List.mem_map.1 ha
    simp only[List.map_cons,List.map_nil,List.mem_singleton]at hb
    exact hns o ho (e.trans hb)
 ·rw[rs7,bu7,h2];show _+k=_;omega
 ·rcases List.mem_append.1 ht' with ht' | ht'
  ·exact h.sats t' (List.mem_append_left _ ht') o ho
  ·obtain rfl:=List.mem_singleton.1 ht'
   rcases List.mem_append.1 ho with ho | ho
   ·exact h.sats t (by simp) o ho
   ·obtain rfl:=List.mem_singleton.1 ho
    show D ((s:Int)).toNat
    rw[Int.toNat_natCast];exact hD
theorem Fit.push {x:ba7}{D:Nat→Prop}{dr:List Int}{out:List (List ea7)}{k:Int}{s:Nat}(h:Fit x D dr out 0) (hm:(out.length:Int)≠x.tmany) (hs:s<x.sats.length) (hD:D s) (hk:1≤k∧k≤x.troom) (hr:x.troom≤1000000000) :
  Fit x D (bump dr s k) (ub7 (out++[[]]) ⟨s,k⟩) (x.troom-k):=by
 have hb:=h.leftB
 have hsum:=h.sum
 have hcnt:=h.cnt
 have hsl:s<dr.length:=by rw[h.len];exact hs
 have hmm:=h.many
 rw[bn7,List.nil_append]
 refine⟨?_, ?_,by omega, ?_, ?_,fun t' ht'=>?_,fun _=>⟨by simp, ?_⟩,fun t' ht' o ho=>?_⟩
 ·rw[List.foldl_append,h.drop];rfl
 ·simp only[List.length_append,List.length_singleton];push_cast;omega
 ·rw[qu7 hsl,hsum];simp only[List.length_append,List.length_singleton];push_cast;rw[Int.mul_add];omega
 ·rw[qu7 hsl]
  simp only[List.map_append,List.sum_append,List.map_cons,List.map_nil,List.sum_cons,List.sum_nil,List.length_singleton,Nat.add_zero]at hcnt ⊢
  push_cast at hcnt ⊢; omega
 ·rcases List.mem_append.1 ht' with ht' | ht'
  ·exact h.trucks t' ht'
  ·obtain rfl:=List.mem_singleton.1 ht'
   refine⟨by simp,fun o ho=>?_,by simp,by show (List.map ea7.load [⟨(s:Int),k⟩]).sum≤_;simp;omega⟩
   obtain rfl:=List.mem_singleton.1 ho
   exact⟨⟨Int.natCast_nonneg _,by show ((s:Nat):Int)<_;omega⟩,by show 1≤k;omega,by show k≤_;omega⟩
 ·rw[rs7];show (List.map ea7.load [⟨(s:Int),k⟩]).sum=_;simp;omega
 ·rcases List.mem_append.1 ht' with ht' | ht'
  ·exact h.sats t' ht' o ho
  ·obtain rfl:=List.mem_singleton.1 ht'
   obtain rfl:=List.mem_singleton.1 ho
   show D ((s:Int)).toNat
   rw[Int.toNat_natCast];exact hD
/-! The loads of a draft's bikes, all together. -/
end Go.Proofs.YtabadfkikdefeaaGreat

namespace Go.Proofs.YtabadfkikdefeaaGreat
open Go.RowKit
structure lp7 (x:vb7):Prop where
 fin:wf8 x.fin
 trucks:wf8 x.trucks
 troom:wf8 x.troom
 bikes:wf8 x.bikes
 broom:wf8 x.broom
 sats:∀s∈x.sats,wf8 s.room∧wf8 s.hold
 custs:∀c∈x.custs,wf8 c.load∧wf8 c.opn∧wf8 c.wide∧wf8 c.stay
theorem gvb7 {w:World}{F:Nat→Prop}{x:vb7}{cs:List Value}(h:mr7.rep w F x cs):lp7 x:=by
 obtain⟨_,_,_,_,rfl,h0,h1,h2,-,-⟩:=h
 obtain⟨_,_,_,_,-,-,-,-,-,-,hs⟩:=mz7 h1
 obtain⟨_,_,_,_,-,-,-,-,-,-,hc⟩:=oy7 h2
 exact⟨h0.1,h0.2.1,h0.2.2.1,h0.2.2.2.1,h0.2.2.2.2,hs,hc⟩
theorem obb7 (x:vb7):pe7 x=1∨pe7 x=9:=by unfold pe7;split <;> simp
theorem ry7 (l:List Int) (n i k0:Nat):∀m j:Nat,0≤(qg7 l n i k0 m).1.getD j 0∧(qg7 l n i k0 m).1.getD j 0≤29∧(i=j→(qg7 l n i k0 m).1.getD j 0=0)
 | 0,j=>by
  have:(List.replicate n (0:Int)).getD j 0=0:=by rw[List.getD_eq_getElem?_getD,List.getElem?_replicate];split <;> rfl
  show 0≤(List.replicate n (0:Int)).getD j 0∧(List.replicate n (0:Int)).getD j 0≤29∧(i=j→(List.replicate n (0:Int)).getD j 0=0)
  rw[this];simp
 | m+1,j=>by
  have ih:=ry7 l n i k0 m j
  simp only[qg7]
  split
  ·rename_i hc
   simp only[List.getD_eq_getElem?_getD,List.getElem?_set]at ih ⊢
   split
   ·rename_i e
    split
    ·simp only[Option.getD_some]
     refine⟨by omega,by omega,fun h=>absurd (h.trans e.symm) hc.1⟩
    ·simp
   ·exact ih
  ·exact ih
theorem ecb7 (l:List Int) (n:Nat):∀i j (h:j<(ws7 l n i).1.length),((ws7 l n i).1[j]).length=n∧∀k,0≤((ws7 l n i).1[j]).getD k 0∧((ws7 l n i).1[j]).getD k 0≤29∧(j=k→((ws7 l n i).1[j]).getD k 0=0)
 | 0,j,h=>by simp[ws7]at h
 | i+1,j,h=>by
  have hl:=rl7 l n i
  by_cases hj:j<i
  ·have e:(ws7 l n (i+1)).1[j]=(ws7 l n i).1[j]'(by omega):=by
    simp only[ws7];rw[List.getElem_append_left (by omega)]
   rw[e];exact ecb7 l n i j _
  ·have hji:j=i:=by rw[rl7]at h;omega
   subst hji
   have e:(ws7 l n (j+1)).1[j]=(qg7 l n j (ws7 l n j).2 n).1:=by
    simp only[ws7];rw[List.getElem_append_right (by omega)];simp[hl]
   rw[e]
   exact⟨ifb7 _ _ _ _ _,fun k=>ry7 l n j _ n k⟩
theorem bm7 (l:List Int) (n:Nat):wg7 (he7 l n) (n:Int)=true∧nmb7 (he7 l n) (he7 l n).length=true:=by
 have hl:(he7 l n).length=n:=by unfold he7;exact rl7 l n n
 refine⟨?_, ?_⟩
 ·simp only[wg7,Bool.and_eq_true,beq_iff_eq,Bool.not_eq_true',List.any_eq_false,bne_iff_ne,ne_eq,Decidable.not_not]
  refine⟨by rw[hl],fun r hr=>?_⟩
  obtain⟨j,hj,rfl⟩:=List.getElem_of_mem hr
  rw[show ((he7 l n)[j]).length=n from (ecb7 l n n j hj).1]
 ·simp only[nmb7,List.all_eq_true,List.mem_range]
  intro i hi
  rw[List.getD_eq_getElem?_getD,List.getElem?_eq_getElem hi]
  simp only[etb7,Option.getD_some,List.all_eq_true,List.mem_range]
  intro k _
  have h:=(ecb7 l n n i hi).2 k
  simp only[bmb7,nm7,Bool.and_eq_true,decide_eq_true_eq,Bool.or_eq_true,bne_iff_ne,ne_eq,beq_iff_eq]
  refine⟨⟨h.1,by have:=h.2.1;show ((ws7 l n n).1[i]).getD k 0≤_;omega⟩, ?_⟩
  by_cases e:i=k
  ·exact .inr (h.2.2 e)
  ·left;omega
theorem bac7 {x:vb7}(h:lp7 x):∀s∈de7 x,(0≤s.room∧s.room≤1000)∧0≤s.hold∧s.hold≤1000:=by
 intro s hs
 have hw:=obb7 x
 unfold de7 at hs
 split at hs
 ·simp at hs;subst hs;simp
 ·unfold ae7 at hs
  obtain⟨t,ht,rfl⟩:=List.mem_map.1 hs
  have:=h.sats t (List.mem_of_mem_take (List.mem_of_mem_take ht))
  unfold wf8 at this
  unfold wqb7
  rcases hw with e | e <;> rw[e] <;> simp only[] <;> omega
theorem yjb7 {x:vb7}(h:lp7 x):∀c∈yd7 x,(1≤c.load∧c.load≤1000)∧(0≤c.opn∧c.opn≤1000)∧(c.opn≤c.cls∧c.cls≤10000)∧0≤c.stay∧c.stay≤1000:=by
 intro s hs
 have hw:=obb7 x
 unfold yd7 at hs
 split at hs
 ·simp at hs;subst hs;simp
 ·unfold fc7 at hs
  obtain⟨t,ht,rfl⟩:=List.mem_map.1 hs
  have:=h.custs t (List.mem_of_mem_take (List.mem_of_mem_take ht))
  unfold wf8 at this
  unfold pdb7 vdb7
  rcases hw with e | e <;> rw[e] <;> simp only[] <;> split <;> omega
theorem wr7 {n l:Int}(h:l≤n) (h2:n≤1000000000):nm7 n l=true:=by simp[nm7,h,h2]
theorem ls7 {x:vb7}(h:lp7 x):check (dh7 x)=0:=by
 have hw:=obb7 x
 have h0:=h.fin
 have h1:=h.trucks
 have h2:=h.troom
 have h3:=h.bikes
 have h4:=h.broom
 unfold wf8 at h0 h1 h2 h3 h4
 have hs:=go7 x
 have hc:=ol7 x
 have hcount:countB (dh7 x)=true:=by
  show (manyB (1+x.trucks % 4) 60&&manyB (1+x.bikes % 6) 60&&manyB (de7 x).length 12&&manyB (yd7 x).length 48)=true
  simp only[manyB,Bool.and_eq_true,decide_eq_true_eq];omega
 have hsize:igb7 (dh7 x)=true:=by
  have e:nodes (dh7 x)=gg7 x:=rfl
  simp only[igb7,e,Bool.and_eq_true]
  exact⟨(bm7 _ _).1,(bm7 _ _).1⟩
 have hnum:xj7 (dh7 x)=true:=by
  simp only[xj7,xl7,Bool.and_eq_true,List.all_eq_true]
  refine⟨⟨⟨⟨⟨⟨?_, ?_⟩, ?_⟩,fun s hs=>?_⟩,fun c hc=>?_⟩,(bm7 _ _).2⟩,(bm7 _ _).2⟩
  ·refine wr7 ?_ ?_ <;> simp only[dh7] <;> rcases hw with e | e <;> rw[e] <;> omega
  ·refine wr7 ?_ ?_ <;> simp only[dh7] <;> rcases hw with e | e <;> rw[e] <;> omega
  ·refine wr7 ?_ ?_ <;> simp only[dh7] <;> rcases hw with e | e <;> rw[e] <;> omega
  ·have:=bac7 h s hs
   simp only[kbc7,Bool.and_eq_true];exact⟨wr7 (by omega) (by omega),wr7 (by omega) (by omega)⟩
  ·have:=yjb7 h c hc
   simp only[tkb7,Bool.and_eq_true];exact⟨⟨⟨wr7 (by omega) (by omega),wr7 (by omega) (by omega)⟩,wr7 (by omega) (by omega)⟩,wr7 (by omega) (by omega)⟩
 unfold check
 rw[hcount,hsize,hnum];rfl
theorem asb7 {x:vb7}(h:lp7 x):aq7 (dh7 x):=by
 have g:=vf7 (ls7 h)
 have hn:=qz7 x
 have e:nodes (dh7 x)=gg7 x:=rfl
 refine⟨?_,fun s hs=>?_,fun c hc=>?_,fun r hr=>?_,fun r hr=>?_⟩
 ·have h1:=g.fin;have h2:=g.tmany;have h3:=g.troom;have h4:=g.bmany;have h5:=g.broom
  unfold pa7;omega
 ·have:=g.sat s hs;unfold pa7;omega
 ·have:=g.cust c hc;unfold pa7;omega
 ·exact⟨by rw[g.costR r hr];unfold maxLen;omega,fun v hv=>by have:=g.cost r hr v hv;unfold pa7;omega⟩
 ·exact⟨by rw[g.timeR r hr];unfold maxLen;omega,fun v hv=>by have:=g.time r hr v hv;unfold pa7;omega⟩
end Go.Proofs.YtabadfkikdefeaaGreat


namespace Go.Proofs.YtabadfkikdefeaaGreat
open Go.RowKit
theorem tlb7 {x:vb7}(h:lp7 x):1≤(dh7 x).troom:=by
 have:=h.troom
 have hw:=obb7 x
 unfold wf8 at this
 show 1≤5+pe7 x*(x.troom % 40)
 rcases hw with e | e <;> rw[e] <;> omega
structure fab7 (p:sa7):Prop where
 tl:p.trucks.length≤100000
 bl:p.bikes.length≤100
 ts:∀t∈p.trucks,t.length≤100000∧∀s∈t,(-1000000000≤s.sat∧s.sat≤1000000000) ∧ -1000000000≤s.load∧s.load≤1000000000
 bs:∀b∈p.bikes,(-1000000000≤b.sat∧b.sat≤1000000000)∧b.stops.length≤100∧∀c∈b.stops,-1000000000≤c∧c≤1000000000
theorem kob7 {many room:Int}{q:Bool}{s:Nat}(hr:1≤room) (hs:s≤1000):∀(f:Nat) (n:Int) (cnt:Nat) (out:List (List ea7)) (left:Int),ce7 room cnt out left→ce7 room (cnt+n.toNat) (ccb7 many room q s f n (out,left)).1 (ccb7 many room q s f n (out,left)).2
 | 0,n,cnt,out,left,h=>⟨h.leftB,by have:=h.lenB;show out.length≤_;omega,h.someB,fun t ht=>by have:=h.stB t ht;exact⟨by omega,fun u hu=>by have:=this.2 u hu;omega⟩⟩
 | f+1,n,cnt,out,left,h=>by
  by_cases hn:n≤0
  ·rw[beb7 hn]
   exact⟨h.leftB,by have:=h.lenB;show out.length≤_;omega,h.someB,fun t ht=>by have:=h.stB t ht;exact⟨by omega,fun u hu=>by have:=this.2 u hu;omega⟩⟩
  ·obtain⟨o,l,hrd,h1,h2,h3,h4,h5⟩:=h.readyQ (many:=many) (q:=q) hr
   have hb:=ce7.batch (room:=room) (l:=l) (much:=min n l) (s:=s) ⟨h1,h2⟩ ⟨h3,h4⟩ h5 (by omega) hs
   have ih:=kob7 (many:=many) (q:=q) hr hs f (n-min n l) _ _ _ hb
   have e:ccb7 many room q s (f+1) n (out,left)=ccb7 many room q s f (n-min n l) (ub7 o ⟨s,min n l⟩,l-min n l):=by
    show (if n≤0 then _ else _)=_
    rw[if_neg hn,hrd]
   rw[e]
   have ec:cnt+(min n l).toNat+(n-min n l).toNat=cnt+n.toNat:=by omega
   rw[ec]at ih
   exact ih
theorem enb7 {x:ba7}{w:hf7}{lo:List Int}(hr:1≤x.troom) (hl:∀s,0≤lo.getD s 0∧lo.getD s 0≤6000):∀s,s≤1000→ce7 x.troom (6000*s) (dUp x w lo s).1 (dUp x w lo s).2
 | 0,_=>ce7.nil (by omega)
 | s+1,hs=>by
  have ih:=enb7 (w:=w) hr hl s (by omega)
  have h:=kob7 (many:=x.tmany) (q:=vsb7 w s) (s:=s) hr (by omega) (lo.getD s 0).toNat (lo.getD s 0) (6000*s) (dUp x w lo s).1 (dUp x w lo s).2 ih
  have:=hl s
  refine⟨h.leftB, ?_,h.someB,fun t ht=>?_⟩
  ·have hL:(ccb7 x.tmany x.troom (vsb7 w s) s (lo.getD s 0).toNat (lo.getD s 0) (dUp x w lo s)).1.length≤6000*s+(lo.getD s 0).toNat:=h.lenB
   show (ccb7 x.tmany x.troom (vsb7 w s) s (lo.getD s 0).toNat (lo.getD s 0) (dUp x w lo s)).1.length≤6000*(s+1)
   omega
  ·have:=h.stB t ht;exact⟨by omega,fun u hu=>by have:=this.2 u hu;omega⟩
theorem yh7 {x:ba7}(w:hf7) (hns:1≤x.sats.length∧x.sats.length≤3) (hnc:1≤x.custs.length∧x.custs.length≤6) (hcl:∀c∈x.custs,1≤c.load∧c.load≤1000) (htr:1≤x.troom):fab7 (sf7 x w):=by
 have hol:(af7 x w).length=x.custs.length:=lg7 _ _
 have hk:=aj7 (x:=x) w (os:=af7 x w) (fun c hc=>by have:=hcl c hc;omega) (by omega) (cj7 _ _) (af7 x w).length (Nat.le_refl _)
 have hlv:∀s,0≤(nb7 x w).1.getD s 0∧(nb7 x w).1.getD s 0≤6000:=fun s=>by
  rw[List.getD_eq_getElem?_getD]
  by_cases hs:s<(nb7 x w).1.length
  ·rw[List.getElem?_eq_getElem hs]
   have:=hk.loB _ (List.getElem_mem hs)
   exact⟨this.1,Int.le_trans this.2 (by rw[hol];omega)⟩
  ·rw[List.getElem?_eq_none (by omega)];simp
 have hd:=enb7 (x:=x) (w:=w) htr hlv (nb7 x w).1.length (by unfold nb7;rw[hk.loL];omega)
 have hll:(nb7 x w).1.length≤3:=by unfold nb7;rw[hk.loL];omega
 refine⟨?_, ?_,fun t ht=>?_,fun b hb=>?_⟩
 ·have:=hd.lenB;show (dUp x w (nb7 x w).1 (nb7 x w).1.length).1.length≤_;omega
 ·have:=hk.bsL;show (nb7 x w).2.length≤_;unfold nb7;omega
 ·have:=hd.stB t ht;exact⟨by omega,fun u hu=>by have:=this.2 u hu;omega⟩
 ·have:=hk.bsB b hb;exact⟨by omega,by omega,fun c hc=>by have:=this.2.2 c hc;omega⟩
theorem ov7 {p:sa7}(h:fab7 p) (what at_:Nat) {by_:Int}(hby:-128≤by_∧by_≤127):(ib7 p what at_ by_).bikes.length≤200∧∀b∈(ib7 p what at_ by_).bikes,pa7 b.sat∧b.stops.length≤200∧∀c∈b.stops,pa7 c:=by
 have hbl:=h.bl
 have base:p.bikes.length≤200∧∀b∈p.bikes,pa7 b.sat∧b.stops.length≤200∧∀c∈b.stops,pa7 c:=⟨by omega,fun b hb=>by
  have h1:=h.bs b hb
  exact⟨by unfold pa7;omega,by omega,fun c hc=>by have:=h1.2.2 c hc;unfold pa7;omega⟩⟩
 have hget:∀B,(-1000000000≤(p.bikes.getD B ⟨0,[]⟩).sat∧(p.bikes.getD B ⟨0,[]⟩).sat≤1000000000)∧(p.bikes.getD B ⟨0,[]⟩).stops.length≤100∧∀c∈(p.bikes.getD B ⟨0,[]⟩).stops,-1000000000≤c∧c≤1000000000:=fun B=>by
  rw[List.getD_eq_getElem?_getD]
  by_cases hB:B<p.bikes.length
  ·rw[List.getElem?_eq_getElem hB];exact h.bs _ (List.getElem_mem hB)
  ·rw[List.getElem?_eq_none (by omega)];exact⟨by simp,by simp,fun c hc=>by cases hc⟩
 have hset:∀(B:Nat) (b:ra7),(pa7 b.sat∧b.stops.length≤200∧∀c∈b.stops,pa7 c)→(p.bikes.set B b).length≤200∧∀b'∈p.bikes.set B b,pa7 b'.sat∧b'.stops.length≤200∧∀c∈b'.stops,pa7 c:=fun B b hb=>by
  refine⟨by rw[List.length_set];omega,fun b' hb'=>?_⟩
  rcases List.mem_or_eq_of_mem_set hb' with h' | rfl
  ·exact base.2 b' h'
  ·exact hb
 unfold ib7
 split
 ·exact base
 ·show (fdb7 p _ _ _ (at_:Int) by_).length≤200∧∀b∈fdb7 p _ _ _ (at_:Int) by_,pa7 b.sat∧b.stops.length≤200∧∀c∈b.stops,pa7 c
  generalize at_ % p.bikes.length=B
  have hg:=hget B
  have hgI:∀(l:List Int),(∀c∈l,-1000000000≤c∧c≤1000000000)→∀I,-1000000000≤l.getD I 0∧l.getD I 0≤1000000000:=fun l hl I=>by
   rw[List.getD_eq_getElem?_getD]
   by_cases hI:I<l.length
   ·rw[List.getElem?_eq_getElem hI];exact hl _ (List.getElem_mem hI)
   ·rw[List.getElem?_eq_none (by omega)];simp
  generalize (at_ / 3) % _=I
  have hI:=hgI _ hg.2.2 I
  unfold fdb7
  generalize p.bikes.getD B ⟨0,[]⟩=bk at *
  have hsw:pa7 bk.sat:=by unfold pa7;omega
  have hcw:∀c∈bk.stops,pa7 c:=fun c hc=>by have:=hg.2.2 c hc;unfold pa7;omega
  split
  ·exact hset _ _ ⟨hsw,by have:=List.length_eraseIdx_le bk.stops I;show (bk.stops.eraseIdx I).length≤200;omega,fun c hc=>hcw c (List.mem_of_mem_eraseIdx hc)⟩
  ·exact hset _ _ ⟨hsw,by show (bk.stops++[_]).length≤200;rw[List.length_append,List.length_singleton];omega,fun c hc=>by
    rcases List.mem_append.1 hc with hc | hc
    ·exact hcw c hc
    ·obtain rfl:=List.mem_singleton.1 hc;unfold pa7;omega⟩
  ·exact hset _ _ ⟨hsw,by show (bk.stops.set I _).length≤200;rw[List.length_set];omega,fun c hc=>by
    rcases List.mem_or_eq_of_mem_set hc with hc | rfl
    ·exact hcw c hc
    ·unfold pa7;omega⟩
  ·exact hset _ _ ⟨by show pa7 (bk.sat+by_);unfold pa7;omega,by show bk.stops.length≤200;omega,hcw⟩
  ·refine⟨by rw[List.length_append,List.length_singleton];omega,fun b hb=>?_⟩
   rcases List.mem_append.1 hb with hb | hb
   ·exact base.2 b hb
   ·obtain rfl:=List.mem_singleton.1 hb
    exact⟨by show pa7 by_;unfold pa7;omega,by simp,fun c hc=>by cases hc⟩
  ·exact base
theorem cs7 {l:List ra7}{m:Nat}(h:∀b∈l,b.stops.length≤m):∀k,k≤l.length→mb7 l k≤m*k
 | 0,_=>by unfold mb7;simp
 | k+1,hk=>by
  have ih:=cs7 h k (by omega)
  have:=h _ (List.getElem_mem (show k<l.length by omega))
  rw[od7 (show k<l.length by omega),Nat.mul_add,Nat.mul_one]
  omega
end Go.Proofs.YtabadfkikdefeaaGreat
