/- Texts of the proof, joined: Bad, Light, Feas, CanD, TimesOwn, More, Open, Open2, Law, Spoilt0, Bytes, Line, Parse2, Bld, ReadF. -/
import Derived.Deep.DeepCutAuto
import Derived.Test.YtedahhjopmkbbaaGreatProg
import Derived.Deep.Slices
import Derived.OpenShut
import Derived.Test.YtedahhjopmkbbaaGreatRows
import Derived.ProofKit
import Derived.Deep.CutBlock
import Derived.BigRegion
import Derived.Deep.AppendSrc
import Derived.Laws.IdiomStrings
import Derived.Lib.UnsafeStr
import Derived.Laws.RangeAny
import Derived.Laws.RangeString
import Derived.Lib.Builder
import Derived.Laws.Externs
import Derived.Test.YtedahhjopmkbbaaGreatEarly
set_option linter.all false
set_option maxRecDepth 100000
set_option maxHeartbeats 6400000
namespace Go.Proofs.YtedahhjopmkbbaaGreat
open Go.RowKit
structure M0 (w0:World) (qi qp qr:Nat) (ic pc:List Value) (w:World):Prop where
 inst:Row w qi 81 ic
 plan:Row w qp 41 pc
 res:Row w qr 47 [.slice none 0 0,.slice none 0 0,.slice none 0 0,.slice none 0 0,.int .i64 0]
 bel:Below w0.heap.size w0 w
 resB:w0.heap.size≤qr
theorem M0.below {w0 w w':World}{qi qp qr:Nat}{ic pc:List Value}(h:M0 w0 qi qp qr ic pc w) (hb:Below w.heap.size w w'):M0 w0 qi qp qr ic pc w' :=
 ⟨h.inst.below hb,h.plan.below hb,h.res.below hb,pa7 h.bel hb,h.resB⟩
theorem M0.start (w:World) (ic pc:List Value):M0 w w.heap.size (w.heap.size+1) (w.heap.size+1+1) ic pc
  (((w.alloc (.cells ic.toArray 81)).alloc (.cells pc.toArray 41)).alloc (.cells #[.slice none 0 0,.slice none 0 0,.slice none 0 0,.slice none 0 0,.int .i64 0] 47)):=by
 have h0:=FSt.start w 81 41 ic pc
 have h3:=Row.new (w:=(w.alloc (.cells ic.toArray 81)).alloc (.cells pc.toArray 41)) (e:=47) (cs:=[.slice none 0 0,.slice none 0 0,.slice none 0 0,.slice none 0 0,.int .i64 0]) rfl
 rw[show ((w.alloc (.cells ic.toArray 81)).alloc (.cells pc.toArray 41)).heap.size=w.heap.size+1+1 by simp]at h3
 have hb:Below _ _ (((w.alloc (.cells ic.toArray 81)).alloc (.cells pc.toArray 41)).alloc (.cells #[.slice none 0 0,.slice none 0 0,.slice none 0 0,.slice none 0 0,.int .i64 0] 47)):=(Below.refl _ _).alloc (Nat.le_refl _) _
 have h1:=h0.below hb
 exact⟨h1.one,h1.two,h3,h1.bel,by omega⟩
end Go.Proofs.YtedahhjopmkbbaaGreat


namespace Go.Proofs.YtedahhjopmkbbaaGreat
open Go.RowKit
theorem mg7 {α:Type}{l:List α}{k:Nat}(h:k<l.length) (z:α):l.getD k z∈l:=by
 rw[List.getD_eq_getElem?_getD,List.getElem?_eq_getElem h];exact List.getElem_mem h
structure zy7 (TR TI:Nat) (w:World) (B:Nat) (v:Value) (out:List (List Int)) (vs:List Value):Prop where
 own:w.ownsRow B TR 1 v out.length vs
 len:vs.length=out.length
 rows:∀i (h:i<out.length) (h':i<vs.length),w.ownsRow B TI 1 vs[i] out[i].length (out[i].map jc7)
section
variable {TR TI:Nat} {w w':World} {B:Nat} {v v' u:Value} {out:List (List Int)} {vs:List Value}
theorem zy7.nil (TR TI:Nat) (w:World) (B:Nat):zy7 TR TI w B (.slice none 0 0) [] [] :=
 ⟨World.ownsRow_nil _ _ _ _,rfl,fun _ h=>absurd h (Nat.not_lt_zero _)⟩
theorem zy7.below (h:zy7 TR TI w B v out vs) (hb:Below w.heap.size w w'):zy7 TR TI w' B v out vs :=
 ⟨rb7 h.own hb,h.len,fun i h1 h2=>rb7 (h.rows i h1 h2) hb⟩
theorem zy7.blockLt (h:zy7 TR TI w B v out vs):∀i (hi:i<vs.length) b,vs[i].ownBlock=some b→B≤b∧b<w.heap.size:=fun i hi b hb =>
 (h.rows i (by rw[← h.len];exact hi) hi).lt b hb
theorem zy7.keptSet {TP p j:Nat}{cs:List Value}(h:zy7 TR TI w B v out vs) (hr:Row w p TP cs) (h1:TP≠TR) (h2:TP≠TI):zy7 TR TI (w.setCell ⟨p,j,none⟩ u) B v out vs :=
 ⟨md7 h.own hr h1 j u,h.len,fun i k1 k2=>md7 (h.rows i k1 k2) hr h2 j u⟩
theorem zy7.mono {B':Nat}(h:zy7 TR TI w B v out vs) (hb:B'≤B):zy7 TR TI w B' v out vs :=
 ⟨wf7 h.own hb,h.len,fun i h1 h2=>wf7 (h.rows i h1 h2) hb⟩
theorem zy7.keptOwn {T k n B':Nat}{x:Value}{xs:List Value}(h:zy7 TR TI w B v out vs) (ho:w.ownsRow B' T k x n xs) (hg:w.grownBy w' x.ownBlock) (h1:TR≠T) (h2:TI≠T):zy7 TR TI w' B v out vs :=
 ⟨h.own.kept hg (xa7 h.own ho h1),h.len,fun i k1 k2=>(h.rows i k1 k2).kept hg (xa7 (h.rows i k1 k2) ho h2)⟩
theorem zy7.push {t:List Int}(h:zy7 TR TI w B v out vs) (hne:TI≠TR) (hg:w.grownBy w' v.ownBlock) (ho:w'.ownsRow B TR 1 v' (out.length+1) (vs++[u])) (hu:w.ownsRow B TI 1 u t.length (t.map jc7)):zy7 TR TI w' B v' (out++[t]) (vs++[u]):=by
 refine⟨by rw[List.length_append];exact ho,by simp[h.len],fun i h1 h2=>?_⟩
 by_cases hl:i<out.length
 ·have hl':i<vs.length:=by rw[h.len];exact hl
  rw[List.getElem_append_left hl',List.getElem_append_left hl]
  exact (h.rows i hl hl').kept hg (xa7 (h.rows i hl hl') h.own hne)
 ·have:i=out.length:=by simp at h1;omega
  subst this
  have e1:(vs++[u])[out.length]'h2=u:=by rw[List.getElem_append_right (by rw[h.len];exact Nat.le_refl _)];simp[h.len]
  have e2:(out++[t])[out.length]'h1=t:=by rw[List.getElem_append_right (Nat.le_refl _)];simp
  rw[e1,e2]
  exact hu.kept hg (xa7 hu h.own hne)
theorem zy7.rep (h:zy7 TR TI w B v out vs) (hw:∀t∈out,∀s∈t,oa7 s):tt7.rep w (fun b=>B≤b) out [v]:=by
 have hr:∀i (h1:i<out.length) (h2:i<vs.length),(ia7 om7).rep w (fun b=>B≤b) out[i] [vs[i]]:=fun i h1 h2=>zu7 (h.rows i h1 h2) (hw _ (List.getElem_mem h1))
 rcases h.own.2 with ⟨rfl,hn⟩ | ⟨g,cap,cur,rfl,hg,hh,hn1,hc,hsz,ht⟩
 ·have:out=[]:=List.eq_nil_of_length_eq_zero hn
  subst this
  exact ndb7 _ _ _
 ·have hR:Row w g TR vs:=⟨cur,cur.toList.drop (out.length*1),hh,by rw[← ht,List.take_append_drop]⟩
  refine deb7 (S:=ia7 om7) (T:=TR) (vs.map fun v=>[v]) (by simp[h.len]) (fun v hv=>by obtain⟨u,_,rfl⟩:=List.mem_map.1 hv;rfl) (fun i h1 h2=>?_) ?_ hn1 hc hg
  ·rw[List.getElem_map];exact hr i h1 _
  ·have:(vs.map fun v=>[v]).flatten=vs:=by
    clear hR ht hr h
    induction vs with
    | nil=>rfl
    | cons a l ih=>rw[List.map_cons,List.flatten_cons,ih];rfl
   rw[this];exact hR
end
theorem leb7.blockLt {TR TI:Nat}{w:World}{B:Nat}{v:Value}{out:List ka7}{vs:List Value}(h:leb7 TR TI w B v out vs):∀i (hi:i<vs.length) b,vs[i].ownBlock=some b→B≤b∧b<w.heap.size:=fun i hi b hb =>
 (h.rows i (by rw[← h.len];exact hi) hi).lt b hb
theorem leb7.mono {TR TI:Nat}{w:World}{B B':Nat}{v:Value}{out:List ka7}{vs:List Value}(h:leb7 TR TI w B v out vs) (hb:B'≤B):leb7 TR TI w B' v out vs :=
 ⟨wf7 h.own hb,h.len,fun i h1 h2=>wf7 (h.rows i h1 h2) hb⟩
def Sep (vs:List Value):Prop:=vs.Pairwise fun a b=>a.ownBlock=none∨a.ownBlock≠b.ownBlock
theorem Sep.nil:Sep []:=List.Pairwise.nil
theorem Sep.push {vs:List Value}{u:Value}{n:Nat}(h:Sep vs) (hv:∀a∈vs,∀b,a.ownBlock=some b→b<n) (hu:∀b,u.ownBlock=some b→n≤b):Sep (vs++[u]):=by
 refine List.pairwise_append.2 ⟨h,List.pairwise_singleton _ _,fun a ha b hb=>?_⟩
 obtain rfl:=List.mem_singleton.1 hb
 cases e:a.ownBlock with
 | none=>exact .inl rfl
 | some k=>exact .inr fun e'=>by have:=hv a ha k e;have:=hu k e'.symm;omega
structure mab7 (x:ca7) (p:ua7):Prop where
 good:Good x
 tl:p.trucks.length≤100000
 t1:∀t∈p.trucks,t.length≤100000∧∀s∈t,0≤s.sat∧s.sat<x.sats.length
 bl:p.bikes.length≤100000
 b1:∀b∈p.bikes,b.stops.length≤100000∧(0≤b.sat∧b.sat<x.sats.length)∧∀c∈b.stops,je7 x c
structure fdc7 (x:ca7) (st:SnT):Prop where
 now:0≤st.now∧st.now≤st.l.length*1000000000
 node:0≤st.node∧st.node<nodes x
 len:st.ready.length=x.sats.length
 rdy:∀v∈st.ready,0≤v∧v≤200000000000000
 l:∀v∈st.l,0≤v∧v≤st.l.length*1000000000
theorem fdc7.get {x:ca7}{st:SnT}(h:fdc7 x st) (i:Nat):0≤st.ready.getD i 0∧st.ready.getD i 0≤200000000000000:=by
 rw[List.getD_eq_getElem?_getD]
 by_cases e:i<st.ready.length
 ·rw[List.getElem?_eq_getElem e];exact h.rdy _ (List.getElem_mem e)
 ·rw[List.getElem?_eq_none (by omega)];simp
theorem fdc7.step {x:ca7}(gd:Good x) {st:SnT}{s:ba7}(h:fdc7 x st) (hl:st.l.length≤100000) (hs:0≤s.sat∧s.sat<x.sats.length):fdc7 x (xb7 x st s):=by
 have h1:=h.now
 have h2:=pe7 gd st.node (1+s.sat)
 have h3:=ax7 gd s.sat
 have h4:=h.get s.sat.toNat
 have hlen:(xb7 x st s).l.length=st.l.length+1:=by simp[xb7]
 refine⟨?_, ?_, ?_,fun v hv=>?_,fun v hv=>?_⟩
 ·rw[hlen];show 0≤st.now+_∧st.now+_≤_;push_cast;omega
 ·show 0≤1+s.sat∧1+s.sat<(nodes x:Int);unfold nodes;omega
 ·show (st.ready.set _ _).length=_;rw[List.length_set];exact h.len
 ·rcases List.mem_or_eq_of_mem_set hv with hv | rfl
  ·exact h.rdy _ hv
  ·omega
 ·rw[hlen]
  rcases List.mem_append.1 (show v∈st.l++[st.now+gb7 x st.node (1+s.sat)] from hv) with hv | hv
  ·have:=h.l v hv;push_cast;omega
  ·obtain rfl:=List.mem_singleton.1 hv
   push_cast;omega
theorem xo7 {x:ca7}(gd:Good x) {t:List ba7}{st:SnT}(h:fdc7 x st) (hl:st.l=[]) (ht:t.length≤100000∧∀s∈t,0≤s.sat∧s.sat<x.sats.length):∀j,j≤t.length→fdc7 x ((t.take j).foldl (xb7 x) st)∧((t.take j).foldl (xb7 x) st).l.length=j
 | 0,_=>⟨h,by simp[hl]⟩
 | j+1,hj=>by
  obtain⟨h1,h2⟩:=xo7 gd h hl ht j (by omega)
  rw[rv7 (show j<t.length by omega),List.foldl_append]
  exact⟨h1.step gd (by omega) (ht.2 _ (List.getElem_mem _)),by simp[xb7,h2]⟩
structure fsc7 (x:ca7) (a:SnA):Prop where
 len:a.ready.length=x.sats.length
 rdy:∀v∈a.ready,0≤v∧v≤200000000000000
 ts:∀l∈a.ts,∀v∈l,0≤v∧v≤200000000000000
theorem fsc7.start (x:ca7) (a:SnA) (h:fsc7 x a):fdc7 x ⟨0,0,a.ready,[]⟩ :=
 ⟨⟨Int.le_refl _,by simp⟩,⟨Int.le_refl _,by show (0:Int)<(nodes x:Int);unfold nodes;omega⟩,h.len,h.rdy,fun v hv=>by cases hv⟩
theorem lj7 {x:ca7}{p:ua7}(h:mab7 x p):∀k,k≤p.trucks.length→fsc7 x (sa7 x (p.trucks.take k))∧(sa7 x (p.trucks.take k)).ts.length=k
 | 0,_=>⟨⟨List.length_replicate,fun v hv=>by rw[List.eq_of_mem_replicate hv];omega,fun l hl=>by cases hl⟩,rfl⟩
 | k+1,hk=>by
  obtain⟨h1,h2⟩:=lj7 h k (by omega)
  have ht:=h.t1 _ (List.getElem_mem (show k<p.trucks.length by omega))
  obtain⟨g1,g2⟩:=xo7 h.good (h1.start x _) rfl ht _ (Nat.le_refl _)
  rw[List.take_length]at g1 g2
  have e:sa7 x (p.trucks.take (k+1))=ee7 x (sa7 x (p.trucks.take k)) p.trucks[k]:=by
   unfold sa7
   rw[rv7 (show k<p.trucks.length by omega),List.foldl_append];rfl
  rw[e]
  refine⟨⟨g1.len,g1.rdy,fun l hl v hv=>?_⟩,by simp[ee7,h2]⟩
  rcases List.mem_append.1 hl with hl | hl
  ·exact h1.ts l hl v hv
  ·obtain rfl:=List.mem_singleton.1 hl
   have:=g1.l v hv
   rw[g2]at this
   have:=ht.1
   omega
structure jic7 (x:ca7) (st:SnB):Prop where
 now:0≤st.now∧st.now≤300000000000000+st.starts.length*3000000000
 node:0≤st.node∧st.node<nodes x
 l:∀v∈st.starts,0≤v∧v≤300000000000000+st.starts.length*3000000000
theorem jic7.step {x:ca7}(gd:Good x) {st:SnB}{c:Int}(h:jic7 x st) (hl:st.starts.length≤100000) (hc:je7 x c):jic7 x (yb7 x st c):=by
 have h1:=h.now
 have h2:=pe7 gd st.node (1+x.sats.length+c)
 have h3:=qcb7 gd hc
 have hlen:(yb7 x st c).starts.length=st.starts.length+1:=by simp[yb7]
 refine⟨?_, ?_,fun v hv=>?_⟩
 ·rw[hlen];show 0≤max _ _+_∧max _ _+_≤_;push_cast;omega
 ·show 0≤1+(x.sats.length:Int)+c∧1+(x.sats.length:Int)+c<(nodes x:Int);unfold nodes je7 at *; omega
 ·rw[hlen]
  rcases List.mem_append.1 (show v∈st.starts++[max (st.now+gb7 x st.node (1+x.sats.length+c)) (fc7 x c).opn] from hv) with hv | hv
  ·have:=h.l v hv;push_cast;omega
  ·obtain rfl:=List.mem_singleton.1 hv
   push_cast;omega
theorem uo7 {x:ca7}(gd:Good x) {t:List Int}{st:SnB}(h:jic7 x st) (hl:st.starts=[]) (ht:t.length≤100000∧∀c∈t,je7 x c):∀j,j≤t.length→jic7 x ((t.take j).foldl (yb7 x) st)∧((t.take j).foldl (yb7 x) st).starts.length=j
 | 0,_=>⟨h,by simp[hl]⟩
 | j+1,hj=>by
  obtain⟨h1,h2⟩:=uo7 gd h hl ht j (by omega)
  rw[rv7 (show j<t.length by omega),List.foldl_append]
  exact⟨h1.step gd (by omega) (ht.2 _ (List.getElem_mem _)),by simp[yb7,h2]⟩
theorem mv7 {x:ca7}{ready:List Int}{b:ga7}(hl:ready.length=x.sats.length) (hr:∀v∈ready,0≤v∧v≤200000000000000) (hb:0≤b.sat∧b.sat<x.sats.length):jic7 x ⟨ready.getD b.sat.toNat 0,1+b.sat,[]⟩:=by
 have h1:b.sat.toNat<ready.length:=by omega
 have h2:=hr _ (mg7 h1 0)
 exact⟨by show 0≤ready.getD b.sat.toNat 0∧ready.getD b.sat.toNat 0≤_;omega,by show 0≤1+b.sat∧1+b.sat<(nodes x:Int);unfold nodes;omega,fun v hv=>by cases hv⟩
theorem fjc7 {x:ca7}{p:ua7}(h:mab7 x p):(∀t∈(fm7 x p).trucks,∀v∈t,0≤v∧v≤1000000000000000)∧∀r∈(fm7 x p).bikes,(0≤r.out∧r.out≤1000000000000000)∧(0≤r.back∧r.back≤1000000000000000)∧∀v∈r.starts,0≤v∧v≤1000000000000000:=by
 have hT:=(lj7 h p.trucks.length (Nat.le_refl _)).1
 rw[List.take_length]at hT
 refine⟨fun t ht v hv=>by have:=hT.ts t ht v hv;omega,fun r hr=>?_⟩
 obtain⟨b,hb,rfl⟩:=List.mem_map.1 (show r∈p.bikes.map (tg7 x (sa7 x p.trucks).ready) from hr)
 obtain⟨h1,h2,h3⟩:=h.b1 b hb
 have hs:=mv7 (b:=b) hT.len hT.rdy h2
 obtain⟨g1,g2⟩:=uo7 h.good hs rfl ⟨h1,h3⟩ _ (Nat.le_refl _)
 rw[List.take_length]at g1 g2
 have g3:=g1.now
 have g4:=hs.now
 have g5:=pe7 h.good (b.stops.foldl (yb7 x) ⟨(sa7 x p.trucks).ready.getD b.sat.toNat 0,1+b.sat,[]⟩).node (1+b.sat)
 rw[g2]at g3
 refine⟨?_, ?_,fun v hv=>?_⟩
 ·show 0≤(sa7 x p.trucks).ready.getD b.sat.toNat 0∧(sa7 x p.trucks).ready.getD b.sat.toNat 0≤_
  simp only[List.length_nil]at g4;omega
 ·show 0≤_+gb7 x _ _∧_+gb7 x _ _≤_
  unfold kd7;omega
 ·have:=g1.l v hv
  rw[g2]at this;omega
def az7 (l:List Int) (n:Int):Int:=if l.length=0 then 0 else l.getD (n.toNat % l.length) 0
theorem euc7:∀w,(sizeOf 49).run Tryz.prog w = .ok 1 w:=fun w=>by kernel_rfl
theorem coc7 {w:World}{gn gs b off c:Nat}{a:Option Addr}{x n:Int}{l:List Int}(R:Row w gn 3 [.int .i64 n]) (hs:w.cell? ⟨gs,0,none⟩=some (.slice a l.length c)) (hne:gs≠gn) (hbn:b≠gn) (ha:0<l.length→a=some ⟨b,off,none⟩)
  (hl:∀k (h:k<l.length),w.cell? ⟨b,off+k,none⟩=some (.int .i8 l[k]) ∧ -128≤l[k]∧l[k]≤127) (hn:0≤n∧n≤1000000000000) (hx:-10000000000000000≤x∧x≤10000000000000000) (hll:l.length≤9223372036854775807) :
  Calls Tryz.prog 52 #[.int .i64 x,.pointer (some ⟨gn,0,none⟩),.pointer (some ⟨gs,0,none⟩)] w fun e w'=>e = .returned (.int .i64 (x+az7 l n))∧Below (w.setCell ⟨gn,0,none⟩ (.int .i64 (n+1))).heap.size (w.setCell ⟨gn,0,none⟩ (.int .i64 (n+1))) w':=by
 have c0:=R.cell (j:=0) (by simp)
 have f0:=R.frozen 0
 simp only[List.getElem_cons_zero]at c0
 have R1:=R.set (j:=0) (by simp) (.int .i64 (n+1))
 have d0:=R1.cell (j:=0) (by simp)
 simp only[List.set_cons_zero,List.getElem_cons_zero]at d0
 have hs1:(w.setCell ⟨gn,0,none⟩ (.int .i64 (n+1))).cell? ⟨gs,0,none⟩=some (.slice a l.length c):=by
  rw[World.cell?_of_block (Below.heap_setCell _ _ _ _ hne)];exact hs
 have hl1:∀k (h:k<l.length),(w.setCell ⟨gn,0,none⟩ (.int .i64 (n+1))).cell? ⟨b,off+k,none⟩=some (.int .i8 l[k]):=fun k h=>by
  rw[World.cell?_of_block (Below.heap_setCell _ _ _ _ hbn)];exact (hl k h).1
 have HL:=hid hl
 have HA:=hid ha
 clear hl ha R R1 hs
 go_enter Tryz.func52,Tryz.ntmps52
 go_upto_region 2 with fail
 generalize hw1:w.setCell ⟨gn,0,none⟩ (.int .i64 (n+1))=w1 at d0 hs1 hl1 ⊢
 have HW:=hid hw1
 clear hw1
 clear c0 f0
 by_cases hz:l.length=0
 ·have HZ:=hid hz
  have hb:decide ((l.length:Int)=0)=true:=decide_eq_true (by omega)
  go_wp2
  go_ret
  exact⟨tj7 (by unfold az7;rw[if_pos HZ.out,Int.add_zero]),by rw[HW.out];exact Below.refl _ _⟩
 ·have hb:decide ((l.length:Int)=0)=false:=decide_eq_false (by omega)
  obtain⟨k,hk⟩:∃k,k=n.toNat % l.length:=⟨_,rfl⟩
  have hkl:k<l.length:=by rw[hk];exact Nat.mod_lt _ (by omega)
  have hrem:n % (l.length:Int)=(k:Int):=by
   obtain⟨m,rfl⟩:=Int.eq_ofNat_of_zero_le hn.1
   rw[hk];rfl
  have he:=HA.out (by omega)
  subst he
  have ia:∀w,(Instr.indexAt 29 (.slice (some ⟨b,off,none⟩) l.length c) (.int .i64 (n % (l.length:Int)))).run Tryz.prog w = .ok (.pointer (some ⟨b,off+k,none⟩)) w:=fun w=>by rw[hrem];exact nc7 (c:=c) Tryz.underlying29 euc7 (a:=some ⟨b,off,none⟩) rfl hkl w
  have hc:=hl1 k hkl
  have hbd:=(HL.out k hkl).2
  have HADD:=hid (show az7 l n=l[k] from by unfold az7;rw[if_neg hz,← hk,List.getD_eq_getElem?_getD,List.getElem?_eq_getElem hkl];rfl)
  generalize l[k]=q at hc hbd HADD
  clear hrem hk
  go_wp2_with fail
  have zd:∀e:At (Old w1),_:=fun e=>e.cell d0
  have zs:∀e:At (Old w1),_:=fun e=>e.cell hs1
  have zc:∀e:At (Old w1),_:=fun e=>e.cell hc
  refine qg7 (Old w1) [] [([0,1,2,3,4,5,6,7,8,9,10,11,12],13,false)] (by kernel_rfl) (by kernel_rfl) (fun _ _ d _ _ h=>by cases d <;> exact h) (Old.drew _) ?_
  simp only[kj7,List.map_cons,List.map_nil,Array.getD_eq_getD_getElem?,List.getElem?_toArray,List.getElem?_cons_succ,List.getElem?_cons_zero,Option.getD_some,dw7]
  repeat (go_big_quiet_step (fail))
  refine wpQuiet_nil ?_
  go_wp2_with fail
  refine⟨Old.drew _, ?_⟩
  go_wp2
  go_ret
  exact⟨tj7 (by rw[HADD.out]),by rw[HW.out];exact Old.drew _⟩
def lm7 {α:Type} (P:Program) (t:TypeId) (S:Shape α):Prop :=
 ∀(H:Type) (enc:TypeId×Value→H) (w:World) (base:Nat) (spare:Nat→Bool) (held:Bool) (fuel:Nat) (cs:List Value) (x:DataW H×List MemPlace),DataW.trod enc P w base spare held fuel t cs=some x→∃y,S.rep w (fun _=>True) y cs
theorem ncc7 {P:Program}{t:TypeId}(ht:P.underlying t=some (.int .u8)):lm7 P t u8S:=by
 intro H enc w base spare held fuel cs x h
 cases fuel with
 | zero=>simp[DataW.trod]at h
 | succ n =>
  unfold DataW.trod at h
  rw[ht]at h
  split at h <;> simp_all
  rename_i k2 m e
  obtain⟨⟨_,hw⟩,-⟩:=h
  subst e
  refine⟨m,rfl, ?_⟩
  simpa[Lit.wf,IntKind.min,IntKind.max,IntKind.signed,IntKind.bits,oa7]using hw
def uic7:Shape Bool:=nd7 1 (fun x cs=>cs=[.bool x]) (by rintro x cs rfl;rfl)
theorem npb7 {P:Program}{t:TypeId}(ht:P.underlying t=some .bool):lm7 P t uic7:=by
 intro H enc w base spare held fuel cs x h
 cases fuel with
 | zero=>simp[DataW.trod]at h
 | succ n =>
  unfold DataW.trod at h
  rw[ht]at h
  split at h
  all_goals first | exact⟨_,rfl⟩ | simp_all
theorem yxb7 {α:Type}{p:Nat→α→Prop}:∀(n:Nat),(∀i,i<n→∃x,p i x)→∃xs:List α,xs.length=n∧∀i (h:i<xs.length),p i xs[i]
 | 0,_=>⟨[],rfl,fun _ h=>absurd h (Nat.not_lt_zero _)⟩
 | n+1,h=>by
  obtain⟨xs,hl,hx⟩:=yxb7 n fun i hi=>h i (by omega)
  obtain⟨x,hp⟩:=h n (by omega)
  refine⟨xs++[x],by simp[hl],fun i hi=>?_⟩
  by_cases hlt:i<xs.length
  ·rw[List.getElem_append_left hlt];exact hx i hlt
  ·have:i=n:=by simp at hi;omega
   subst this
   rw[List.getElem_append_right (by omega)]
   simpa[hl]using hp
theorem avb7 {w:World}{a:Addr}{v:Value}(h:w.cell? a=some v):a.spot=none:=by
 unfold World.cell? at h
 split at h
 ·split at h
  ·cases h
  ·rename_i hs;simpa using hs
 ·cases h
theorem pl7 {α:Type}{P:Program}{t e:TypeId}{S:Shape α}{h0:0<S.sz}(ht:P.underlying t=some (.slice e)) (hc:P.cellsOf e=S.sz) (he:lm7 P e S):lm7 P t (ia7 S h0):=by
 intro H enc w base spare held fuel cs x h
 rcases Deep.open_slice ht h with ⟨rfl,-⟩ | ⟨a,len,cap,m,n,D,Pl,rfl,-,hl,hm,hmm,-,hx⟩
 ·exact⟨[],none,0,0,0,rfl,Nat.le_refl _,Nat.zero_le _,fun h=>absurd h (Nat.not_lt_zero _),fun i h=>absurd h (Nat.not_lt_zero _)⟩
 ·have hlm:len≤m:=by rw[hmm];split <;> omega
  obtain⟨xs,hxl,hxs⟩:=yxb7 (p:=fun i y=>∃es,S.rep w (fun _=>True) y es∧∀j,j<S.sz→w.cell? ((a.add (i*S.sz)).add j)=es[j]?) len (fun i hi=>by
   obtain⟨cs',h1,h2⟩:=hx i (by omega)
   obtain⟨y,hy⟩:=he _ _ _ _ _ _ _ _ _ h2
   rw[hc]at h1
   obtain⟨_,_,h3⟩:=World.cells?_some h1
   exact⟨y,cs',hy,h3⟩)
  obtain⟨b,off,spot⟩:=a
  subst hxl
  have hsp:0<xs.length→spot=none:=fun hpos=>by
   obtain⟨es,hr,hce⟩:=hxs 0 hpos
   have hle:=S.len hr
   have:=hce 0 h0
   rw[List.getElem?_eq_getElem (by omega),Nat.zero_mul]at this
   simpa[Addr.add]using avb7 this
  refine⟨xs,some ⟨b,off,spot⟩,b,off,cap,rfl,hl,hm,fun hpos=>⟨by rw[hsp hpos],trivial⟩,fun i hi=>?_⟩
  obtain rfl:=hsp (by omega)
  obtain⟨es,hr,hce⟩:=hxs i hi
  refine⟨es,hr,fun j hj=>?_⟩
  rw[← hce j hj]
  congr 1
  by_cases e1:i*S.sz=0 <;> by_cases e2:j=0 <;> simp[Addr.add,e1,e2]
theorem cd7 {P:Program}{t:TypeId}{fs:Array Field}{H:Type}{enc:TypeId×Value→H}{w:World}{base:Nat}{spare:Nat→Bool}{held:Bool}{fuel:Nat}{cs:List Value}{x:DataW H×List MemPlace}
  (ht:P.underlying t=some (.struct fs)) (h:DataW.trod enc P w base spare held fuel t cs=some x) (i ft o k:Nat) (hf:(fs[i]?).map (fun f=>(f.type,f.offset))=some (ft,o)) (hk:P.cellsOf ft=k) :
  ∃n y,DataW.trod enc P w base spare held n ft ((cs.drop o).take k)=some y:=by
 obtain⟨xs,n,-,-,-,hl,hx⟩:=DataW.trod_struct ht h
 obtain⟨f,hf1,hf2⟩:=Option.map_eq_some_iff.1 hf
 simp only[Prod.mk.injEq]at hf2
 obtain⟨rfl,rfl⟩:=hf2
 have h1:=hx i f hf1
 have hi:i<xs.length:=by
  rw[hl]
  exact (Array.getElem?_eq_some_iff.1 hf1).1
 rw[List.getElem?_eq_getElem hi,hk]at h1
 exact⟨n,_,h1⟩
theorem tp7 {P:Program}{t:TypeId}{fs:Array Field}{H:Type}{enc:TypeId×Value→H}{w:World}{base:Nat}{spare:Nat→Bool}{held:Bool}{fuel:Nat}{cs:List Value}{x:DataW H×List MemPlace}
  (ht:P.underlying t=some (.struct fs)) (h:DataW.trod enc P w base spare held fuel t cs=some x):cs.length=P.cellsOf t:=by
 obtain⟨xs,n,-,-,hl,-⟩:=DataW.trod_struct ht h
 exact hl
theorem ut7:Tryz.prog.cellsOf 5=1:=by kernel_rfl
theorem gub7:Tryz.prog.cellsOf 4=1:=by kernel_rfl
theorem bq7:lm7 Tryz.prog 5 u8S:=ncc7 Tryz.underlying5
theorem zub7:lm7 Tryz.prog 4 uic7:=npb7 Tryz.underlying4
theorem cq7:lm7 Tryz.prog 24 yc7:=pl7 (S:=u8S) Tryz.underlying24 ut7 bq7
theorem ojc7:lm7 Tryz.prog 121 ekb7:=by
 intro H enc w base spare held fuel cs x h
 have hl:cs.length=2:=(tp7 Tryz.underlying121 h).trans (by kernel_rfl)
 match cs,hl with
 | [v0,v1],_ =>
  obtain⟨n0,y0,f0⟩:=cd7 Tryz.underlying121 h 0 5 0 1 rfl ut7
  obtain⟨n1,y1,f1⟩:=cd7 Tryz.underlying121 h 1 5 1 1 rfl ut7
  obtain⟨a0,e0,w0⟩:=bq7 _ _ _ _ _ _ _ _ _ f0
  obtain⟨a1,e1,w1⟩:=bq7 _ _ _ _ _ _ _ _ _ f1
  simp at e0 e1
  subst e0;subst e1
  exact⟨⟨a0,a1⟩,rfl,w0,w1⟩
theorem bhc7:lm7 Tryz.prog 125 hcb7:=by
 intro H enc w base spare held fuel cs x h
 have hl:cs.length=4:=(tp7 Tryz.underlying125 h).trans (by kernel_rfl)
 match cs,hl with
 | [v0,v1,v2,v3],_ =>
  obtain⟨n0,y0,f0⟩:=cd7 Tryz.underlying125 h 0 5 0 1 rfl ut7
  obtain⟨n1,y1,f1⟩:=cd7 Tryz.underlying125 h 1 5 1 1 rfl ut7
  obtain⟨n2,y2,f2⟩:=cd7 Tryz.underlying125 h 2 5 2 1 rfl ut7
  obtain⟨n3,y3,f3⟩:=cd7 Tryz.underlying125 h 3 5 3 1 rfl ut7
  obtain⟨a0,e0,w0⟩:=bq7 _ _ _ _ _ _ _ _ _ f0
  obtain⟨a1,e1,w1⟩:=bq7 _ _ _ _ _ _ _ _ _ f1
  obtain⟨a2,e2,w2⟩:=bq7 _ _ _ _ _ _ _ _ _ f2
  obtain⟨a3,e3,w3⟩:=bq7 _ _ _ _ _ _ _ _ _ f3
  simp at e0 e1 e2 e3
  subst e0;subst e1;subst e2;subst e3
  exact⟨⟨a0,a1,a2,a3⟩,rfl,w0,w1,w2,w3⟩
theorem scc7:lm7 Tryz.prog 22 fbb7:=pl7 (S:=ekb7) Tryz.underlying22 (by kernel_rfl) ojc7
theorem hbc7:lm7 Tryz.prog 23 nz7:=pl7 (S:=hcb7) Tryz.underlying23 (by kernel_rfl) bhc7
theorem qzb7:lm7 Tryz.prog 26 bt7:=by
 intro H enc w base spare held fuel cs x h
 have hl:cs.length=11:=(tp7 Tryz.underlying26 h).trans (by kernel_rfl)
 match cs,hl with
 | [v0,v1,v2,v3,v4,v5,v6,v7,v8,v9,v10],_ =>
  obtain⟨_,_,f0⟩:=cd7 Tryz.underlying26 h 0 5 0 1 rfl ut7
  obtain⟨_,_,f1⟩:=cd7 Tryz.underlying26 h 1 5 1 1 rfl ut7
  obtain⟨_,_,f2⟩:=cd7 Tryz.underlying26 h 2 5 2 1 rfl ut7
  obtain⟨_,_,f3⟩:=cd7 Tryz.underlying26 h 3 5 3 1 rfl ut7
  obtain⟨_,_,f4⟩:=cd7 Tryz.underlying26 h 4 5 4 1 rfl ut7
  obtain⟨_,_,f5⟩:=cd7 Tryz.underlying26 h 5 22 5 1 rfl (by kernel_rfl)
  obtain⟨_,_,f6⟩:=cd7 Tryz.underlying26 h 6 23 6 1 rfl (by kernel_rfl)
  obtain⟨_,_,f7⟩:=cd7 Tryz.underlying26 h 7 24 7 1 rfl (by kernel_rfl)
  obtain⟨_,_,f8⟩:=cd7 Tryz.underlying26 h 8 24 8 1 rfl (by kernel_rfl)
  obtain⟨_,_,f9⟩:=cd7 Tryz.underlying26 h 9 4 9 1 rfl gub7
  obtain⟨_,_,f10⟩:=cd7 Tryz.underlying26 h 10 4 10 1 rfl gub7
  obtain⟨a0,e0,w0⟩:=bq7 _ _ _ _ _ _ _ _ _ f0
  obtain⟨a1,e1,w1⟩:=bq7 _ _ _ _ _ _ _ _ _ f1
  obtain⟨a2,e2,w2⟩:=bq7 _ _ _ _ _ _ _ _ _ f2
  obtain⟨a3,e3,w3⟩:=bq7 _ _ _ _ _ _ _ _ _ f3
  obtain⟨a4,e4,w4⟩:=bq7 _ _ _ _ _ _ _ _ _ f4
  obtain⟨a5,r5⟩:=scc7 _ _ _ _ _ _ _ _ _ f5
  obtain⟨a6,r6⟩:=hbc7 _ _ _ _ _ _ _ _ _ f6
  obtain⟨a7,r7⟩:=cq7 _ _ _ _ _ _ _ _ _ f7
  obtain⟨a8,r8⟩:=cq7 _ _ _ _ _ _ _ _ _ f8
  obtain⟨a9,e9⟩:=zub7 _ _ _ _ _ _ _ _ _ f9
  obtain⟨a10,e10⟩:=zub7 _ _ _ _ _ _ _ _ _ f10
  simp[uic7,nd7]at e0 e1 e2 e3 e4 e9 e10
  subst e0;subst e1;subst e2;subst e3;subst e4;subst e9;subst e10
  exact⟨⟨a0,a1,a2,a3,a4,a5,a6,a7,a8,a9,a10⟩,v5,v6,v7,v8,rfl,⟨w0,w1,w2,w3,w4⟩,r5,r6,r7,r8⟩
theorem gs7 {P:Program}{w:World}{r:Reach}{base:Nat}{t:TypeId}{fs:Array Field}{v:Value}(ht:P.underlying t=some (.struct fs)) (h:Value.okWide P w r base t v):∃cs:List Value,v = .agg cs.toArray∧v.cells.toList=cs:=by
 unfold Value.okWide at h
 rw[ht]at h
 obtain⟨cs,rfl,-⟩:=h
 exact⟨cs.toList,by simp,by simp[Value.cells]⟩
open Go.RowKit Go.ChangeShapes
def i8S:Shape Int:=nd7 1 (fun x cs=>cs=[.int .i8 x]∧(-128≤x∧x≤127)) (by rintro x cs ⟨rfl,_⟩;rfl)
theorem pzb7 {P:Program}{t:TypeId}(ht:P.underlying t=some (.int .i8)):lm7 P t i8S:=by
 intro H enc w base spare held fuel cs x h
 cases fuel with
 | zero=>simp[DataW.trod]at h
 | succ n =>
  unfold DataW.trod at h
  rw[ht]at h
  split at h <;> simp_all
  rename_i k2 m e
  obtain⟨⟨_,hw⟩,-⟩:=h
  subst e
  refine⟨m,rfl, ?_⟩
  simpa[Lit.wf,IntKind.min,IntKind.max,IntKind.signed,IntKind.bits]using hw
theorem jvc7:lm7 Tryz.prog 49 i8S:=pzb7 Tryz.underlying49
theorem zgc7:lm7 Tryz.prog 28 kjb7:=by
 intro H enc w base spare held fuel cs x h
 have hl:cs.length=3:=(tp7 Tryz.underlying28 h).trans (by kernel_rfl)
 match cs,hl with
 | [v0,v1,v2],_ =>
  obtain⟨_,_,f0⟩:=cd7 Tryz.underlying28 h 0 24 0 1 rfl (by kernel_rfl)
  obtain⟨_,_,f1⟩:=cd7 Tryz.underlying28 h 1 24 1 1 rfl (by kernel_rfl)
  obtain⟨_,_,f2⟩:=cd7 Tryz.underlying28 h 2 24 2 1 rfl (by kernel_rfl)
  obtain⟨a0,r0⟩:=cq7 _ _ _ _ _ _ _ _ _ f0
  obtain⟨a1,r1⟩:=cq7 _ _ _ _ _ _ _ _ _ f1
  obtain⟨a2,r2⟩:=cq7 _ _ _ _ _ _ _ _ _ f2
  exact⟨⟨a0,a1,a2⟩,v0,v1,v2,rfl,r0,r1,r2⟩
theorem bub7 {P:Program}{w:World}{r:Reach}{base:Nat}{t:TypeId}{k:IntKind}{v:Value}(ht:P.underlying t=some (.int k)) (h:Value.okWide P w r base t v):v.cells.toList=[v]:=by
 unfold Value.okWide at h
 rw[ht]at h
 simp only[Cell.okWide,ht]at h
 cases v <;> simp_all [Value.cells,Cell.ok]
section
variable {H:Type} {enc:TypeId×Value→H} {P:Program} {w:World} {base:Nat} {spare:Nat→Bool} {held:Bool}
end
end Go.Proofs.YtedahhjopmkbbaaGreat
namespace Go.Proofs.YtedahhjopmkbbaaGreat
open Go.RowKit Go.WideShapes Go.ChangeShapes
theorem Tryz.own:ownKnob Tryz.prog.godebug=none:=by kernel_rfl
theorem Tryz.laid:laidOutB Tryz.prog=true:=by kernel_rfl
section
variable {H:Type} {enc:TypeId×Value→H} {P:Program}
theorem dr7 (hl:laidOutB P=true) {W W':World}(hb:Below W.heap.size W W') {sp:Nat→Bool}:∀(ts:List TypeId) (vs:List Value) (ds:List (DataW H)) (ps:List MemPlace),DataW.TrodAll enc P W 0 (fun _=>true) true ts vs ds ps →
  (∀t∈ts,P.readableRec t=true∧t<P.types.size)→(∀x∈ps,x.block<W.heap.size)→(∀x∈ps,sp x.block=true)→DataW.TrodAll enc P W' 0 sp true ts vs ds ps
 | [],[],[],_,h,_,_,_=>h
 | t::ts,v::vs,d::ds,ps,h,ht,hlt,hsp=>by
  obtain⟨p,q,h1,h2,rfl⟩:=h
  exact⟨p,q,WideElems.Trod_stays hl (ht t (List.mem_cons_self ..)).1 (ht t (List.mem_cons_self ..)).2 h1 (fun x hx=>hb.same (hlt x (List.mem_append_left _ hx))) (fun x hx=>hsp x (List.mem_append_left _ hx)),
   dr7 hl hb ts vs ds q h2 (fun t h=>ht t (List.mem_cons_of_mem _ h)) (fun x hx=>hlt x (List.mem_append_right _ hx)) (fun x hx=>hsp x (List.mem_append_right _ hx)),rfl⟩
 | [],_::_,_,_,h,_,_,_=>h.elim
 | [],[],_::_,_,h,_,_,_=>h.elim
 | _::_,[],_,_,h,_,_,_=>h.elim
 | _::_,_::_,[],_,h,_,_,_=>h.elim
theorem tcc7 {f:Func}{s:ChangeSpec}{fresh handsOn again:Bool}{W W':World}{args:Array Value}{ds gs:List (DataW H)}{before:List MemPlace}{bt:TypeId}(hl:laidOutB P=true)
  (hW:DataW.Whole enc P f.params.toList s.vars false W args.toList ds gs before) (hv:s.vars=[]) (hs:s.fn H (ds++gs)={ results:=[.lit (.bool true)],args:=ds }) (hr:f.resultTypes = #[bt]) (hbt:P.underlying bt=some .bool)
  (ht:∀t∈f.params.toList,P.readableRec t=true∧t<P.types.size) (hb:Below W.heap.size W W'):s.post enc P f false fresh handsOn again W args (.bool true) W':=by
 have hlt:∀p∈before,p.block<W.heap.size:=fun p hp=>hW.lt p hp
 have hW2:=hW
 obtain⟨pa,pv,hA,hV,rfl,hz,-⟩:=hW2
 have hpv:pv=[]:=by
  rw[hv]at hV
  cases gs with
  | nil=>exact hV
  | cons g gs=>exact hV.elim
 have hgs:gs=[]:=by
  rw[hv]at hV
  cases gs with
  | nil=>rfl
  | cons g gs=>exact hV.elim
 subst hpv
 have hres:∀(b:Nat) (sp:Nat→Bool) (hd:Bool),DataW.TrodAll enc P W' b sp hd f.resultTypes.toList ((Value.bool true).resultList f.resultTypes.size) (s.fn H (ds++gs)).results []:=fun b sp hd=>by
  rw[hs,hr]
  exact trodAll_mk1 (shut_bool hbt _)
 have hargs:∀sp:Nat→Bool,(∀p∈pa++[],sp p.block=true)→DataW.TrodAll enc P W' 0 sp true f.params.toList args.toList (s.fn H (ds++gs)).args pa:=fun sp hsp=>by
  rw[hs]
  exact dr7 hl hb _ _ _ _ hA ht (fun x hx=>hlt x (List.mem_append_left _ hx)) (fun x hx=>hsp x (List.mem_append_left _ hx))
 have hvars:∀sp:Nat→Bool,DataW.TrodVars enc P W' sp s.vars (s.fn H (ds++gs)).vars []:=fun sp=>by
  rw[hs,hv];rfl
 refine⟨ds,gs,pa++[],[],pa,[],hW,hres _ _ _,hargs _ (fun p hp=>by simpa using hlt p hp),hvars _,World.keptBut_mono (fun p hp=>⟨hp, ?_⟩) (hb.frame (· ∈ pa++[])),fun _=>?_⟩
 ·rw[List.append_nil]at hp
  exact Or.inr (.inl hp)
 ·refine⟨ok_one hr rfl (okWide_bool_mk hbt _),_,_,([]++pa)++[],⟨[]++pa,[],trodAll_append (hargs _ (fun _ _=>rfl)) (hres _ _ _),hvars _,rfl, ?_, ?_⟩, ?_⟩
  ·intro b off hp
   have hin:MemPlace.cell b off∈pa++[]:=by simpa using hp
   rw[hb.frozen (hlt _ hin)]
   exact hz b off hin
  ·intro ha;cases ha
  ·intro p hp _
   simpa using hp
end
end Go.Proofs.YtedahhjopmkbbaaGreat
namespace Go.Proofs.YtedahhjopmkbbaaGreat
open Go.RowKit
theorem pk7 {w wz:World}{tv bv:Value}{T:List (List ba7)}{L:List ga7}{ts vs cs:List Value}(hT:xh7 69 66 wz w.heap.size tv T ts) (hB:zh7 75 3 wz w.heap.size bv L vs)
  (hR:Row wz (w.heap.size+1) 41 cs) (hl:0<cs.length) (hb:Below w.heap.size w wz):xh7 69 66 ((wz.setCell ⟨w.heap.size+1,0,none⟩ tv).setCell ⟨w.heap.size+1,1,none⟩ bv) w.heap.size tv T ts ∧
   zh7 75 3 ((wz.setCell ⟨w.heap.size+1,0,none⟩ tv).setCell ⟨w.heap.size+1,1,none⟩ bv) w.heap.size bv L vs∧Below w.heap.size w ((wz.setCell ⟨w.heap.size+1,0,none⟩ tv).setCell ⟨w.heap.size+1,1,none⟩ bv) :=
 ⟨(hT.keptSet hR (by decide) (by decide)).keptSet (hR.set (j:=0) hl tv) (by decide) (by decide),(hB.keptSet hR (by decide) (by decide)).keptSet (hR.set (j:=0) hl tv) (by decide) (by decide),
  (hb.setCell (p:=⟨w.heap.size+1,0,none⟩) (by show w.heap.size≤w.heap.size+1;omega) _).setCell (p:=⟨w.heap.size+1,1,none⟩) (by show w.heap.size≤w.heap.size+1;omega) _⟩
theorem uyb7 {w:World}{F:Nat→Prop}{p:ua7}{cs:List Value}(h:ecb7.rep w F p cs) {what at_:Nat}{by_:Int}(hwh:what≤255) (hw0:what % 12=0) (hat:at_≤255) (hby:-128≤by_∧by_≤127)
  (hn1:p.trucks.length≤100000) (hn2:p.bikes.length≤100000) (hs1:∀t∈p.trucks,t.length≤100000∧∀s∈t,(-1000000000≤s.sat∧s.sat≤1000000000) ∧ -1000000000≤s.load∧s.load≤1000000000) (hs2:∀b∈p.bikes,(-1000000000≤b.sat∧b.sat≤1000000000)∧b.stops.length≤100000∧∀c∈b.stops,-1000000000≤c∧c≤1000000000) :
  Calls Tryz.prog 19 #[.agg cs.toArray,.int .u8 (what:Int),.int .u8 (at_:Int),.int .i8 by_] w fun e w'=>∃tv bv ts vs,e = .returned (.agg #[tv,bv])∧xh7 69 66 w' w.heap.size tv (zf7 p what at_ by_).trucks ts∧zh7 75 3 w' w.heap.size bv (zf7 p what at_ by_).bikes vs∧Below w.heap.size w w':=by
 have hrep:=h
 obtain⟨tv0,bv0,rfl,h1,h2⟩:=h
 obtain⟨a1,b1,off1,c1,hs,-,-,-,-,-⟩:=xi7 h1
 obtain⟨a2,b2,off2,c2,hs',-,-,-,-,-⟩:=mk7 h2
 obtain rfl:=List.cons.inj hs |>.1
 obtain rfl:=List.cons.inj hs' |>.1
 clear hs hs' h1 h2
 have X0:=(Row.new (w:=w) (e:=41) (cs:=[.slice a1 p.trucks.length c1,.slice a2 p.bikes.length c2]) rfl).alloc (.cells #[.slice none 0 0,.slice none 0 0] 41)
 have R0:=Row.new (w:=w.alloc (.cells #[.slice a1 p.trucks.length c1,.slice a2 p.bikes.length c2] 41)) (g:=w.heap.size+1) (e:=41) (cs:=[.slice none 0 0,.slice none 0 0]) (by simp)
 have hb0:Below w.heap.size w ((w.alloc (.cells #[.slice a1 p.trucks.length c1,.slice a2 p.bikes.length c2] 41)).alloc (.cells #[.slice none 0 0,.slice none 0 0] 41)):=((Below.refl _ _).alloc (Nat.le_refl _) _).alloc (by simp) _
 have HS1:=hid hs1
 have HS2:=hid hs2
 have HREP:=hid (ecb7.below hrep hb0)
 obtain⟨xc0,xc1⟩:=ry7 X0
 clear hrep
 go_enter Tryz.func19,Tryz.ntmps19
 go_wp2_with fail
 refine (mjb7 HREP.out (by omega) (by omega) (fun t ht=>by have:=(HS1.out t ht).1;omega) (fun b hb=>by have:=(HS2.out b hb).2.1;omega)).mono ?_
 rintro e w1 ⟨tv,bv,ts,vs,rfl,hT,hB,hb1⟩
 obtain⟨ta,tc,htv,-,-⟩:=eb7 hT.own
 obtain⟨ba,bc,hbv,-,-⟩:=eb7 hB.own
 subst htv
 subst hbv
 have X1:=X0.below hb1
 have R1:=R0.below hb1
 have hB1:=pa7 hb0 hb1
 have hle:w.heap.size≤((w.alloc (.cells #[.slice a1 p.trucks.length c1,.slice a2 p.bikes.length c2] 41)).alloc (.cells #[.slice none 0 0,.slice none 0 0] 41)).heap.size:=hb0.size
 have hX2:=X1.set (j:=0) (by simp) (.slice ta p.trucks.length tc)
 have hTS:=((hT.keptSet (j:=0) (u:=.slice ta p.trucks.length tc) X1 (by decide) (by decide)).keptSet (j:=1) (u:=.slice ba p.bikes.length bc) hX2 (by decide) (by decide)).mono hle
 have hBS:=((hB.keptSet (j:=0) (u:=.slice ta p.trucks.length tc) X1 (by decide) (by decide)).keptSet (j:=1) (u:=.slice ba p.bikes.length bc) hX2 (by decide) (by decide)).mono hle
 have hXS:=hX2.set (j:=1) (by simp) (.slice ba p.bikes.length bc)
 have hRS:=(R1.setOther (a:=⟨w.heap.size,0,none⟩) (by show w.heap.size+1≠w.heap.size;omega) (.slice ta p.trucks.length tc)).setOther (a:=⟨w.heap.size,1,none⟩) (by show w.heap.size+1≠w.heap.size;omega) (.slice ba p.bikes.length bc)
 have hBl:=(hB1.setCell (p:=⟨w.heap.size,0,none⟩) (by show w.heap.size≤w.heap.size;omega) (.slice ta p.trucks.length tc)).setCell (p:=⟨w.heap.size,1,none⟩) (by show w.heap.size≤w.heap.size;omega) (.slice ba p.bikes.length bc)
 obtain⟨xd0,xd1⟩:=ry7 X1
 have xf0:=X1.frozen 0
 have xf1:=X1.frozen 1
 clear X0 R0 X1 R1 hb0 hb1 hB1 hT hB hX2 xc0 xc1
 go_upto_region 2 with fail
 generalize hwz:(w1.setCell ⟨w.heap.size,0,none⟩ (.slice ta p.trucks.length tc)).setCell ⟨w.heap.size,1,none⟩ (.slice ba p.bikes.length bc)=wz at *
 clear hwz
 obtain⟨pc0,pc1⟩:=ry7 hXS
 obtain⟨rc0,rc1⟩:=ry7 hRS
 have rf0:=hRS.frozen 0
 have rf1:=hRS.frozen 1
 have HT:=hid hTS
 have HB:=hid hBS
 have HX:=hid hXS
 have HR:=hid hRS
 have HBL:=hid hBl
 have hzz:=hRS.lt
 clear hTS hBS hXS hRS hBl xd0 xd1 xf0 xf1 hle
 by_cases e1:p.bikes.length=0
 ·have b1:((p.bikes.length:Int)==0)=true:=by simpa using e1
  have HE:=hid (show zf7 p what at_ by_=p from by unfold zf7;rw[if_pos (by unfold rs7;simp[e1])])
  clear e1
  go_wp2
  refine bodyPost_ret (v:=.agg #[.slice ta p.trucks.length tc,.slice ba p.bikes.length bc]) (by simp[results,Tryz.results19,go_sem,rc0,rc1]) rfl ⟨_,_,ts,vs,rfl, ?_⟩
  rw[HE.out]
  exact pk7 HT.out HB.out HR.out (by simp) HBL.out
 have b1:((p.bikes.length:Int)==0)=false:=by simpa using e1
 by_cases e2:p.trucks.length=0
 ·have b2:((p.trucks.length:Int)==0)=true:=by simpa using e2
  have HE:=hid (show zf7 p what at_ by_=p from by unfold zf7;rw[if_pos (by unfold rs7;simp[e2])])
  clear e1 e2
  go_wp2
  refine bodyPost_ret (v:=.agg #[.slice ta p.trucks.length tc,.slice ba p.bikes.length bc]) (by simp[results,Tryz.results19,go_sem,rc0,rc1]) rfl ⟨_,_,ts,vs,rfl, ?_⟩
  rw[HE.out]
  exact pk7 HT.out HB.out HR.out (by simp) HBL.out
 have b2:((p.trucks.length:Int)==0)=false:=by simpa using e2
 have n1:(0:Int)<(p.bikes.length:Int):=by omega
 have n2:(0:Int)<(p.trucks.length:Int):=by omega
 obtain⟨B,hBd⟩:∃B,B=at_ % p.bikes.length:=⟨_,rfl⟩
 obtain⟨T,hTd⟩:∃T,T=at_ % p.trucks.length:=⟨_,rfl⟩
 have hBl:B<p.bikes.length:=by rw[hBd];exact Nat.mod_lt _ (by omega)
 have hTl:T<p.trucks.length:=by rw[hTd];exact Nat.mod_lt _ (by omega)
 have HBM:=hid (show (at_:Int) % (p.bikes.length:Int)=(B:Int) from by rw[hBd];exact (Int.natCast_emod _ _).symm)
 have HTM:=hid (show (at_:Int) % (p.trucks.length:Int)=(T:Int) from by rw[hTd];exact (Int.natCast_emod _ _).symm)
 obtain⟨gb,capb,hvb,-,-,hgb,hRb⟩:=Row.of_owns HB.out.own (by omega)
 obtain⟨gt,capt,hvt,-,-,hgt,hRt⟩:=Row.of_owns HT.out.own (by omega)
 simp only[Value.slice.injEq]at hvb hvt
 obtain⟨rfl,-,rfl⟩:=hvb
 obtain⟨rfl,-,rfl⟩:=hvt
 have hBv:B<vs.length:=by rw[HB.out.len];exact hBl
 have hTv:T<ts.length:=by rw[HT.out.len];exact hTl
 have hxb:∀w,(Instr.indexAt 39 (.slice (some ⟨gb,0,none⟩) p.bikes.length bc) (.int .i64 ((at_:Int) % (p.bikes.length:Int)))).run Tryz.prog w = .ok (.pointer (some ⟨gb,2*B,none⟩)) w:=fun w=>by
  have:=lh7 (c:=bc) Tryz.underlying39 np7 (a:=some ⟨gb,0,none⟩) rfl hBl w
  rw[Nat.zero_add,Nat.mul_comm]at this
  rw[HBM.out];exact this
 have hxt:∀w,(Instr.indexAt 38 (.slice (some ⟨gt,0,none⟩) p.trucks.length tc) (.int .i64 ((at_:Int) % (p.trucks.length:Int)))).run Tryz.prog w = .ok (.pointer (some ⟨gt,T,none⟩)) w:=fun w=>by
  have:=nc7 (c:=tc) Tryz.underlying38 on7 (a:=some ⟨gt,0,none⟩) rfl hTl w
  rw[Nat.zero_add]at this
  rw[HTM.out];exact this
 have hrb:=HB.out.rows B hBl hBv
 have hrt:=HT.out.rows T hTl hTv
 obtain⟨ua,uc,hub,-,-⟩:=eb7 hrb
 obtain⟨va,vc,hvt,-,-⟩:=eb7 hrt
 have hcg:=ig7 p.bikes vs B hBl hBv
 have hcl:=oi7 p.bikes vs HB.out.len
 have cb0:=hRb.cell (j:=2*B) (by omega)
 have cb1:=hRb.cell (j:=2*B+1) (by omega)
 have ct0:=hRt.cell hTv
 rw[List.getElem?_eq_getElem (by omega),List.getElem?_eq_getElem (by omega)]at hcg
 rw[Option.some.inj hcg.1]at cb0
 rw[Option.some.inj hcg.2,hub]at cb1
 rw[hvt]at ct0
 have fb0:=hRb.frozen (2*B)
 have fb1:=hRb.frozen (2*B+1)
 have ft0:=hRt.frozen T
 have hzb:=hRb.lt
 have hzt:=hRt.lt
 obtain⟨bs,hbs⟩:∃b,b=p.bikes[B]:=⟨_,rfl⟩
 obtain⟨tl,htl⟩:∃t,t=p.trucks[T]:=⟨_,rfl⟩
 rw[← hbs]at hrb cb0 cb1 hub
 rw[← htl]at hrt ct0 hvt
 have hb2:=HS2.out bs (by rw[hbs];exact List.getElem_mem _)
 have ht2:=HS1.out tl (by rw[htl];exact List.getElem_mem _)
 have HGB:=hid (show p.bikes.getD B ⟨0,[]⟩=bs from by rw[hbs];exact getD_at hBl)
 have HGT:=hid (show p.trucks.getD T []=tl from by rw[htl];exact getD_at hTl)
 have HBS:=hid hbs
 have HTL:=hid htl
 have HRB:=hid hrb
 have HRT:=hid hrt
 have HUB:=hid hub
 have HVT:=hid hvt
 have HROWB:=hid hRb
 have HROWT:=hid hRt
 have HBD:=hid hBd
 have HTD:=hid hTd
 rw[hub]at hrb
 rw[hvt]at hrt
 clear hcg hbs htl hub hvt hRb hRt hBd hTd
 go_upto_region 4 with fail
 go_cut [9,10] (fun u v wx=>u = .pointer (some ⟨gb,2*B,none⟩)∧v = .pointer (some ⟨gt,T,none⟩)∧Below wz.heap.size wz wx)
 case first =>
  go_quiet (fail)
  go_wp2
  go_meet
  exact⟨rfl,rfl,below_drewN (Below.refl _ _) _⟩
 obtain⟨rfl,rfl,hbw⟩:=hcut
 obtain⟨wy,rfl⟩:∃wy:World,wy=wc:=⟨_,rfl⟩
 replace cb0:=ea7 hbw cb0
 replace cb1:=ea7 hbw cb1
 replace ct0:=ea7 hbw ct0
 replace pc0:=ea7 hbw pc0
 replace pc1:=ea7 hbw pc1
 replace rc0:=ea7 hbw rc0
 replace rc1:=ea7 hbw rc1
 have hR2:=HR.out.below hbw
 replace rf0:=hR2.frozen 0
 replace rf1:=hR2.frozen 1
 replace fb0:=(HROWB.out.below hbw).frozen (2*B)
 replace fb1:=(HROWB.out.below hbw).frozen (2*B+1)
 replace ft0:=(HROWT.out.below hbw).frozen T
 have HT2:=hid (HT.out.below hbw)
 have HB2:=hid (HB.out.below hbw)
 have HX2:=hid (HX.out.below hbw)
 have HR2:=hid hR2
 have HBL2:=hid (HBL.out.trans (hbw.mono HBL.out.size))
 have hsy:=hbw.size
 clear hR2 hxb hxt
 by_cases e3:bs.stops.length=0
 ·have b3:((bs.stops.length:Int)==0)=true:=by simpa using e3
  have HE:=hid (show zf7 p what at_ by_=p from by unfold zf7;rw[if_pos (by unfold rs7;rw[← HBD.out,HGB.out];simp[e3])])
  clear e1 e2 e3
  go_wp2
  refine bodyPost_ret (v:=.agg #[.slice (some ⟨gt,0,none⟩) p.trucks.length tc,.slice (some ⟨gb,0,none⟩) p.bikes.length bc]) (by simp[results,Tryz.results19,go_sem,rc0,rc1]) rfl ⟨_,_,ts,vs,rfl, ?_⟩
  rw[HE.out]
  exact pk7 HT2.out HB2.out HR2.out (by simp) HBL2.out
 have b3:((bs.stops.length:Int)==0)=false:=by simpa using e3
 by_cases e4:tl.length=0
 ·have b4:((tl.length:Int)==0)=true:=by simpa using e4
  have HE:=hid (show zf7 p what at_ by_=p from by unfold zf7;rw[if_pos (by unfold rs7;rw[← HTD.out,HGT.out];simp[e4])])
  clear e1 e2 e3 e4
  go_wp2
  refine bodyPost_ret (v:=.agg #[.slice (some ⟨gt,0,none⟩) p.trucks.length tc,.slice (some ⟨gb,0,none⟩) p.bikes.length bc]) (by simp[results,Tryz.results19,go_sem,rc0,rc1]) rfl ⟨_,_,ts,vs,rfl, ?_⟩
  rw[HE.out]
  exact pk7 HT2.out HB2.out HR2.out (by simp) HBL2.out
 have b4:((tl.length:Int)==0)=false:=by simpa using e4
 have n3:(0:Int)<(bs.stops.length:Int):=by omega
 have n4:(0:Int)<(tl.length:Int):=by omega
 obtain⟨I,hId⟩:∃I,I=(at_ / 3) % bs.stops.length:=⟨_,rfl⟩
 obtain⟨K,hKd⟩:∃K,K=(at_ / 3) % tl.length:=⟨_,rfl⟩
 have hIl:I<bs.stops.length:=by rw[hId];exact Nat.mod_lt _ (by omega)
 have hKl:K<tl.length:=by rw[hKd];exact Nat.mod_lt _ (by omega)
 have HIM:=hid (show ((at_:Int) / 3) % (bs.stops.length:Int)=(I:Int) from by rw[hId];norm_cast)
 have HKM:=hid (show ((at_:Int) / 3) % (tl.length:Int)=(K:Int) from by rw[hKd];norm_cast)
 have HSP:=hid (show zf7 p what at_ by_=⟨hfc7 p (what % 12) T K at_ by_,gec7 p (what % 12) B I at_ by_⟩ from by
  unfold zf7
  rw[if_neg (by unfold rs7;rw[← HBD.out,← HTD.out,HGB.out,HGT.out];simp[e1,e2,e3,e4]),← HBD.out,← HTD.out,HGB.out,HGT.out,← hId,← hKd])
 have HID:=hid hId
 have HKD:=hid hKd
 clear hId hKd e1 e2 e3 e4
 go_upto_region 7 with fail
 go_cut [11,12] (fun u v wx=>u = .int .i64 (I:Int)∧v = .int .i64 (K:Int)∧Below wy.heap.size wy wx)
 case first =>
  go_quiet (fail)
  go_wp2
  go_meet
  exact⟨by rw[← HIM.out],by rw[← HKM.out],below_drewN (Below.refl _ _) _⟩
 obtain⟨rfl,rfl,hbv⟩:=hcut
 obtain⟨wv,rfl⟩:∃wv:World,wv=wc:=⟨_,rfl⟩
 replace cb0:=ea7 hbv cb0
 replace cb1:=ea7 hbv cb1
 replace ct0:=ea7 hbv ct0
 replace pc0:=ea7 hbv pc0
 replace pc1:=ea7 hbv pc1
 replace rc0:=ea7 hbv rc0
 replace rc1:=ea7 hbv rc1
 have hR3:=HR2.out.below hbv
 replace rf0:=hR3.frozen 0
 replace rf1:=hR3.frozen 1
 have hRb3:=HROWB.out.below (pa7 hbw hbv)
 have hRt3:=HROWT.out.below (pa7 hbw hbv)
 replace fb0:=hRb3.frozen (2*B)
 replace fb1:=hRb3.frozen (2*B+1)
 replace ft0:=hRt3.frozen T
 have HT3:=hid (HT2.out.below hbv)
 have HB3:=hid (HB2.out.below hbv)
 have hX3:=HX2.out.below hbv
 have pf0:=hX3.frozen 0
 have pf1:=hX3.frozen 1
 have HX3:=hid hX3
 have HR3:=hid hR3
 have HRB3:=hid hRb3
 have HRT3:=hid hRt3
 have HBL3:=hid (HBL2.out.trans (hbv.mono HBL2.out.size))
 have hsv:=hbv.size
 clear hR3 hRb3 hRt3 hX3 hbw hbv hrb hrt
 obtain⟨wm,hwm⟩:∃wm,wm=what % 12:=⟨_,rfl⟩
 have HWM:=hid (show (what:Int) % 12=(wm:Int) from by rw[hwm];norm_cast)
 replace hwm:=hwm.symm
 have e:wm=0:=hwm.symm.trans hw0
 all_goals
  subst e
  have hm:=HWM.out
  try simp only[Int.cast_ofNat_Int,Int.natCast_zero,Int.natCast_one]at hm
  have HMW:=hid hwm
  clear hwm
 ·
  have HE:=hid (show zf7 p what at_ by_=⟨p.trucks,p.bikes⟩ from by rw[HSP.out,HMW.out];rfl)
  go_wp2
  refine bodyPost_ret (v:=.agg #[.slice (some ⟨gt,0,none⟩) p.trucks.length tc,.slice (some ⟨gb,0,none⟩) p.bikes.length bc]) (by simp[results,Tryz.results19,go_sem,rc0,rc1]) rfl ⟨_,_,ts,vs,rfl, ?_⟩
  rw[HE.out]
  exact pk7 HT3.out HB3.out HR3.out (by simp) HBL3.out
open Go.RowKit Go.Lib
def dsb7 (w:World) (base:Nat) (v:Value) (xs:List UInt8):Prop :=
 ∃g cap,v = .slice (some ⟨g,0,none⟩) xs.length cap∧(base≤g∧g<w.heap.size)∧xs.length≤cap∧cap≤maxLen∧(∀j,j<cap→(w.cell? ⟨g,j,none⟩).isSome=true∧w.frozen? ⟨g,j,none⟩=false) ∧
  ∀j (h:j<xs.length),w.cell? ⟨g,j,none⟩=some (.int .u8 (xs[j].toNat:Int))
theorem tpb7 {w w':World}{g:Nat}(h:w'.heap[g]? = w.heap[g]?) (j:Nat):w'.frozen? ⟨g,j,none⟩=w.frozen? ⟨g,j,none⟩:=by simp[World.frozen?,h]
theorem dsb7.below {w w':World}{base:Nat}{v:Value}{xs:List UInt8}(h:dsb7 w base v xs) (hb:Below w.heap.size w w'):dsb7 w' base v xs:=by
 obtain⟨g,cap,h1,h2,h3,h4,h5,h6⟩:=h
 have hk:=hb.block g h2.2
 have hc:∀j,w'.cell? ⟨g,j,none⟩=w.cell? ⟨g,j,none⟩:=fun j=>World.cell?_of_block (a:=⟨g,j,none⟩) hk
 exact⟨g,cap,h1,⟨h2.1,Nat.lt_of_lt_of_le h2.2 hb.size⟩,h3,h4,fun j hj=>by rw[hc,tpb7 hk];exact h5 j hj,fun j hj=>by rw[hc];exact h6 j hj⟩
theorem below_setCells {B g:Nat}(hg:B≤g):∀(vs:List Value) (o:Nat) {a w:World},Below B a w→Below B a (w.setCells g o vs)
 | [],_,_,_,h=>h
 | v::r,o,_,_,h=>below_setCells hg r (o+1) (h.setCell hg v)
theorem size_setCells (g:Nat):∀(vs:List Value) (o:Nat) (w:World),(w.setCells g o vs).heap.size=w.heap.size
 | [],_,_=>rfl
 | v::r,o,w=>by rw[World.setCells,size_setCells g r];simp[World.setCell]
theorem rx7 (b:Nat):∀(vs:List Value) (o:Nat) (w:World) (x:Addr),(w.cell? x).isSome=true→((w.setCells b o vs).cell? x).isSome=true
 | [],_,_,_,h=>h
 | v::r,o,w,x,h=>by
  rw[World.setCells]
  refine rx7 b r (o+1) _ x ?_
  obtain⟨u,hu⟩:=Option.isSome_iff_exists.1 h
  by_cases e:(⟨b,o,none⟩:Addr)=x
  ·subst e;rw[World.cell?_setCell_same _ _ _ hu];rfl
  ·rw[World.cell?_setCell_other _ _ _ _ e,hu];rfl
theorem ckc7:(Tryz.prog.info? 5).map (fun i=>(i.zero,i.size,i.bytes))=some (some (.int .u8 0),1,1):=by kernel_rfl
theorem dbc7 (w:World) (l:List UInt8):Src Tryz.prog 1 9 (.string (S l)) l.length (Lib.byteCells l) w:=Src.ofString (P:=Tryz.prog) w Tryz.underlying9 (S l)
theorem teb7 {w:World}{base:Nat}{v:Value}{xs:List UInt8}(h:dsb7 w base v xs) {tx:TypeId}{xv:Value}{news:List UInt8}(hs:Src Tryz.prog 1 tx xv news.length (Lib.byteCells news) w) (hlen:xs.length+news.length≤1099511627776) (hbase:base≤w.heap.size) (rt:TypeId) :
  ∃v' w',(Builtin.append_ #[24,tx] rt #[v,xv]).run Tryz.prog w = .ok v' w'∧dsb7 w' base v' (xs++news)∧Below base w w':=by
 obtain⟨g,cap,rfl,h2,h3,h4,h5,h6⟩:=h
 obtain⟨i,hi,hz,hsz,hby⟩:=info_parts ckc7
 have hone:∀u∈Lib.byteCells news,u.oneCell'=true:=hs.one
 have hs':Src Tryz.prog i.size tx xv news.length (Lib.byteCells news) w:=by rw[hsz];exact hs
 by_cases hroom:xs.length+news.length≤cap
 ·have hr:=run_append_room_src w 24 tx rt 5 i Tryz.underlying24 hi g 0 xs.length cap xv news.length (Lib.byteCells news) hs' hroom
   (fun j hj=>by rw[Lib.byteCells_length]at hj;rw[hsz];exact (h5 _ (by omega)).1) (fun j hj=>by rw[Lib.byteCells_length]at hj;rw[hsz];exact (h5 _ (by omega)).2)
  rw[hsz]at hr
  have hb:Below base w (w.setCells g (0+xs.length*1) (Lib.byteCells news)):=below_setCells h2.1 _ _ (Below.refl _ _)
  have hin:=World.cell?_setCells_in g (Lib.byteCells news) (0+xs.length*1) w (fun j hj=>by rw[Lib.byteCells_length]at hj;exact (h5 _ (by omega)).1)
  have hout:=World.cell?_setCells_out g (Lib.byteCells news) (0+xs.length*1) w
  refine⟨_,_,hr,⟨g,cap,by rw[List.length_append],⟨h2.1,by rw[size_setCells];exact h2.2⟩,by rw[List.length_append];exact hroom,h4,fun j hj=>⟨?_, ?_⟩,fun j hj=>?_⟩,hb⟩
  ·exact rx7 g _ _ w _ (h5 j hj).1
  ·rw[World.frozen?_setCells];exact (h5 j hj).2
  ·rw[List.length_append]at hj
   by_cases hjl:j<xs.length
   ·rw[hout _ (fun _ _=>.inl (by simp only;omega)),h6 j hjl,List.getElem_append_left hjl]
   ·have hk:j-xs.length<(Lib.byteCells news).length:=by rw[Lib.byteCells_length];omega
    have:=hin (j-xs.length) hk
    rw[show 0+xs.length*1+(j-xs.length)=j by omega]at this
    rw[this,List.getElem_append_right (by omega)]
    simp[Lib.byteCells]
 ·have hold:(Builtin.firstCells i.size xs.length (.slice (some ⟨g,0,none⟩) xs.length cap)).run Tryz.prog w.drew = .ok (Lib.byteCells xs).toArray w.drew:=by
   rw[hsz]
   refine run_firstCells_some (P:=Tryz.prog) w.drew 1 xs.length ⟨g,0,none⟩ xs.length cap _ (by rw[Lib.byteCells_length,Nat.mul_one]) (fun j u hj=>?_)
   have hjl:=(List.getElem?_eq_some_iff.1 hj).1
   rw[Lib.byteCells_length]at hjl
   have e:=(List.getElem?_eq_some_iff.1 hj).2
   rw[Addr.add_lit]
   have:=h6 j hjl
   rw[show (⟨g,0+j,none⟩:Addr)=⟨g,j,none⟩ by rw[Nat.zero_add]]
   rw[show w.drew.cell? ⟨g,j,none⟩=w.cell? ⟨g,j,none⟩ from rfl,this,← e]
   simp[Lib.byteCells]
  have hr:=run_append_grow_src w 24 tx rt 5 i _ Tryz.underlying24 hi hz (some ⟨g,0,none⟩) xs.length cap (Lib.byteCells xs) hold xv news.length (Lib.byteCells news) hs' (by omega) (by omega)
   (growslice_fits (by omega) (by rw[hby];omega))
  have hge:=grownCap_ge w (xs.length+news.length) cap 5
  have hcm:=grownCap_le_maxLen w (xs.length+news.length) cap 5 (by unfold maxLen;omega)
  have hnew:=heap_alloc_new w.drew (.cells ((Lib.byteCells xs++Lib.byteCells news).toArray++Builtin.zeroCells (Value.int .u8 0).cells (grownCap w (xs.length+news.length) cap 5-(xs.length+news.length))) 5)
  have hcs:((Lib.byteCells xs++Lib.byteCells news).toArray++Builtin.zeroCells (Value.int .u8 0).cells (grownCap w (xs.length+news.length) cap 5-(xs.length+news.length))).size=grownCap w (xs.length+news.length) cap 5:=by
   simp only[Array.size_append,List.size_toArray,List.length_append,Lib.byteCells_length,size_zeroCells,show (Value.int .u8 0).cells.size=1 from rfl];omega
  refine⟨_,_,hr,⟨w.heap.size,_,by rw[List.length_append],⟨hbase,(Array.getElem?_eq_some_iff.1 hnew).1⟩,by rw[List.length_append];exact hge,hcm,fun j hj=>⟨?_, ?_⟩,fun j hj=>?_⟩, ?_⟩
  ·have hnew':(w.drew.alloc (.cells ((Lib.byteCells xs++Lib.byteCells news).toArray++Builtin.zeroCells (Value.int .u8 0).cells (grownCap w (xs.length+news.length) cap 5-(xs.length+news.length))) 5)).heap[w.heap.size]? = _:=hnew
   simp only[World.cell?,hnew',Option.isSome_none,Bool.false_eq_true,if_false]
   rw[Array.getElem?_eq_getElem (by rw[hcs];exact hj)];rfl
  ·exact Lib.frozen_of_heap hnew _
  ·have hnew':(w.drew.alloc (.cells ((Lib.byteCells xs++Lib.byteCells news).toArray++Builtin.zeroCells (Value.int .u8 0).cells (grownCap w (xs.length+news.length) cap 5-(xs.length+news.length))) 5)).heap[w.heap.size]? = _:=hnew
   simp only[World.cell?,hnew',Option.isSome_none,Bool.false_eq_true,if_false]
   rw[List.length_append]at hj
   rw[Array.getElem?_append_left (by simp[Lib.byteCells_length];exact hj),List.getElem?_toArray,← Lib.byteCells_append]
   rw[show (Lib.byteCells (xs++news))[j]? = some (.int .u8 (((xs++news)[j]'(by rw[List.length_append];exact hj)).toNat:Int)) by
    simp only[Lib.byteCells,List.getElem?_map]
    rw[List.getElem?_eq_getElem (by rw[List.length_append];exact hj)];rfl]
  ·exact (Below.refl base w).drew.alloc hbase _
theorem rbc7 {w:World}{base:Nat}(hbase:base≤w.heap.size) (l:List UInt8) (hl:l.length≤1099511627776):∃v' w',(convert 9 24 (.string (S l))).run Tryz.prog w = .ok v' w'∧dsb7 w' base v' l∧Below base w w':=by
 have hr:=run_bytes_of_string w 9 24 5 (S l) Tryz.underlying9 Tryz.underlying24 Tryz.underlying5
 have hge:=grownCap_ge w l.length 0 5
 have hcm:=grownCap_le_maxLen w l.length 0 5 (by unfold maxLen;omega)
 rw[sxb7]at hr
 generalize hc:grownCap w l.length 0 5=cap at hr hge hcm
 have hsz:(bytesRow (S l) cap).size=cap:=by
  unfold bytesRow
  simp[ByteArray.size];omega
 have hcell:∀j,(w.drew.alloc (.cells (bytesRow (S l) cap) 5 ((bytesRow (S l) cap).size,(bytesRow (S l) cap).size+1))).cell? ⟨w.heap.size,j,none⟩=(bytesRow (S l) cap)[j]? := fun j=>World.cell?_alloc_mark w.drew _ _ _ j
 have hfro:∀j,(w.drew.alloc (.cells (bytesRow (S l) cap) 5 ((bytesRow (S l) cap).size,(bytesRow (S l) cap).size+1))).frozen? ⟨w.heap.size,j,none⟩=(decide ((bytesRow (S l) cap).size≤j)&&decide (j<(bytesRow (S l) cap).size+1)):=fun j=>World.frozen?_alloc_mark w.drew _ _ _ _ j
 refine⟨_,_,hr,⟨w.heap.size,cap,rfl,⟨hbase,by simp⟩,hge,hcm,fun j hj=>⟨?_, ?_⟩,fun j hj=>?_⟩,(Below.refl base w).drew.alloc hbase _⟩
 ·rw[hcell,Array.getElem?_eq_getElem (by rw[hsz];exact hj)];rfl
 ·rw[hfro,hsz];simp;omega
 ·rw[hcell,bytesRow_at (S l) cap j (by simpa[ByteArray.size]using hj)];rfl
theorem kbc7 {w:World}{base:Nat}{v:Value}{l:List UInt8}(h:dsb7 w base v l):(convert 24 9 v).run Tryz.prog w = .ok (.string (S l)) w:=by
 obtain⟨g,cap,rfl,-,-,-,-,h6⟩:=h
 refine run_convert_bytes_back w 24 9 5 ⟨g,0,none⟩ cap l Tryz.underlying24 Tryz.underlying5 Tryz.underlying9 fun j hj=>?_
 rw[Addr.add_lit,Nat.zero_add]
 exact h6 j hj
end Go.Proofs.YtedahhjopmkbbaaGreat
namespace Go.Proofs.YtedahhjopmkbbaaGreat
open Go.RowKit Go.Lib
theorem ku7 {ops:Array Oper}{rest:List Oper}{o:Oper}{a:Act}{Q:Exit→Act→World→Prop}(w:World) (hgd:o.guard=none) (s x:Operand) (t tx:TypeId)
  (ho:o.op = .call { callee:=.builtin .append,args:=#[s,x],argTypes:=#[t,tx] }) {G:Value→World→Prop} {v xv:Value} (hs:a.eval s=v) (hx:a.eval x=xv)
  (hrun:∀rt,∃v' w',(Builtin.append_ #[t,tx] rt #[v,xv]).run Tryz.prog w = .ok v' w'∧G v' w') (h:∀v' w',G v' w'→wpList Tryz.prog ops Q rest (a.put o.dst v') w'):wpList Tryz.prog ops Q (o::rest) a w:=by
 obtain⟨v',w',hr,hg⟩:=hrun o.type
 refine wpList_plain hgd fun _ hK=>?_
 unfold Oper.wp execOp
 simp only[ho,resolve,invoke,builtin,Sem.run_bind,Sem.run_pure,Result.andThen_ok,List.map_toArray,List.map_cons,List.map_nil,hs,hx,hr]
 exact hK _ _ (h v' w' hg)
theorem adc7 (w:World) (b:UInt8) {z:Int}(hz:z=(b.toNat:Int)):Src Tryz.prog 1 24 (.slice (some ⟨w.heap.size,0,none⟩) 1 1) [b].length (Lib.byteCells [b]) (w.alloc (.cells #[.int .u8 z] 5)):=by
 subst hz
 refine Src.ofSlice (P:=Tryz.prog) _ Tryz.underlying24 ⟨w.heap.size,0,none⟩ 1 1 (Lib.byteCells [b]) rfl (fun j u hj=>?_) (fun u hu=>?_)
 ·rw[Addr.add_lit,Nat.zero_add]
  rw[World.cell?_alloc_mark]
  simpa[Lib.byteCells]using hj
 ·simp[Lib.byteCells]at hu;subst hu;rfl
theorem vub7 {w wr:World}{v:Value}{bs:List UInt8}(hr:dsb7 wr w.heap.size v bs) (hb:Below w.heap.size w wr) (b:UInt8) {z:Int}(hz:z=(b.toNat:Int)) (hl:bs.length≤3000000) :
  ∀rt,∃v' w',(Builtin.append_ #[24,24] rt #[v,.slice (some ⟨wr.heap.size,0,none⟩) 1 1]).run Tryz.prog (wr.alloc (.cells #[.int .u8 z] 5)) = .ok v' w'∧(dsb7 w' w.heap.size v' (bs++[b])∧Below w.heap.size w w'):=fun rt=>by
 subst hz
 have hs:=hb.size
 obtain⟨v',w',h1,h2,h3⟩:=teb7 (hr.below ((Below.refl _ _).alloc (Nat.le_refl _) _)) (adc7 wr b rfl) (by simp;omega) (by simp;omega) rt
 exact⟨v',w',h1,h2,(hb.alloc hs _).trans h3⟩
theorem fxb7 {w wr:World}{v:Value}{bs:List UInt8}(hr:dsb7 wr w.heap.size v bs) (hb:Below w.heap.size w wr) {n:Int}(hn:oa7 n) (hl:bs.length≤3000001) :
  ∀rt,∃v' w',(Builtin.append_ #[24,9] rt #[v,.string (S (itoa n))]).run Tryz.prog wr = .ok v' w'∧(dsb7 w' w.heap.size v' (bs++itoa n)∧Below w.heap.size w w'):=fun rt=>by
 obtain⟨v',w',h1,h2,h3⟩:=teb7 hr (dbc7 _ (itoa n)) (by have:=uu7 hn;omega) hb.size rt
 exact⟨v',w',h1,h2,hb.trans h3⟩
theorem yqc7 {w:World}{F:Nat→Prop}{nm:List UInt8}{l:List Int}{v:Value}(h:(ia7 om7).rep w F l [v]) (hn:nm.length≤1000) (hl:l.length≤100000) :
  Calls Tryz.prog 35 #[.string (S nm),v] w fun e w'=>e = .returned (.string (S (xf7 nm l)))∧Below w.heap.size w w':=by
 obtain⟨a,b,off,c,hs,hlc,hcm,ha,-,hcell,hwf⟩:=rh7 h
 obtain rfl:=List.cons.inj hs |>.1
 clear h hs
 obtain⟨v1,w1,hconv,hrow,hbel⟩:=rbc7 (w:=w) (base:=w.heap.size) (Nat.le_refl _) nm (by omega)
 have HROW:=hid hrow
 have HB:=hid hbel
 have HCELL:=hid hcell
 clear hrow hbel hcell
 go_enter Tryz.func35,Tryz.ntmps35
 go_wp2
 go_loopw [5,12] (fun bv kv wr=>∃k:Nat,k≤l.length∧kv = .int .i64 k∧dsb7 wr w.heap.size bv (lnS nm (l.take k))∧Below w.heap.size w wr) (fun _ kv _=>l.length-(RowKit.intOf kv).toNat)
 case atStart=>exact⟨0,Nat.zero_le _,rfl,HROW.out,HB.out⟩
 case round =>
  clear HROW HB hconv
  obtain⟨k,hk,rfl,hr,hb⟩:=hrel
  obtain⟨g,cap,rfl,-⟩:=id hr
  have HR:=hid hr
  have HB:=hid hb
  have hln:(lnS nm (l.take k)).length≤3000000:=by
   have:=edb7 (l.take k) nm fun n hn=>hwf n (List.mem_of_mem_take hn)
   rw[List.length_take]at this
   omega
  clear hr hb
  by_cases hlt:k<l.length
  ·have hx:=nc7 (c:=c) Tryz.underlying60 zq7 (ha (by omega)) hlt
   have hc:wr.cell? ⟨b,off+k,none⟩=some (.int .i64 (l[k])):=ea7 HB.out (HCELL.out k hlt)
   have hwk:oa7 l[k]:=hwf _ (List.getElem_mem hlt)
   have hsucc:lnS nm (l.take (k+1))=tf7 (lnS nm (l.take k)) l[k]:=by rw[ceb7 nm l hlt,List.getD_eq_getElem?_getD,List.getElem?_eq_getElem hlt];rfl
   obtain⟨n,hn⟩:∃n,n=l[k]:=⟨_,rfl⟩
   rw[← hn]at hc hwk hsucc
   obtain⟨bs,hbs⟩:∃bs,bs=lnS nm (l.take k):=⟨_,rfl⟩
   rw[← hbs]at HR hln hsucc ⊢
   clear hn hbs
   by_cases hp:0<bs.length
   ·rw[show tf7 bs n=(bs++[32])++itoa n by unfold tf7;rw[if_pos hp]]at hsucc
    have HS:=hid hsucc
    clear hsucc
    have AP:=hid (vub7 HR.out HB.out 32 rfl hln)
    go_wp2_with (at_builtin;refine ku7 _ rfl _ _ 24 24 rfl rfl rfl AP.out ?_)
    intro v2 w2 hr2 hb2
    obtain⟨b2,hbe⟩:∃b2,b2=bs++[32]:=⟨_,rfl⟩
    rw[← hbe]at hr2
    have hl2:b2.length≤3000001:=by rw[hbe];simp;omega
    rw[← hbe]at HS
    clear hbe
    have HR2:=hid hr2
    have HB2:=hid hb2
    clear hr2 hb2 HR HB
    go_wp2_with (go_at_call 64;refine (dvb7 hwk _).mono ?_)
    rintro e w3 ⟨rfl,hb3⟩
    have HR3:=hid (HR2.out.below hb3)
    have HB3:=hid (pa7 HB2.out hb3)
    clear hb3 HR2 HB2
    obtain⟨g3,cap3,rfl,-⟩:=id HR3.out
    have AP:=hid (fxb7 HR3.out HB3.out hwk (by omega))
    go_wp2_with (at_builtin;refine ku7 _ rfl _ _ 24 9 rfl rfl rfl AP.out ?_)
    intro v4 w4 hr4 hb4
    have HR4:=hid hr4
    have HB4:=hid hb4
    clear hr4 hb4 HR3 HB3
    go_wp2
    go_roundw
    ·exact⟨k+1,by omega,by simp,by rw[HS.out];exact HR4.out,HB4.out⟩
    ·simp[RowKit.intOf];omega
   ·rw[show tf7 bs n=bs++itoa n by unfold tf7;rw[if_neg hp]]at hsucc
    have HS:=hid hsucc
    clear hsucc
    go_wp2_with (go_at_call 64;refine (dvb7 hwk _).mono ?_)
    rintro e w3 ⟨rfl,hb3⟩
    have HR3:=hid (HR.out.below hb3)
    have HB3:=hid (pa7 HB.out hb3)
    clear hb3 HR HB
    have AP:=hid (fxb7 HR3.out HB3.out hwk (by omega))
    go_wp2_with (at_builtin;refine ku7 _ rfl _ _ 24 9 rfl rfl rfl AP.out ?_)
    intro v4 w4 hr4 hb4
    have HR4:=hid hr4
    have HB4:=hid hb4
    clear hr4 hb4 HR3 HB3
    go_wp2
    go_roundw
    ·exact⟨k+1,by omega,by simp,by rw[HS.out];exact HR4.out,HB4.out⟩
    ·simp[RowKit.intOf];omega
  ·obtain rfl:k=l.length:=by omega
   have hbs:lnS nm (l.take l.length)=lnS nm l:=by rw[List.take_length]
   rw[hbs]at HR hln ⊢
   clear hbs
   have AP:=hid (vub7 HR.out HB.out 10 rfl hln)
   go_wp2_with (at_builtin;refine ku7 _ rfl _ _ 24 24 rfl rfl rfl AP.out ?_)
   intro v2 w2 hr2 hb2
   have HB2:=hid hb2
   have hcv:=kbc7 hr2
   clear hr2 hb2 HR HB
   go_wp2
   go_ret
   exact⟨rfl,HB2.out⟩
end Go.Proofs.YtedahhjopmkbbaaGreat
namespace Go.Proofs.YtedahhjopmkbbaaGreat
open Go.RowKit Go.Lib
def yvb7 (o:Option Nat):Value:=match o with
 | some n=>.tuple #[.int .i64 n,.bool true]
 | none=>.tuple #[.int .i64 0,.bool false]
instance (l:List UInt8):Decidable (canon l):=by unfold canon;infer_instance
theorem ix7 (s:List UInt8):se7 s=if s.length≤16∧canon s∧(∀c∈s,dh7 c)∧gm7 s≤1000000000000000 then some (gm7 s) else none:=by
 unfold se7
 by_cases h:s.length≤16∧canon s∧(∀c∈s,dh7 c)∧gm7 s≤1000000000000000
 ·rw[if_pos h,if_pos ⟨h.1,h.2.2.1,lgc7 s h.2.2.1 h.2.1,h.2.2.2⟩]
 ·rw[if_neg h,if_neg (fun h2=>h ⟨h2.1,by rw[← h2.2.2.1];exact rxb7 _,h2.2.1,h2.2.2.2⟩)]
theorem uvb7 {s:List UInt8}(ha:∀c∈s,c.toNat<128) {pos:Nat}(h:pos<s.length):Utf8.decode (S s) pos=((s.getD pos 0).toNat,1):=by
 have h2:pos<(S s).size:=h
 have e:(S s)[pos]'h2=s.getD pos 0:=by
  rw[List.getD_eq_getElem?_getD,List.getElem?_eq_getElem h];rfl
 rw[decode_ascii (S s) pos h2 (by rw[e,List.getD_eq_getElem?_getD,List.getElem?_eq_getElem h];exact ha _ (List.getElem_mem h)),e]
theorem qpb7 {s:List UInt8}(h:¬(s.length≤16∧canon s∧(∀c∈s,dh7 c)∧gm7 s≤1000000000000000)):yvb7 (se7 s) = .tuple #[.int .i64 0,.bool false]:=by
 rw[ix7,if_neg h];rfl
theorem kdc7 {s:List UInt8}(ha:∀c∈s,c.toNat<128) (w:World) :
  Calls Tryz.prog 59 #[.string (S s)] w fun e w'=>e = .returned (yvb7 (se7 s))∧Below w.heap.size w w':=by
 have HA:=hid ha
 have HN:=hid (qpb7 (s:=s))
 obtain⟨r,hr⟩:∃r,r=yvb7 (se7 s):=⟨_,rfl⟩
 have HR:=hid hr
 rw[← hr]
 clear hr ha
 have hsz:(S s).size=s.length:=rfl
 have HB:=hid (show ∀h:0<(S s).size,(S s)[0]'h=s.getD 0 0 from fun h=>by
  rw[List.getD_eq_getElem?_getD,List.getElem?_eq_getElem h];rfl)
 go_enter Tryz.func59,Tryz.ntmps59
 go_wp2
 all_goals first
  | (refine bodyPost_ret (results_tmp2 rfl _ _ _) rfl ⟨?_,Below.refl _ _⟩;refine congrArg Ending.returned ?_;rw[HR.out];refine (HN.out fun h=>?_).symm)
  | skip
 ·rename_i e;exact h.2.1.1 e
 ·rename_i e5 e4 e3 e2 e1
  rcases e1 with (e1 | e1) | e1
  ·have e7:(s.length:Int)=0:=beq_iff_eq.1 e1;omega
  ·omega
  ·refine h.2.1.2 (by omega) ?_
   rw[← HB.out e2]
   have e6:(((S s)[0]'e2).toNat:Int)=48:=by simpa using e1
   rw[msb7];exact e6
 ·rename_i e5 e4 e3 e2 e1 K ak
  have hcan:canon s:=⟨e5,fun _ h=>by
   have e6:=e1.2
   rw[HB.out e2,h]at e6
   exact absurd e6 (by decide)⟩
  have HCAN:=hid hcan
  have h16:s.length≤16:=by omega
  have H16:=hid h16
  clear hcan h16
  go_loopw [4] (fun nv wr=>∃pos:Nat,pos≤s.length∧zib7 s pos∧nv = .int .i64 (gm7 (s.take pos))∧wr=w.iter (S s) pos) (fun _ wr=>s.length-wr.iterPos w.heap.size)
  case atStart=>exact⟨0,Nat.zero_le _,fun _ h=>absurd h (Nat.not_lt_zero _),rfl,rfl⟩
  case round =>
   obtain⟨pos,hp,hd,rfl,rfl⟩:=hrel
   have hv:=ynb7 pos hp hd
   have hv2:10 ^ pos≤10 ^ 16:=Nat.pow_le_pow_right (by omega) (by have:=H16.out;omega)
   have h1016:10 ^ 16=10000000000000000:=by decide
   have hvb:gm7 (s.take pos)≤10000000000000000:=by omega
   have HT:=hid (fun h:pos<s.length=>du7 h)
   have HD:=hid hd
   have HV:=hid (show pos=s.length→gm7 s=gm7 (s.take pos) from fun e=>by rw[e,List.take_length])
   obtain⟨n,hn⟩:∃n,n=gm7 (s.take pos):=⟨_,rfl⟩
   have HN2:=hid hn
   rw[← hn]at hvb ⊢
   clear hv hv2 h1016 hd hn
   by_cases hlt:pos<s.length
   ·obtain⟨c,hc⟩:∃c,c=(s.getD pos 0).toNat:=⟨_,rfl⟩
    have hnx:∀ty,(Instr.next (.pointer (some ⟨w.heap.size,0,none⟩)) true ty).run Tryz.prog (w.iter (S s) pos) = .ok (.tuple #[.bool true,.int .i64 pos,.int .i32 c]) (w.iter (S s) (pos+1)):=fun ty=>by
     have:=run_next_any (P:=Tryz.prog) w (S s) pos ty hlt
     rw[uvb7 HA.out hlt,← hc]at this
     exact this
    have hc8:c<256:=by rw[hc];exact (s.getD pos 0).toNat_lt
    have HCC:=hid hc
    have hnd:¬(48≤c∧c≤57)→r = .tuple #[.int .i64 0,.bool false]:=fun h=>by
     rw[HR.out]
     refine HN.out fun h3=>h ?_
     have:=h3.2.2.1 (s.getD pos 0) (by rw[List.getD_eq_getElem?_getD,List.getElem?_eq_getElem hlt];exact List.getElem_mem hlt)
     rw[hc];exact this
    have HND:=hid hnd
    clear hc hnd
    by_cases hdig:48≤c∧c≤57
    ·have g1:¬(c:Int)<48:=by omega
     have g2:¬(57:Int)<(c:Int):=by omega
     go_wp2
     go_roundw
     case rel =>
      refine⟨pos+1,hlt,nr7 HD.out (by unfold dh7;rw[← HCC.out];exact hdig), ?_,rfl⟩
      rw[HT.out hlt,← HN2.out,vbc7,← HCC.out]
      exact congrArg (Value.int .i64) (by omega)
     case measure =>
      simp
      omega
    ·have HDG:=hid hdig
     clear hdig
     go_wp2
     all_goals first
      | (refine bodyPost_ret (results_tmp2 rfl _ _ _) rfl ⟨?_,(Below.refl _ _).alloc (Nat.le_refl _) _⟩;exact congrArg Ending.returned (HND.out HDG.out).symm)
      | (exfalso;have hdg:=HDG.out;omega)
   ·have hnx:∀ty,(Instr.next (.pointer (some ⟨w.heap.size,0,none⟩)) true ty).run Tryz.prog (w.iter (S s) pos)=_:=fun ty=>run_next_end w (S s) pos ty hlt
    have hpe:pos=s.length:=by omega
    have HPE:=hid hpe
    have hr1:n≤1000000000000000→r = .tuple #[.int .i64 n,.bool true]:=fun h=>by
     have hv:=HV.out HPE.out
     have hd2:=HD.out
     rw[HPE.out]at hd2
     rw[HR.out,ix7,if_pos ⟨H16.out,HCAN.out,xw7 hd2,by rw[hv,← HN2.out];exact h⟩,hv,← HN2.out];rfl
    have hr2:¬n≤1000000000000000→r = .tuple #[.int .i64 0,.bool false]:=fun h=>by
     have hv:=HV.out HPE.out
     rw[HR.out]
     refine HN.out fun h3=>h ?_
     rw[HN2.out,← hv];exact h3.2.2.2
    have HR1:=hid hr1
    have HR2:=hid hr2
    clear hr1 hr2 hpe
    go_wp2
    all_goals
     refine bodyPost_ret (results_tmp2 rfl _ _ _) rfl ⟨?_,(Below.refl _ _).alloc (Nat.le_refl _) _⟩
    ·exact congrArg Ending.returned (HR2.out (by omega)).symm
    ·exact congrArg Ending.returned (HR1.out (by omega)).symm
 ·rename_i e4 e3 e2 e1
  rcases e2 with e2 | e2
  ·have e7:(s.length:Int)=0:=beq_iff_eq.1 e2
   exact e4 (List.length_eq_zero_iff.1 (by omega))
  ·omega
 ·rename_i e4 e3 e2 K ak e1
  have hcan:canon s:=⟨e4,fun h=>absurd h (by omega)⟩
  have HCAN:=hid hcan
  have h16:s.length≤16:=by omega
  have H16:=hid h16
  clear hcan h16
  go_loopw [4] (fun nv wr=>∃pos:Nat,pos≤s.length∧zib7 s pos∧nv = .int .i64 (gm7 (s.take pos))∧wr=w.iter (S s) pos) (fun _ wr=>s.length-wr.iterPos w.heap.size)
  case atStart=>exact⟨0,Nat.zero_le _,fun _ h=>absurd h (Nat.not_lt_zero _),rfl,rfl⟩
  case round =>
   obtain⟨pos,hp,hd,rfl,rfl⟩:=hrel
   have hv:=ynb7 pos hp hd
   have hv2:10 ^ pos≤10 ^ 16:=Nat.pow_le_pow_right (by omega) (by have:=H16.out;omega)
   have h1016:10 ^ 16=10000000000000000:=by decide
   have hvb:gm7 (s.take pos)≤10000000000000000:=by omega
   have HT:=hid (fun h:pos<s.length=>du7 h)
   have HD:=hid hd
   have HV:=hid (show pos=s.length→gm7 s=gm7 (s.take pos) from fun e=>by rw[e,List.take_length])
   obtain⟨n,hn⟩:∃n,n=gm7 (s.take pos):=⟨_,rfl⟩
   have HN2:=hid hn
   rw[← hn]at hvb ⊢
   clear hv hv2 h1016 hd hn
   by_cases hlt:pos<s.length
   ·obtain⟨c,hc⟩:∃c,c=(s.getD pos 0).toNat:=⟨_,rfl⟩
    have hnx:∀ty,(Instr.next (.pointer (some ⟨w.heap.size,0,none⟩)) true ty).run Tryz.prog (w.iter (S s) pos) = .ok (.tuple #[.bool true,.int .i64 pos,.int .i32 c]) (w.iter (S s) (pos+1)):=fun ty=>by
     have:=run_next_any (P:=Tryz.prog) w (S s) pos ty hlt
     rw[uvb7 HA.out hlt,← hc]at this
     exact this
    have hc8:c<256:=by rw[hc];exact (s.getD pos 0).toNat_lt
    have HCC:=hid hc
    have hnd:¬(48≤c∧c≤57)→r = .tuple #[.int .i64 0,.bool false]:=fun h=>by
     rw[HR.out]
     refine HN.out fun h3=>h ?_
     have:=h3.2.2.1 (s.getD pos 0) (by rw[List.getD_eq_getElem?_getD,List.getElem?_eq_getElem hlt];exact List.getElem_mem hlt)
     rw[hc];exact this
    have HND:=hid hnd
    clear hc hnd
    by_cases hdig:48≤c∧c≤57
    ·have g1:¬(c:Int)<48:=by omega
     have g2:¬(57:Int)<(c:Int):=by omega
     go_wp2
     go_roundw
     case rel =>
      refine⟨pos+1,hlt,nr7 HD.out (by unfold dh7;rw[← HCC.out];exact hdig), ?_,rfl⟩
      rw[HT.out hlt,← HN2.out,vbc7,← HCC.out]
      exact congrArg (Value.int .i64) (by omega)
     case measure =>
      simp
      omega
    ·have HDG:=hid hdig
     clear hdig
     go_wp2
     all_goals first
      | (refine bodyPost_ret (results_tmp2 rfl _ _ _) rfl ⟨?_,(Below.refl _ _).alloc (Nat.le_refl _) _⟩;exact congrArg Ending.returned (HND.out HDG.out).symm)
      | (exfalso;have hdg:=HDG.out;omega)
   ·have hnx:∀ty,(Instr.next (.pointer (some ⟨w.heap.size,0,none⟩)) true ty).run Tryz.prog (w.iter (S s) pos)=_:=fun ty=>run_next_end w (S s) pos ty hlt
    have hpe:pos=s.length:=by omega
    have HPE:=hid hpe
    have hr1:n≤1000000000000000→r = .tuple #[.int .i64 n,.bool true]:=fun h=>by
     have hv:=HV.out HPE.out
     have hd2:=HD.out
     rw[HPE.out]at hd2
     rw[HR.out,ix7,if_pos ⟨H16.out,HCAN.out,xw7 hd2,by rw[hv,← HN2.out];exact h⟩,hv,← HN2.out];rfl
    have hr2:¬n≤1000000000000000→r = .tuple #[.int .i64 0,.bool false]:=fun h=>by
     have hv:=HV.out HPE.out
     rw[HR.out]
     refine HN.out fun h3=>h ?_
     rw[HN2.out,← hv];exact h3.2.2.2
    have HR1:=hid hr1
    have HR2:=hid hr2
    clear hr1 hr2 hpe
    go_wp2
    all_goals
     refine bodyPost_ret (results_tmp2 rfl _ _ _) rfl ⟨?_,(Below.refl _ _).alloc (Nat.le_refl _) _⟩
    ·exact congrArg Ending.returned (HR2.out (by omega)).symm
    ·exact congrArg Ending.returned (HR1.out (by omega)).symm
 ·omega
end Go.Proofs.YtedahhjopmkbbaaGreat
namespace Go.Proofs.YtedahhjopmkbbaaGreat
open Go.RowKit
theorem pnb7:∃j,Tryz.prog.info? 106=some j∧j.size=2:=by
 obtain⟨j,hj,hs⟩:=Option.map_eq_some_iff.1 (show (Tryz.prog.info? 106).map (·.size)=some 2 by kernel_rfl)
 exact⟨j,hj,hs⟩
theorem zcc7 (b:Nat) (w:World) (h0:w.cell? ⟨b,0,none⟩=some (.pointer (some ⟨b,0,none⟩))) :
  Calls Tryz.prog 63 #[.pointer (some ⟨b,0,none⟩)] w fun e w'=>e = .returned (.tuple #[])∧w'=w:=by
 obtain⟨j,hj,hjs⟩:=pnb7
 go_enter Tryz.func63,Tryz.ntmps63
 go_wp2
 rw[Lib.run_neq_ptr_same w _ Tryz.underlying104 hj]
 go_wp2
 go_end0
 exact⟨rfl,rfl⟩
theorem izb7 (b:Nat) (w:World) (h0:w.cell? ⟨b,0,none⟩=some (.pointer none)) (hsh:w.shape? b=some (106,2)) (hfz:w.frozen? ⟨b,0,none⟩=false) :
  Calls Tryz.prog 63 #[.pointer (some ⟨b,0,none⟩)] w fun e w'=>e = .returned (.tuple #[])∧w'=w.setCell ⟨b,0,none⟩ (.pointer (some ⟨b,0,none⟩)):=by
 obtain⟨j,hj,hjs⟩:=pnb7
 go_enter Tryz.func63,Tryz.ntmps63
 go_wp2
 rw[Lib.run_to_unsafe w ⟨b,0,none⟩ Tryz.underlying104 Tryz.underlying164 hj (by rw[hjs];decide) hsh (Nat.zero_lt_succ 1)]
 simp only[Result.andThen]
 rw[Oper.upon_value]
 go_wp2
 rw[run_callFunc_extern Tryz.func74 (by kernel_rfl) (by kernel_rfl) (by kernel_rfl) (e:=Extern.AbiNoEscape.same) (by kernel_rfl)]
 rw[Lib.run_noEscape]
 simp only[Result.andThen]
 rw[Oper.upon_value]
 go_wp2
 rw[Lib.run_from_unsafe w ⟨b,0,none⟩ Tryz.underlying164 Tryz.underlying104 hj hsh (by kernel_rfl)]
 simp only[Result.andThen]
 rw[Oper.upon_value]
 go_wp2
 go_end0
 exact⟨rfl,rfl⟩
section
variable (ws:List (List UInt8×Nat))
def so7 (most:Int) (s:Stt):Int×Stt:=jbb7 ws s.1 s.2 most
def tbb7 (w:List UInt8) (s:Stt):Stt:=tr7 ws s.1 s.2 w
def gj7 (a:(List ba7×List Int)×Stt):(List ba7×List Int)×Stt :=
 ((a.1.1++[⟨(so7 ws 11 a.2).1,(so7 ws 1000000000 (so7 ws 11 a.2).2).1⟩],a.1.2++[(so7 ws 1000000000 (so7 ws 1000000000 (so7 ws 11 a.2).2).2).1]),(so7 ws 1000000000 (so7 ws 1000000000 (so7 ws 11 a.2).2).2).2)
def oh7 (s:Stt):(List ba7×List Int)×Stt:=rep (gj7 ws) (so7 ws 12 s).1.toNat (([],[]),(so7 ws 12 s).2)
def hc7 (a:(List (List ba7)×List (List Int))×Stt):(List (List ba7)×List (List Int))×Stt :=
 ((a.1.1++[(oh7 ws a.2).1.1],a.1.2++[(oh7 ws a.2).1.2]),(oh7 ws a.2).2)
def mr7 (a:(List Int×List Int)×Stt):(List Int×List Int)×Stt :=
 ((a.1.1++[(so7 ws 47 a.2).1],a.1.2++[(so7 ws 1000000000 (so7 ws 47 a.2).2).1]),(so7 ws 1000000000 (so7 ws 47 a.2).2).2)
def et7 (s:Stt):(List Int×List Int)×Stt:=rep (mr7 ws) (so7 ws 48 s).1.toNat (([],[]),(so7 ws 48 s).2)
def rd7 (a:(List ga7×List ka7)×Stt):(List ga7×List ka7)×Stt :=
 let s:=so7 ws 11 a.2
 let o:=so7 ws 1000000000 s.2
 let l:=et7 ws o.2
 let b:=so7 ws 1000000000 l.2
 ((a.1.1++[⟨s.1,l.1.1⟩],a.1.2++[⟨o.1,l.1.2,b.1⟩]),b.2)
def jv7:zd7×Stt :=
 let c:=so7 ws 1000000000000000 (tbb7 ws [112,108,97,110] (0,0))
 let n:=so7 ws 60 (tbb7 ws [116,114,117,99,107,115] c.2)
 let T:=rep (hc7 ws) n.1.toNat (([],[]),n.2)
 let m:=so7 ws 60 (tbb7 ws [98,105,107,101,115] T.2)
 let B:=rep (rd7 ws) m.1.toNat (([],[]),m.2)
 (⟨⟨T.1.1,B.1.1⟩,⟨T.1.2,B.1.2⟩,c.1⟩,tbb7 ws [101,110,100] B.2)
theorem kn7 {A α:Type}{f:(A×α)×Stt→(A×α)×Stt}{h:α×Stt→α×Stt}(hf:∀a l s,f ((a,l),s)=((a,(h (l,s)).1),(h (l,s)).2)):∀n a l s,rep f n ((a,l),s)=((a,(rep h n (l,s)).1),(rep h n (l,s)).2)
 | 0,_,_,_=>rfl
 | n+1,a,l,s=>by
  show rep f n (f ((a,l),s))=_
  rw[hf]
  exact kn7 hf n a _ _
theorem okb7 (A:Type) (a:A) (l:List ba7×List Int) (s:Stt):(emb7 ws A).f ((a,l),s)=((a,(gj7 ws (l,s)).1),(gj7 ws (l,s)).2):=rfl
theorem vhb7 (A:Type) (a:A) (l:List (List ba7)×List (List Int)) (s:Stt):(aw7 ws A).f ((a,l),s)=((a,(hc7 ws (l,s)).1),(hc7 ws (l,s)).2):=by
 simp only[aw7,Rd.seq,Rd.num,Rd.map,Rd.rep]
 rw[kn7 (okb7 ws _)]
 rfl
theorem akb7 (A:Type) (a:A) (l:List Int×List Int) (s:Stt):(zmb7 ws A).f ((a,l),s)=((a,(mr7 ws (l,s)).1),(mr7 ws (l,s)).2):=rfl
theorem oib7 (A:Type) (a:A) (l:List ga7×List ka7) (s:Stt):(phb7 ws A).f ((a,l),s)=((a,(rd7 ws (l,s)).1),(rd7 ws (l,s)).2):=by
 simp only[phb7,Rd.seq,Rd.num,Rd.map,Rd.rep]
 rw[kn7 (akb7 ws _)]
 rfl
theorem llb7:(ql7 ws).f ((),(0,0))=jv7 ws:=by
 simp only[ql7,Rd.seq,Rd.num,Rd.map,Rd.must,Rd.rep]
 rw[kn7 (vhb7 ws _)]
 simp only
 rw[kn7 (oib7 ws _)]
 rfl
end
end Go.Proofs.YtedahhjopmkbbaaGreat
