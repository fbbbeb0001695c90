/- Texts of the proof, joined: EarlyD, Cut, Clone64, PileT. -/
import Derived.BigQuiet
import Derived.BigRegion
import Derived.Deep.RegionWith
import Derived.Test.YtabadfkikdefeaaGreatClockK
import Derived.Test.YtabadfkikdefeaaGreatHeap
set_option linter.all false
set_option maxRecDepth 100000
set_option maxHeartbeats 6400000
namespace Go.Proofs.YtabadfkikdefeaaGreat
open Go.RowKit
theorem jq7 {x:ba7}:∀(t:List ea7) (st:SnT),(t.foldl (xg7 x) st).l.length=st.l.length+t.length
 | [],_=>rfl
 | s::t,st=>by rw[List.foldl_cons,jq7 t];simp[xg7];omega
theorem wm7 {x:ba7}:∀(l:List (List ea7)) (a:SnA),(l.foldl (og7 x) a).ts.map List.length=a.ts.map List.length++l.map List.length
 | [],a=>by simp
 | t::l,a=>by
  rw[List.foldl_cons,wm7 l]
  simp only[og7,hn7,List.map_append,List.map_cons,List.map_nil,List.append_assoc]
  rw[jq7];simp
theorem fr7 {x:ba7}:∀(t:List Int) (st:SnB),(t.foldl (yf7 x) st).starts.length=st.starts.length+t.length
 | [],_=>rfl
 | s::t,st=>by rw[List.foldl_cons,fr7 t];simp[yf7];omega
theorem oz7 (x:ba7) (p:ab7):(eb7 x p).trucks.map List.length=p.trucks.map List.length:=by
 unfold eb7 tn7
 rw[wm7];rfl
theorem ww7 (x:ba7) (p:ab7):(eb7 x p).trucks.length=p.trucks.length:=by
 have:=congrArg List.length (oz7 x p)
 simpa using this
theorem qsb7 (x:ba7) (p:ab7) {k:Nat}(h:k<p.trucks.length) (h':k<(eb7 x p).trucks.length):(eb7 x p).trucks[k].length=p.trucks[k].length:=by
 have:=congrArg (fun l:List Nat=>l[k]?) (oz7 x p)
 simpa[List.getElem?_eq_getElem h,List.getElem?_eq_getElem h']using this
theorem xv7 (x:ba7) (p:ab7):(eb7 x p).bikes.length=p.bikes.length:=by simp[eb7]
theorem etb7 (x:ba7) (p:ab7) {k:Nat}(h:k<p.bikes.length) (h':k<(eb7 x p).bikes.length):(eb7 x p).bikes[k].starts.length=p.bikes[k].stops.length:=by
 simp only[eb7,List.getElem_map,in7,od7]
 rw[fr7];simp
theorem ch7.hi {x:ba7}{d:DrS}{ts ready:List Int}(h:ch7 x d ts ready):∀n i,i≤n→ts.getD i 0≤1000000000+i*1099511627776
 | n,i,hin=>by
  have hl:=h.len
  obtain⟨h1,h2,h3,h4⟩:=gq7.1 h.late
  by_cases hi:i<d.fr.length
  ·rcases h4 i hi with e | ⟨a,ha,e1,e2⟩
   ·rw[e,List.getD_eq_getElem?_getD,List.getElem?_eq_getElem hi,Option.getD_some]
    have:=(h.frB _ (List.getElem_mem hi)).2
    omega
   ·obtain⟨g1,g2,g3,g4⟩:=h.arc a ha
    cases n with
    | zero=>omega
    | succ n =>
     have:=h.hi n a.frm (by omega)
     rw[e2]
     have hh:((a.frm:Nat):Int)+1≤i:=by omega
     omega
  ·rw[List.getD_eq_getElem?_getD,List.getElem?_eq_none (by omega),Option.getD_none];omega
theorem ch7.wf {x:ba7}{d:DrS}{ts ready:List Int}(h:ch7 x d ts ready) (hl:d.fr.length≤20000):∀v∈ts,0≤v∧v≤30000000000000000:=by
 intro v hv
 obtain⟨i,hi,rfl⟩:=List.getElem_of_mem hv
 have h1:=h.tsB i
 have h2:=h.hi i i (Nat.le_refl _)
 have h3:=h.len
 rw[List.getD_eq_getElem?_getD,List.getElem?_eq_getElem hi,Option.getD_some]at h1 h2
 omega
theorem uqb7 {w:World}{F:Nat→Prop}{g c:Nat}{d A m B:List Int}(h:Row w g 2 (d.map ib7)) (hd:d=A++m++B) (hw:∀v∈d,za7 v) (hF:F g) (hc:m.length≤c) (hm:c≤1000000):(ia7 hf7).rep w F m [.slice (some ⟨g,A.length,none⟩) m.length c]:=by
 subst hd
 refine⟨some ⟨g,A.length,none⟩,g,A.length,c,rfl,hc,by unfold maxLen;omega,fun _=>⟨rfl,hF⟩,fun i hi=>⟨[.int .i64 m[i]],⟨rfl,hw _ (by simp)⟩,fun j hj=>?_⟩⟩
 have hj0:j=0:=by simpa[hf7,xc7]using hj
 subst hj0
 have:=h.cell (j:=A.length+i) (by simp;omega)
 simp only[hf7,xc7,Nat.mul_one,Nat.add_zero]
 rw[this]
 simp[ib7,List.getElem_append_left,List.getElem_append_right,hi]
def icb7 (g:Nat):Nat→List (List Int)→List Value
 | _,[]=>[]
 | o,m::ms=>.slice (some ⟨g,o,none⟩) m.length m.length::icb7 g (o+m.length) ms
theorem ilb7 (g:Nat):∀(ms:List (List Int)) (o:Nat),(icb7 g o ms).length=ms.length
 | [],_=>rfl
 | m::ms,o=>by simp only[icb7,List.length_cons,ilb7 g ms]
theorem qcb7 (g:Nat):∀(ms:List (List Int)) (o:Nat) (m:List Int),icb7 g o (ms++[m])=icb7 g o ms++[.slice (some ⟨g,o+ms.flatten.length,none⟩) m.length m.length]
 | [],o,m=>by simp[icb7]
 | n::ms,o,m=>by
  simp only[List.cons_append,icb7,qcb7 g ms,List.flatten_cons,List.length_append,Nat.add_assoc]
theorem dmb7 (g:Nat):∀(ms:List (List Int)) (o k:Nat) (h:k<ms.length) (h':k<(icb7 g o ms).length),(icb7 g o ms)[k] = .slice (some ⟨g,o+(ms.take k).flatten.length,none⟩) ms[k].length ms[k].length
 | m::ms,o,0,_,_=>rfl
 | m::ms,o,k+1,h,h'=>by
  simp only[icb7,List.getElem_cons_succ,List.take_succ_cons,List.flatten_cons,List.length_append]
  rw[dmb7 g ms (o+m.length) k (by simpa using h)]
  simp only[Nat.add_assoc]
theorem ms7 {α:Type}:∀(ms:List (List α)) (k:Nat) (h:k<ms.length),ms.flatten=(ms.take k).flatten++ms[k]++(ms.drop (k+1)).flatten
 | m::ms,0,_=>by simp
 | m::ms,k+1,h=>by
  have:=ms7 ms k (by simpa using h)
  simp only[List.flatten_cons,List.take_succ_cons,List.getElem_cons_succ,List.drop_succ_cons,this,List.append_assoc]
theorem pdc7 {w:World}{B TR g:Nat}{v:Value}{ms:List (List Int)}{d R:List Int}(ho:w.ownsRow B TR 1 v ms.length (icb7 g 0 ms)) (h:Row w g 2 (d.map ib7)) (hd:d=ms.flatten++R) (hw:∀u∈d,za7 u) (hB:B≤g) (hl:d.length≤1000000):sh7.rep w (fun b=>B≤b) ms [v]:=by
 rcases ho.2 with ⟨rfl,hn⟩ | ⟨g',cap,cur,rfl,hg,hh,hn1,hc,hsz,ht⟩
 ·have:ms=[]:=List.eq_nil_of_length_eq_zero hn
  subst this
  exact fh7 _ _ _
 ·have hR:Row w g' TR (icb7 g 0 ms):=⟨cur,cur.toList.drop (ms.length*1),hh,by rw[← ht,List.take_append_drop]⟩
  have e:((icb7 g 0 ms).map fun u=>[u]).flatten=icb7 g 0 ms:=by
   induction icb7 g 0 ms with
   | nil=>rfl
   | cons a l ih=>simp only[List.map_cons,List.flatten_cons,ih,List.cons_append,List.nil_append]
  refine or7 (S:=ia7 hf7) (T:=TR) ((icb7 g 0 ms).map fun u=>[u]) (by simp[ilb7]) (fun u hu=>?_) (fun i h1 h2=>?_) (by rw[e];exact hR) hn1 hc hg
  ·obtain⟨_,_,rfl⟩:=List.mem_map.1 hu;rfl
  ·rw[List.getElem_map,dmb7 g ms 0 i h1,Nat.zero_add]
   have hs:=ms7 ms i h1
   have hlm:ms[i].length≤1000000:=by
    have:=congrArg List.length hs
    rw[hd]at hl
    simp only[List.length_append]at this hl
    omega
   exact uqb7 (A:=(ms.take i).flatten) (B:=(ms.drop (i+1)).flatten++R) h (by rw[hd,hs];simp only[List.append_assoc]) hw hB (Nat.le_refl _) hlm
def um7:List qa7→List Value→List Value
 | r::out,u::vs=>.int .i64 r.out::u :: .int .i64 r.back::um7 out vs
 | _,_=>[]
theorem ax7:∀(out:List qa7) (vs:List Value) (r:qa7) (u:Value),vs.length=out.length→um7 (out++[r]) (vs++[u])=um7 out vs++[.int .i64 r.out,u,.int .i64 r.back]
 | [],[],_,_,_=>rfl
 | a::out,v::vs,b,u,h=>by
  have:=ax7 out vs b u (by simpa using h)
  simp only[List.cons_append,um7,this]
 | [],_::_,_,_,h=>by cases h
 | _::_,[],_,_,h=>by cases h
structure xx7 (TR TI:Nat) (w:World) (B:Nat) (v:Value) (out:List qa7) (vs:List Value):Prop where
 own:w.ownsRow B TR 3 v out.length (um7 out vs)
 len:vs.length=out.length
 rows:∀i (h:i<out.length) (h':i<vs.length),w.ownsRow B TI 1 vs[i] out[i].starts.length (out[i].starts.map ib7)
theorem xx7.nil (TR TI:Nat) (w:World) (B:Nat):xx7 TR TI w B (.slice none 0 0) [] [] :=
 ⟨World.ownsRow_nil _ _ _ _,rfl,fun _ h=>absurd h (Nat.not_lt_zero _)⟩
theorem xx7.below {TR TI:Nat}{w w':World}{B:Nat}{v:Value}{out:List qa7}{vs:List Value}(h:xx7 TR TI w B v out vs) (hb:Below w.heap.size w w'):xx7 TR TI w' B v out vs :=
 ⟨oa7 h.own hb,h.len,fun i h1 h2=>oa7 (h.rows i h1 h2) hb⟩
theorem xx7.keptSet {TR TI TP:Nat}{w:World}{B p j:Nat}{v u:Value}{cs:List Value}{out:List qa7}{vs:List Value}(h:xx7 TR TI w B v out vs) (hr:Row w p TP cs) (h1:TP≠TR) (h2:TP≠TI):xx7 TR TI (w.setCell ⟨p,j,none⟩ u) B v out vs :=
 ⟨la7 h.own hr h1 j u,h.len,fun i k1 k2=>la7 (h.rows i k1 k2) hr h2 j u⟩
theorem xx7.push {TR TI:Nat}{w w':World}{B:Nat}{v v' u:Value}{out:List qa7}{vs:List Value}{r:qa7}(h:xx7 TR TI w B v out vs) (hne:TI≠TR) (hg:w.grownBy w' v.ownBlock)
  (ho:w'.ownsRow B TR 3 v' (out.length+1) (um7 out vs++[.int .i64 r.out,u,.int .i64 r.back])) (hu:w.ownsRow B TI 1 u r.starts.length (r.starts.map ib7)):xx7 TR TI w' B v' (out++[r]) (vs++[u]):=by
 refine⟨by rw[ax7 _ _ _ _ h.len,List.length_append];exact ho,by simp[h.len],fun i h1 h2=>?_⟩
 by_cases hl:i<out.length
 ·have hl':i<vs.length:=by rw[h.len];exact hl
  rw[List.getElem_append_left hl',List.getElem_append_left hl]
  exact (h.rows i hl hl').kept hg (fb7 (h.rows i hl hl') h.own hne)
 ·have:i=out.length:=by simp at h1;omega
  subst this
  have e1:(vs++[u])[out.length]'h2=u:=by rw[List.getElem_append_right (by rw[h.len];exact Nat.le_refl _)];simp[h.len]
  have e2:(out++[r])[out.length]'h1=r:=by rw[List.getElem_append_right (Nat.le_refl _)];simp
  rw[e1,e2]
  exact hu.kept hg (fb7 hu h.own hne)
theorem xx7.rep {TR TI:Nat}{w:World}{B:Nat}{v:Value}{out:List qa7}{vs:List Value}(h:xx7 TR TI w B v out vs) (hw:∀r∈out,za7 r.out∧za7 r.back∧∀s∈r.starts,za7 s):iz7.rep w (fun b=>B≤b) out [v]:=by
 have hr:∀i (h1:i<out.length) (h2:i<vs.length),iy7.rep w (fun b=>B≤b) out[i] [.int .i64 out[i].out,vs[i],.int .i64 out[i].back]:=fun i h1 h2 =>
  ⟨vs[i],rfl,(hw _ (List.getElem_mem h1)).1,(hw _ (List.getElem_mem h1)).2.1,kk7 (h.rows i h1 h2) (hw _ (List.getElem_mem h1)).2.2⟩
 rcases h.own.2 with ⟨rfl,hn⟩ | ⟨g,cap,cur,rfl,hg,hh,hn1,hc,hsz,ht⟩
 ·have:out=[]:=List.eq_nil_of_length_eq_zero hn
  subst this
  exact fh7 _ _ _
 ·have hR:Row w g TR (um7 out vs):=⟨cur,cur.toList.drop (out.length*3),hh,by rw[← ht,List.take_append_drop]⟩
  refine or7 (S:=iy7) (T:=TR) (List.zipWith (fun (r:qa7) u=>[.int .i64 r.out,u,.int .i64 r.back]) out vs) (by simp[h.len]) (fun v hv=>?_) (fun i h1 h2=>?_) ?_ hn1 hc hg
  ·obtain⟨i,hi,rfl⟩:=List.getElem_of_mem hv
   simp only[List.getElem_zipWith];rfl
  ·rw[List.getElem_zipWith];exact hr i h1 _
  ·have:∀(out:List qa7) (vs:List Value),(List.zipWith (fun (r:qa7) u=>[Value.int .i64 r.out,u,.int .i64 r.back]) out vs).flatten=um7 out vs:=by
    intro out
    induction out with
    | nil=>intro vs;simp[um7]
    | cons a l ih =>
     intro vs
     cases vs with
     | nil=>simp[um7]
     | cons v vs=>simp[um7,ih]
   rw[this];exact hR
def hgb7 (x:ba7) (p:ab7) (k:Nat):Nat:=((eb7 x p).trucks.take k).flatten.length
def nz7 (x:ba7) (p:ab7) (k:Nat):Nat:=(eb7 x p).trucks.flatten.length+(((eb7 x p).bikes.take k).flatMap cj7).length
theorem dr7 {α:Type}{l:List α}{k:Nat}(h:k<l.length):l.take (k+1)=l.take k++[l[k]]:=List.take_succ_eq_append_getElem h
theorem mdb7 {x:ba7}{p:ab7}{k:Nat}(h:k<p.trucks.length):hgb7 x p (k+1)=hgb7 x p k+p.trucks[k].length:=by
 have h':k<(eb7 x p).trucks.length:=by rw[ww7];exact h
 unfold hgb7
 rw[dr7 h',List.flatten_append,List.length_append,← qsb7 x p h h']
 simp
theorem mrb7 (r:qa7):(cj7 r).length=r.starts.length+2:=by simp[cj7]
theorem mcb7 (x:ba7) (p:ab7):nz7 x p 0=hgb7 x p p.trucks.length:=by
 unfold nz7 hgb7
 rw[← ww7 x p,List.take_length];simp
theorem zfb7 {x:ba7}{p:ab7}{k:Nat}(h:k<p.bikes.length):nz7 x p (k+1)=nz7 x p k+(p.bikes[k].stops.length+2):=by
 have h':k<(eb7 x p).bikes.length:=by rw[xv7];exact h
 unfold nz7
 rw[dr7 h',List.flatMap_append,List.length_append,← etb7 x p h h']
 simp[mrb7,Nat.add_assoc]
theorem nwb7 (x:ba7) (p:ab7):nz7 x p p.bikes.length=(sj7 (eb7 x p)).length:=by
 unfold nz7 sj7
 rw[← xv7 x p,List.take_length,List.length_append]
theorem fpb7 {x:ba7}{p:ab7}{j:Nat}:∀n,j+n≤p.bikes.length→nz7 x p j≤nz7 x p (j+n)
 | 0,_=>Nat.le_refl _
 | n+1,h=>by
  have h1:=fpb7 (x:=x) (p:=p) (j:=j) n (by omega)
  rw[← Nat.add_assoc,zfb7 (by omega)];omega
theorem xub7 {x:ba7}{p:ab7}{k:Nat}(h:k≤p.bikes.length):nz7 x p k≤(sj7 (eb7 x p)).length:=by
 have:=fpb7 (x:=x) (p:=p) (j:=k) (p.bikes.length-k) (by omega)
 rw[show k+(p.bikes.length-k)=p.bikes.length by omega,nwb7]at this
 exact this
theorem wqb7 {x:ba7}{p:ab7}{j:Nat}:∀n,j+n≤p.trucks.length→hgb7 x p j≤hgb7 x p (j+n)
 | 0,_=>Nat.le_refl _
 | n+1,h=>by
  have h1:=wqb7 (x:=x) (p:=p) (j:=j) n (by omega)
  rw[← Nat.add_assoc,mdb7 (by omega)];omega
theorem ncc7 {x:ba7}{p:ab7}{k:Nat}(h:k≤p.trucks.length):hgb7 x p k≤(sj7 (eb7 x p)).length:=by
 have:=wqb7 (x:=x) (p:=p) (j:=k) (p.trucks.length-k) (by omega)
 rw[show k+(p.trucks.length-k)=p.trucks.length by omega,← mcb7]at this
 exact Nat.le_trans this (xub7 (Nat.zero_le _))
def izb7 (x:ba7) (p:ab7) (go k:Nat):List Value:=icb7 go 0 ((eb7 x p).trucks.take k)
theorem uub7 {x:ba7}{p:ab7}(go:Nat) {k:Nat}(h:k<p.trucks.length):izb7 x p go (k+1)=izb7 x p go k++[.slice (some ⟨go,hgb7 x p k,none⟩) p.trucks[k].length p.trucks[k].length]:=by
 have h':k<(eb7 x p).trucks.length:=by rw[ww7];exact h
 unfold izb7 hgb7
 rw[dr7 h',qcb7,Nat.zero_add,qsb7 x p h h']
theorem bz7 {x:ba7}{p:ab7}{k:Nat}(h:k<(eb7 x p).bikes.length):∃A B,sj7 (eb7 x p)=A++cj7 (eb7 x p).bikes[k]++B∧A.length=nz7 x p k:=by
 refine⟨(eb7 x p).trucks.flatten++((eb7 x p).bikes.take k).flatMap cj7,((eb7 x p).bikes.drop (k+1)).flatMap cj7, ?_,by rw[List.length_append];rfl⟩
 unfold sj7
 have hs:=ms7 ((eb7 x p).bikes.map cj7) k (by simpa using h)
 rw[List.getElem_map,← List.map_take,← List.map_drop,← List.flatMap_def,← List.flatMap_def,← List.flatMap_def]at hs
 rw[hs];simp only[List.append_assoc]
theorem ssb7 {x:ba7}{p:ab7}{w:World}{go k:Nat}(hr:Row w go 2 ((sj7 (eb7 x p)).map ib7)) (h:k<(eb7 x p).bikes.length) :
  w.cell? ⟨go,nz7 x p k,none⟩=some (.int .i64 (eb7 x p).bikes[k].out)∧w.cell? ⟨go,nz7 x p k+((eb7 x p).bikes[k].starts.length+1),none⟩=some (.int .i64 (eb7 x p).bikes[k].back):=by
 obtain⟨A,B,e,hA⟩:=bz7 h
 rw[e]at hr
 generalize (eb7 x p).bikes[k]=r at hr ⊢
 have c0:=hr.cell (j:=A.length) (by simp[cj7])
 have c1:=hr.cell (j:=A.length+(r.starts.length+1)) (by simp[cj7])
 rw[← hA]
 refine⟨c0.trans ?_,c1.trans ?_⟩
 ·congr 1
  rw[List.getElem_map]
  simp[ib7,cj7]
 ·congr 1
  rw[List.getElem_map]
  simp[ib7,cj7,List.getElem_append_right]
theorem feb7 {x:ba7}{p:ab7}{w:World}{F:Nat→Prop}{go k c:Nat}(hr:Row w go 2 ((sj7 (eb7 x p)).map ib7)) (hF:F go) (hw:∀v∈sj7 (eb7 x p),za7 v) (h:k<(eb7 x p).bikes.length) (hc:(eb7 x p).bikes[k].starts.length≤c) (hm:c≤1000000) :
  (ia7 hf7).rep w F (eb7 x p).bikes[k].starts [.slice (some ⟨go,nz7 x p k+1,none⟩) (eb7 x p).bikes[k].starts.length c]:=by
 obtain⟨A,B,e,hA⟩:=bz7 h
 have:=uqb7 (F:=F) (A:=A++[(eb7 x p).bikes[k].out]) (B:=(eb7 x p).bikes[k].back::B) hr (by rw[e];simp[cj7]) hw hF hc hm
 rw[List.length_append,List.length_singleton,hA]at this
 exact this
theorem gyb7 {x:ba7}{p:ab7}(hw:∀v∈sj7 (eb7 x p),za7 v):∀r∈(eb7 x p).bikes,za7 r.out∧za7 r.back∧∀s∈r.starts,za7 s:=fun r hr=>by
 have hm:∀v∈cj7 r,za7 v:=fun v hv=>hw v (by unfold sj7;exact List.mem_append_right _ (List.mem_flatMap.2 ⟨r,hr,hv⟩))
 exact⟨hm _ (by simp[cj7]),hm _ (by simp[cj7]),fun s hs=>hm _ (by simp[cj7,hs])⟩
theorem sfc7 {w:World}{g o m n:Nat}(hn:n≤m) (hm:m≤1000000) :
  Calls Tryz.prog 148 #[.slice (some ⟨g,o,none⟩) m m,.int .i64 n] w fun e w'=>∃q,e = .returned (.tuple #[.slice (some ⟨g,o,none⟩) n n,.slice (some ⟨g,q,none⟩) (m-n) (m-n)])∧(n<m→q=o+n)∧Below w.heap.size w w':=by
 go_enter Tryz.func148,Tryz.ntmps148
 by_cases e:m=n
 ·subst e
  rw[Nat.sub_self]
  go_wp2
  go_region
  all_goals
   go_wp2
   exact bodyPost_ret (v:=.tuple #[.slice (some ⟨g,o,none⟩) m m,.slice (some ⟨g,o,none⟩) 0 0]) (by simp[results,Tryz.results148,go_sem]) rfl ⟨o,rfl,fun h=>absurd h (Nat.lt_irrefl _),Below.drew (Below.refl _ _)⟩
 ·go_wp2
  go_region
  all_goals
   go_wp2
   exact bodyPost_ret (v:=.tuple #[.slice (some ⟨g,o,none⟩) n n,.slice (some ⟨g,o+n,none⟩) (m-n) (m-n)]) (by simp[results,Tryz.results148,go_sem]) rfl ⟨o+n,rfl,fun _=>rfl,Below.drew (Below.refl _ _)⟩
theorem hob7 {w:World}{F:Nat→Prop}{l:List Int}{v:Value}(h:(ia7 hf7).rep w F l [v]) (hn:l.length≤1000000) :
  Calls Tryz.prog 149 #[v] w fun e w'=>∃u,e = .returned u∧w'.ownsRow w.heap.size 2 1 u l.length (l.map ib7)∧Below w.heap.size w w':=by
 obtain⟨a,b,off,c,hs,-,-,ha,-,hcell,-⟩:=bb7 h
 obtain rfl:=List.cons.inj hs |>.1
 clear h hs
 cases a with
 | none =>
  have h0:l=[]:=by
   cases l with
   | nil=>rfl
   | cons s l=>have:=ha (by simp);cases this
  subst h0
  clear hcell ha
  have q22:∀(w:World) (a:Option Addr) (n c n' c':Nat),(binOp .eql 78 (.slice a n c) (.slice none n' c')).run Tryz.prog w = .ok (.bool a.isNone) w:=fun w a n c n' c'=>Lib.run_eql_slice_nil w _ _ a n c n' c' Tryz.underlying78
  go_enter Tryz.func149,Tryz.ntmps149
  go_wp2
  go_ret
  exact⟨_,rfl,World.ownsRow_nil _ _ _ _,Below.refl _ _⟩
 | some a =>
  have hnews:∀j u,(l.map ib7)[j]? = some u→(w.alloc (.cells #[] 2)).cell? (a.add j)=some u:=fun j u hj=>by
   have hjl:=(List.getElem?_eq_some_iff.1 hj).1
   rw[List.length_map]at hjl
   obtain rfl:=Option.some.inj (ha (by omega))
   rw[Addr.add_lit]
   have:=hcell j hjl
   rw[← (List.getElem?_eq_some_iff.1 hj).2,List.getElem_map]
   exact aa7 ((Below.refl _ _).alloc (Nat.le_refl _) _) this
  have hone:∀u∈l.map ib7,u.oneCell'=true:=fun u hu=>by
   obtain⟨s,_,rfl⟩:=List.mem_map.1 hu;rfl
  have hfl:(l.map ib7).length=l.length*1:=by rw[List.length_map,Nat.mul_one]
  have HNEWS:=hid hnews
  have HONE:=hid hone
  clear hcell hnews hone ha
  obtain⟨i1,hi,hi0,hi1,hi2⟩:=info_parts gj7
  have hown1:=World.ownsRow_lit (base:=w.heap.size) (e:=2) (size:=1) w #[] 0 (Nat.le_refl _) (by unfold maxLen;omega) rfl
  have q22:∀(w:World) (a:Option Addr) (n c n' c':Nat),(binOp .eql 78 (.slice a n c) (.slice none n' c')).run Tryz.prog w = .ok (.bool a.isNone) w:=fun w a n c n' c'=>Lib.run_eql_slice_nil w _ _ a n c n' c' Tryz.underlying78
  go_enter Tryz.func149,Tryz.ntmps149
  go_wp2_with (at_builtin;refine wpList_append_own _ rfl _ _ 78 rfl w.heap.size 2 i1 (.int .i64 0) 1 8 Tryz.underlying78 hi hi0 hi1 hi2 rfl (by decide) _ _ _ rfl hown1 a l.length c (l.map ib7) rfl hfl HNEWS.out HONE.out ?c3 ?c4 ?c5 ?_)
  case c3=>unfold maxLen;omega
  case c4=>omega
  intro v' w2 hown' hgrow _
  have HB:=hid (ce7 (w:=w.alloc (.cells #[] 2)) ((Below.refl w.heap.size w).alloc (Nat.le_refl _) _) hown1 (by simp) (Nat.le_refl _) hgrow)
  have HO:=hid (show w2.ownsRow w.heap.size 2 1 v' l.length (l.map ib7) from by simpa using hown')
  clear hown' hgrow hown1 hi hi0 hi1 hi2
  go_wp2
  go_ret
  exact⟨_,rfl,HO.out,HB.out⟩
theorem atb7 {w:World}:Calls Tryz.prog 200 #[] w fun e w'=>∃q,e = .returned (.pointer (some ⟨q,0,none⟩))∧wc7 w' w.heap.size q []∧Below w.heap.size w w':=by
 have h1:wc7 (w.alloc (.cells #[.slice none 0 0] 327)) w.heap.size w.heap.size []:=⟨_,Row.new rfl,World.ownsRow_nil _ _ _ _,Nat.le_refl _⟩
 go_enter Tryz.func200,Tryz.ntmps200
 go_wp2
 go_ret
 exact⟨_,rfl,h1,(Below.refl _ _).alloc (Nat.le_refl _) _⟩
theorem wc7.below {w w':World}{B q:Nat}{l:List sa7}(h:wc7 w B q l) (hb:Below w.heap.size w w'):wc7 w' B q l:=by
 obtain⟨v,R,O,hq⟩:=h
 exact⟨v,R.below hb,oa7 O hb,hq⟩
theorem uk7.below {w w':World}{B q g:Nat}{l:List sa7}(h:uk7 w B q g l) (hb:Below w.heap.size w w'):uk7 w' B q g l:=by
 obtain⟨c,R,O,hq⟩:=h
 exact⟨c,R.below hb,oa7 O hb,hq⟩
theorem wc7.qlt {w:World}{B q:Nat}{l:List sa7}(h:wc7 w B q l):q<w.heap.size:=by
 obtain⟨v,R,O,hq⟩:=h
 exact R.lt
theorem wc7.le {w:World}{B q:Nat}{l:List sa7}(h:wc7 w B q l):B≤w.heap.size:=by
 obtain⟨v,R,O,hq⟩:=h
 have:=R.lt;omega
theorem wcb7 {w:World}{B q:Nat}{l:List sa7}(h:wc7 w B q l) (hl:l.length≤100000) (s:sa7) :
  Calls Tryz.prog 201 #[.pointer (some ⟨q,0,none⟩),.agg #[.int .i64 s.1,.int .i64 s.2]] w fun e w'=>e = .returned (.tuple #[])∧(∃l':List sa7,l'.Perm (s::l)∧(do7 l→do7 l')∧wc7 w' B q l')∧zb7 B w w'∧if7 q w w':=by
 obtain⟨s1,s2⟩:=s
 have hal:Below w.heap.size w (w.alloc (.cells #[.int .i64 s1,.int .i64 s2] 307)):=(Below.refl _ _).alloc (Nat.le_refl _) _
 have HPU:=hid (znb7 (h.below hal).drew hl (s1,s2))
 have HK:=hid (zb7.below (B:=B) hal h.le)
 have HA:=hid (if7.of_below hal h.qlt)
 simp only[]at HPU
 clear h hal
 go_enter Tryz.func201,Tryz.ntmps201
 go_wp2
 go_region_with (go_at_call 218;refine HPU.out.mono ?_;rintro e w1 ⟨rfl,hP1,hK1,hA1⟩)
 go_wp2
 go_end0
 exact⟨rfl,hP1,HK.out.drew.trans hK1,HA.out.trans hA1⟩
theorem xz7 {w:World}{B e k n g c b:Nat}{xs:List Value}(h:w.ownsRow B e k (.slice (some ⟨g,0,none⟩) n c) n xs) (hb:b≠g) (j:Nat) (u:Value):(w.setCell ⟨b,j,none⟩ u).ownsRow B e k (.slice (some ⟨g,0,none⟩) n c) n xs :=
 h.kept (pg7 w ⟨b,j,none⟩ u) (.inr fun e=>hb (Option.some.inj e).symm)
theorem kz7 {w:World}{B q:Nat}{l:List sa7}(h:wc7 w B q l) (hl:l.length≤100000) :
  Calls Tryz.prog 202 #[.pointer (some ⟨q,0,none⟩)] w fun e w'=>∃(s:sa7) (ok:Bool) (l':List sa7),e = .returned (.tuple #[.agg #[.int .i64 s.1,.int .i64 s.2],.bool ok]) ∧
   (ok=false→l=[]∧l'=[])∧(ok=true→(s::l').Perm l∧(do7 l→do7 l'∧∀t∈l,leI s t))∧wc7 w' B q l'∧zb7 B w w'∧if7 q w w':=by
 have hal:Below w.heap.size w (w.alloc (.cells #[.int .i64 0,.int .i64 0] 307)):=(Below.refl _ _).alloc (Nat.le_refl _) _
 have HK:=hid (zb7.below (B:=B) hal h.le)
 have hBw:=h.le
 have HA:=hid (if7.of_below hal h.qlt)
 have hR0:=Row.new (w:=w) (g:=w.heap.size) (e:=307) (cs:=[.int .i64 0,.int .i64 0]) rfl
 have hP:=h.below hal
 have hqz:q<w.heap.size:=by obtain⟨v,R,O,hq⟩:=h;exact R.lt
 go_enter Tryz.func202,Tryz.ntmps202
 by_cases h0:l.length=0
 ·have hl0:=List.eq_nil_of_length_eq_zero h0
  have HP2:=hid (show wc7 (w.alloc (.cells #[.int .i64 0,.int .i64 0] 307)) B q [] from hl0 ▸ hP)
  obtain⟨v,R,O,hq⟩:=hP
  obtain⟨a,c,rfl,-,-⟩:=xa7 O
  have p0:=R.cell (j:=0) (by simp)
  simp only[List.getElem_cons_zero]at p0
  have hz:((l.length:Int)==0)=true:=by simp[h0]
  have rc0:=hR0.cell (j:=0) (by simp)
  have rc1:=hR0.cell (j:=1) (by simp)
  simp only[List.getElem_cons_zero,List.getElem_cons_succ]at rc0 rc1
  have HL0:=hid hl0
  clear R O h hR0 hl0 h0
  go_wp2
  refine bodyPost_ret (v:=.tuple #[.agg #[.int .i64 0,.int .i64 0],.bool false]) (by simp[results,Tryz.results202,go_sem]) rfl ⟨(0,0),false,[],rfl,fun _=>⟨HL0.out,rfl⟩,(fun h=>by cases h),HP2.out,HK.out,HA.out⟩
 ·have hz:((l.length:Int)==0)=false:=by simp[h0]
  obtain⟨g,hG0⟩:=h.g (by omega)
  have hgw:g<w.heap.size:=by obtain⟨_,_,O,_⟩:=hG0;exact (Row.of_items O).lt
  have hG:=hG0.below hal
  have hG':=hG
  obtain⟨c,R,O,hq⟩:=hG'
  have p0:=R.cell (j:=0) (by simp)
  simp only[List.getElem_cons_zero]at p0
  have HPO:=hid (pqb7 hG hl (by omega))
  have HGG:=hid hG
  have HTA:=eub7
  have HR0:=hid hR0
  clear h hP hG hG0 R O hR0
  go_wp2_with fail
  refine HPO.out.mono ?_
  rintro e w1 ⟨s,l',rfl,hp1,hho,hP1,hK1,hM1⟩
  have hp:=And.intro hp1 hho
  clear hp1 hho
  obtain⟨s1,s2⟩:=s
  have R1:=HR0.out.keep (hM1.2 w.heap.size HR0.out.lt (by omega) (by omega))
  have f0:=R1.frozen 0
  have f1:=R1.frozen 1
  have k0:=R1.cell (j:=0) (by simp)
  have k1:=R1.cell (j:=1) (by simp)
  have R2:=R1.set (j:=0) (by simp) (.int .i64 s1)
  have R3:=R2.set (j:=1) (by simp) (.int .i64 s2)
  have k2:=R2.cell (j:=1) (by simp)
  have rc0:=R3.cell (j:=0) (by simp)
  have rc1:=R3.cell (j:=1) (by simp)
  simp only[List.set_cons_zero,List.set_cons_succ,List.getElem_cons_zero,List.getElem_cons_succ]at k0 k1 k2 rc0 rc1
  have HA1:=hid (HA.out.trans (if7.of_keep2 hM1 HGG.out hP1))
  obtain⟨c1,Q1,O1,-⟩:=hP1
  have HP2:=hid (show wc7 ((w1.setCell ⟨w.heap.size,0,none⟩ (.int .i64 s1)).setCell ⟨w.heap.size,1,none⟩ (.int .i64 s2)) B q l' from
   ⟨_,(Q1.setOther (by show q≠w.heap.size;omega) _).setOther (by show q≠w.heap.size;omega) _,xz7 (xz7 O1 (by omega) _ _) (by omega) _ _,hq⟩)
  have HK2:=hid (((HK.out.trans hK1).trans (zb7.set R1 (.inl rfl) hBw 0 (.int .i64 s1))).trans (zb7.set R2 (.inl rfl) hBw 1 (.int .i64 s2)))
  have HPP:=hid hp
  have HA2:=hid (show if7 q w ((w1.setCell ⟨w.heap.size,0,none⟩ (.int .i64 s1)).setCell ⟨w.heap.size,1,none⟩ (.int .i64 s2)) from fun X e cs hx=>by
   have hX:X≠w.heap.size:=by have:=hx.1.lt;omega
   obtain⟨hr,h1,h2⟩:=HA1.out X e cs hx
   refine⟨(hr.setOther (by show X≠w.heap.size;exact hX) _).setOther (by show X≠w.heap.size;exact hX) _,h1,fun v hv=>h2 v ?_⟩
   rw[World.cell?_of_block (Below.heap_setCell _ _ _ _ (by show q≠w.heap.size;omega)),World.cell?_of_block (Below.heap_setCell _ _ _ _ (by show q≠w.heap.size;omega))]at hv
   exact hv)
  clear hp R1 R2 R3 O1 Q1 hK1 hM1 HPO
  go_wp2
  refine bodyPost_ret (v:=.tuple #[.agg #[.int .i64 s1,.int .i64 s2],.bool true]) (by simp[results,Tryz.results202,go_sem,rc0,rc1]) rfl ⟨(s1,s2),true,l',rfl,(fun h=>by cases h),fun _=>HPP.out,HP2.out,HK2.out,HA2.out⟩
end Go.Proofs.YtabadfkikdefeaaGreat
