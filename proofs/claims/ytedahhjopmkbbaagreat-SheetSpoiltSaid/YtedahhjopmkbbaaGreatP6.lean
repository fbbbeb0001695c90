/- Texts of the proof, joined: EarlyD, Cut, Clone64, PileT. -/
import Derived.BigQuiet
import Derived.BigRegion
import Derived.Deep.RegionWith
import Derived.Test.YtedahhjopmkbbaaGreatClockK
import Derived.Test.YtedahhjopmkbbaaGreatHeap
set_option linter.all false
set_option maxRecDepth 100000
set_option maxHeartbeats 6400000
namespace Go.Proofs.YtedahhjopmkbbaaGreat
open Go.RowKit
theorem sp7 {x:ca7}:∀(t:List ba7) (st:SnT),(t.foldl (xb7 x) st).l.length=st.l.length+t.length
 | [],_=>rfl
 | s::t,st=>by rw[List.foldl_cons,sp7 t];simp[xb7];omega
theorem en7 {x:ca7}:∀(l:List (List ba7)) (a:SnA),(l.foldl (ee7 x) a).ts.map List.length=a.ts.map List.length++l.map List.length
 | [],a=>by simp
 | t::l,a=>by
  rw[List.foldl_cons,en7 l]
  simp only[ee7,mi7,List.map_append,List.map_cons,List.map_nil,List.append_assoc]
  rw[sp7];simp
theorem br7 {x:ca7}:∀(t:List Int) (st:SnB),(t.foldl (yb7 x) st).starts.length=st.starts.length+t.length
 | [],_=>rfl
 | s::t,st=>by rw[List.foldl_cons,br7 t];simp[yb7];omega
theorem vz7 (x:ca7) (p:ua7):(fm7 x p).trucks.map List.length=p.trucks.map List.length:=by
 unfold fm7 sa7
 rw[en7];rfl
theorem mub7 (x:ca7) (p:ua7):(fm7 x p).trucks.length=p.trucks.length:=by
 have:=congrArg List.length (vz7 x p)
 simpa using this
theorem chc7 (x:ca7) (p:ua7) {k:Nat}(h:k<p.trucks.length) (h':k<(fm7 x p).trucks.length):(fm7 x p).trucks[k].length=p.trucks[k].length:=by
 have:=congrArg (fun l:List Nat=>l[k]?) (vz7 x p)
 simpa[List.getElem?_eq_getElem h,List.getElem?_eq_getElem h']using this
theorem ktb7 (x:ca7) (p:ua7):(fm7 x p).bikes.length=p.bikes.length:=by simp[fm7]
theorem bjc7 (x:ca7) (p:ua7) {k:Nat}(h:k<p.bikes.length) (h':k<(fm7 x p).bikes.length):(fm7 x p).bikes[k].starts.length=p.bikes[k].stops.length:=by
 simp only[fm7,List.getElem_map,tg7,kd7]
 rw[br7];simp
theorem eh7.hi {x:ca7}{d:DrS}{ts ready:List Int}(h:eh7 x d ts ready):∀n i,i≤n→ts.getD i 0≤1000000000+i*1099511627776
 | n,i,hin=>by
  have hl:=h.len
  obtain⟨h1,h2,h3,h4⟩:=rp7.1 h.late
  by_cases hi:i<d.fr.length
  ·rcases h4 i hi with e | ⟨a,ha,e1,e2⟩
   ·rw[e,List.getD_eq_getElem?_getD,List.getElem?_eq_getElem hi,Option.getD_some]
    have:=(h.frB _ (List.getElem_mem hi)).2
    omega
   ·obtain⟨g1,g2,g3,g4⟩:=h.arc a ha
    cases n with
    | zero=>omega
    | succ n =>
     have:=h.hi n a.frm (by omega)
     rw[e2]
     have hh:((a.frm:Nat):Int)+1≤i:=by omega
     omega
  ·rw[List.getD_eq_getElem?_getD,List.getElem?_eq_none (by omega),Option.getD_none];omega
theorem eh7.wf {x:ca7}{d:DrS}{ts ready:List Int}(h:eh7 x d ts ready) (hl:d.fr.length≤20000):∀v∈ts,0≤v∧v≤30000000000000000:=by
 intro v hv
 obtain⟨i,hi,rfl⟩:=List.getElem_of_mem hv
 have h1:=h.tsB i
 have h2:=h.hi i i (Nat.le_refl _)
 have h3:=h.len
 rw[List.getD_eq_getElem?_getD,List.getElem?_eq_getElem hi,Option.getD_some]at h1 h2
 omega
def rm7:List ka7→List Value→List Value
 | r::out,u::vs=>.int .i64 r.out::u :: .int .i64 r.back::rm7 out vs
 | _,_=>[]
theorem cy7:∀(out:List ka7) (vs:List Value) (r:ka7) (u:Value),vs.length=out.length→rm7 (out++[r]) (vs++[u])=rm7 out vs++[.int .i64 r.out,u,.int .i64 r.back]
 | [],[],_,_,_=>rfl
 | a::out,v::vs,b,u,h=>by
  have:=cy7 out vs b u (by simpa using h)
  simp only[List.cons_append,rm7,this]
 | [],_::_,_,_,h=>by cases h
 | _::_,[],_,_,h=>by cases h
structure leb7 (TR TI:Nat) (w:World) (B:Nat) (v:Value) (out:List ka7) (vs:List Value):Prop where
 own:w.ownsRow B TR 3 v out.length (rm7 out vs)
 len:vs.length=out.length
 rows:∀i (h:i<out.length) (h':i<vs.length),w.ownsRow B TI 1 vs[i] out[i].starts.length (out[i].starts.map jc7)
theorem leb7.nil (TR TI:Nat) (w:World) (B:Nat):leb7 TR TI w B (.slice none 0 0) [] [] :=
 ⟨World.ownsRow_nil _ _ _ _,rfl,fun _ h=>absurd h (Nat.not_lt_zero _)⟩
theorem leb7.below {TR TI:Nat}{w w':World}{B:Nat}{v:Value}{out:List ka7}{vs:List Value}(h:leb7 TR TI w B v out vs) (hb:Below w.heap.size w w'):leb7 TR TI w' B v out vs :=
 ⟨rb7 h.own hb,h.len,fun i h1 h2=>rb7 (h.rows i h1 h2) hb⟩
theorem leb7.keptSet {TR TI TP:Nat}{w:World}{B p j:Nat}{v u:Value}{cs:List Value}{out:List ka7}{vs:List Value}(h:leb7 TR TI w B v out vs) (hr:Row w p TP cs) (h1:TP≠TR) (h2:TP≠TI):leb7 TR TI (w.setCell ⟨p,j,none⟩ u) B v out vs :=
 ⟨md7 h.own hr h1 j u,h.len,fun i k1 k2=>md7 (h.rows i k1 k2) hr h2 j u⟩
theorem leb7.push {TR TI:Nat}{w w':World}{B:Nat}{v v' u:Value}{out:List ka7}{vs:List Value}{r:ka7}(h:leb7 TR TI w B v out vs) (hne:TI≠TR) (hg:w.grownBy w' v.ownBlock)
  (ho:w'.ownsRow B TR 3 v' (out.length+1) (rm7 out vs++[.int .i64 r.out,u,.int .i64 r.back])) (hu:w.ownsRow B TI 1 u r.starts.length (r.starts.map jc7)):leb7 TR TI w' B v' (out++[r]) (vs++[u]):=by
 refine⟨by rw[cy7 _ _ _ _ h.len,List.length_append];exact ho,by simp[h.len],fun i h1 h2=>?_⟩
 by_cases hl:i<out.length
 ·have hl':i<vs.length:=by rw[h.len];exact hl
  rw[List.getElem_append_left hl',List.getElem_append_left hl]
  exact (h.rows i hl hl').kept hg (xa7 (h.rows i hl hl') h.own hne)
 ·have:i=out.length:=by simp at h1;omega
  subst this
  have e1:(vs++[u])[out.length]'h2=u:=by rw[List.getElem_append_right (by rw[h.len];exact Nat.le_refl _)];simp[h.len]
  have e2:(out++[r])[out.length]'h1=r:=by rw[List.getElem_append_right (Nat.le_refl _)];simp
  rw[e1,e2]
  exact hu.kept hg (xa7 hu h.own hne)
theorem leb7.rep {TR TI:Nat}{w:World}{B:Nat}{v:Value}{out:List ka7}{vs:List Value}(h:leb7 TR TI w B v out vs) (hw:∀r∈out,oa7 r.out∧oa7 r.back∧∀s∈r.starts,oa7 s):aoc7.rep w (fun b=>B≤b) out [v]:=by
 have hr:∀i (h1:i<out.length) (h2:i<vs.length),vgc7.rep w (fun b=>B≤b) out[i] [.int .i64 out[i].out,vs[i],.int .i64 out[i].back]:=fun i h1 h2 =>
  ⟨vs[i],rfl,(hw _ (List.getElem_mem h1)).1,(hw _ (List.getElem_mem h1)).2.1,zu7 (h.rows i h1 h2) (hw _ (List.getElem_mem h1)).2.2⟩
 rcases h.own.2 with ⟨rfl,hn⟩ | ⟨g,cap,cur,rfl,hg,hh,hn1,hc,hsz,ht⟩
 ·have:out=[]:=List.eq_nil_of_length_eq_zero hn
  subst this
  exact ndb7 _ _ _
 ·have hR:Row w g TR (rm7 out vs):=⟨cur,cur.toList.drop (out.length*3),hh,by rw[← ht,List.take_append_drop]⟩
  refine deb7 (S:=vgc7) (T:=TR) (List.zipWith (fun (r:ka7) u=>[.int .i64 r.out,u,.int .i64 r.back]) out vs) (by simp[h.len]) (fun v hv=>?_) (fun i h1 h2=>?_) ?_ hn1 hc hg
  ·obtain⟨i,hi,rfl⟩:=List.getElem_of_mem hv
   simp only[List.getElem_zipWith];rfl
  ·rw[List.getElem_zipWith];exact hr i h1 _
  ·have:∀(out:List ka7) (vs:List Value),(List.zipWith (fun (r:ka7) u=>[Value.int .i64 r.out,u,.int .i64 r.back]) out vs).flatten=rm7 out vs:=by
    intro out
    induction out with
    | nil=>intro vs;simp[rm7]
    | cons a l ih =>
     intro vs
     cases vs with
     | nil=>simp[rm7]
     | cons v vs=>simp[rm7,ih]
   rw[this];exact hR
theorem rv7 {α:Type}{l:List α}{k:Nat}(h:k<l.length):l.take (k+1)=l.take k++[l[k]]:=List.take_succ_eq_append_getElem h
end Go.Proofs.YtedahhjopmkbbaaGreat


namespace Go.Proofs.YtedahhjopmkbbaaGreat
open Go.RowKit
theorem di7.below {w w':World}{B q:Nat}{l:List dm7}(h:di7 w B q l) (hb:Below w.heap.size w w'):di7 w' B q l:=by
 obtain⟨v,R,O,hq⟩:=h
 exact⟨v,R.below hb,rb7 O hb,hq⟩
theorem spb7.below {w w':World}{B q g:Nat}{l:List dm7}(h:spb7 w B q g l) (hb:Below w.heap.size w w'):spb7 w' B q g l:=by
 obtain⟨c,R,O,hq⟩:=h
 exact⟨c,R.below hb,rb7 O hb,hq⟩
theorem di7.le {w:World}{B q:Nat}{l:List dm7}(h:di7 w B q l):B≤w.heap.size:=by
 obtain⟨v,R,O,hq⟩:=h
 have:=R.lt;omega
end Go.Proofs.YtedahhjopmkbbaaGreat
