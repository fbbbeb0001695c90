/- Texts of the proof, joined: Fill, BOwn, HTrucks, Ratio, OrdLaw, Unit, InsRow, Insert, OrderW, TrucksW, OwnMore, Clone, Tail2. -/
import Derived.Maps.AppendAt
import Derived.Shelf.Spec.SlicesInsertGrow
import Derived.BigQuiet
import Derived.BigRegion
import Derived.Lib.SliceRun
import Derived.Test.YtabadfkikdefeaaGreatP2
set_option linter.all false
set_option maxRecDepth 100000
set_option maxHeartbeats 6400000
namespace Go.Proofs.YtabadfkikdefeaaGreat
open Go.RowKit
def zd7 (out:List (List ea7)) (s:ea7):List (List ea7):=out.set (out.length-1) (out.getD (out.length-1) []++[s])
def stopV (s:ea7):List Value:=[.int .i64 s.sat,.int .i64 s.load]
theorem nq7 (l:List ea7):(l.flatMap stopV).length=l.length*2:=by
 induction l with
 | nil=>rfl
 | cons a l ih=>rw[List.flatMap_cons,List.length_append,ih,List.length_cons];show 2+_=_;omega
structure fk7 (TT TS:Nat) (w:World) (B:Nat) (v:Value) (out:List (List ea7)) (vs:List Value):Prop where
 own:w.ownsRow B TT 1 v out.length vs
 len:vs.length=out.length
 rows:∀i (h:i<out.length) (h':i<vs.length),w.ownsRow B TS 2 vs[i] out[i].length (out[i].flatMap stopV)
 apart:∀i j (hi:i<vs.length) (hj:j<vs.length),i≠j→vs[i].ownBlock=none∨vs[i].ownBlock≠vs[j].ownBlock
theorem fk7.nil (TT TS:Nat) (w:World) (B:Nat):fk7 TT TS w B (.slice none 0 0) [] [] :=
 ⟨World.ownsRow_nil _ _ _ _,rfl,fun _ h=>absurd h (Nat.not_lt_zero _),fun _ _ h=>absurd h (Nat.not_lt_zero _)⟩
theorem fk7.below {TT TS:Nat}{w w':World}{B:Nat}{v:Value}{out:List (List ea7)}{vs:List Value}(h:fk7 TT TS w B v out vs) (hb:Below w.heap.size w w'):fk7 TT TS w' B v out vs :=
 ⟨oa7 h.own hb,h.len,fun i h1 h2=>oa7 (h.rows i h1 h2) hb,h.apart⟩
theorem fb7 {w:World}{B B' T T' n n' k k':Nat}{v v':Value}{xs xs':List Value}(h:w.ownsRow B T k v n xs) (h':w.ownsRow B' T' k' v' n' xs') (hne:T≠T'):v.ownBlock=none∨v.ownBlock≠v'.ownBlock:=by
 cases e:v.ownBlock with
 | none=>exact .inl rfl
 | some g =>
  obtain⟨cs,hc⟩:=eg7 h e
  exact .inr fun e'=>(ec7 h' hc hne) e'
theorem fk7.push {TT TS:Nat}{w w':World}{B:Nat}{v v':Value}{out:List (List ea7)}{vs:List Value}(h:fk7 TT TS w B v out vs) (hne:TS≠TT) (hg:w.grownBy w' v.ownBlock)
  (ho:w'.ownsRow B TT 1 v' (out.length+1) (vs++[.slice none 0 0])):fk7 TT TS w' B v' (out++[[]]) (vs++[.slice none 0 0]):=by
 refine⟨by rw[List.length_append];exact ho,by simp[h.len],fun i h1 h2=>?_,fun i j hi hj hij=>?_⟩
 ·by_cases hl:i<out.length
  ·have hl':i<vs.length:=by rw[h.len];exact hl
   rw[List.getElem_append_left hl',List.getElem_append_left hl]
   exact (h.rows i hl hl').kept hg (fb7 (h.rows i hl hl') h.own hne)
  ·have:i=out.length:=by simp at h1;omega
   subst this
   have e1:(vs++[Value.slice none 0 0])[out.length]'h2 = .slice none 0 0:=by rw[List.getElem_append_right (by rw[h.len];exact Nat.le_refl _)];simp[h.len]
   have e2:(out++[[]])[out.length]'h1=[]:=by rw[List.getElem_append_right (Nat.le_refl _)];simp
   rw[e1,e2]
   exact World.ownsRow_nil _ _ _ _
 ·have key:∀i (hi:i<(vs++[Value.slice none 0 0]).length),((vs++[Value.slice none 0 0])[i]).ownBlock=none∨∃hi':i<vs.length,(vs++[Value.slice none 0 0])[i]=vs[i]:=fun i hi=>by
   by_cases hl:i<vs.length
   ·exact .inr ⟨hl,List.getElem_append_left hl⟩
   ·refine .inl ?_
    rw[List.getElem_append_right (by omega)]
    simp only[List.getElem_singleton];rfl
  rcases key i hi with h1 | ⟨h1,e1⟩
  ·exact .inl h1
  ·rcases key j hj with h2 | ⟨h2,e2⟩
   ·rw[e1,h2]
    cases e:vs[i].ownBlock with
    | none=>exact .inl rfl
    | some g=>exact .inr (by simp)
   ·rw[e1,e2];exact h.apart i j h1 h2 hij
theorem zib7 {w:World}{B T n g cap:Nat}{xs:List Value}(h:w.ownsRow B T 1 (.slice (some ⟨g,0,none⟩) n cap) n xs) (j:Nat) (u:Value):(w.setCell ⟨g,j,none⟩ u).ownsRow B T 1 (.slice (some ⟨g,0,none⟩) n cap) n (xs.set j u)∧w.grownBy (w.setCell ⟨g,j,none⟩ u) (some g) :=
 h.stored j u
theorem fk7.stop {TT TS:Nat}{w w1:World}{B g cap:Nat}{out:List (List ea7)}{vs:List Value}{u:Value}{s:ea7}(h:fk7 TT TS w B (.slice (some ⟨g,0,none⟩) out.length cap) out vs) (hne:TS≠TT) (hpos:0<out.length)
  (hg:w.grownBy w1 (vs.getD (out.length-1) undef).ownBlock) (hu:w1.ownsRow B TS 2 u ((out.getD (out.length-1) []).length+1) ((out.getD (out.length-1) []).flatMap stopV++stopV s))
  (hat:u.ownBlock=(vs.getD (out.length-1) undef).ownBlock∨∃b,u.ownBlock=some b∧w.heap.size≤b) :
  fk7 TT TS (w1.setCell ⟨g,out.length-1,none⟩ u) B (.slice (some ⟨g,0,none⟩) (zd7 out s).length cap) (zd7 out s) (vs.set (out.length-1) u):=by
 have hl:out.length-1<out.length:=by omega
 have hl':out.length-1<vs.length:=by rw[h.len];exact hl
 have ev:vs.getD (out.length-1) undef=vs[out.length-1]:=by rw[List.getD_eq_getElem?_getD,List.getElem?_eq_getElem hl'];rfl
 have eo:out.getD (out.length-1) []=out[out.length-1]:=by rw[List.getD_eq_getElem?_getD,List.getElem?_eq_getElem hl];rfl
 rw[ev]at hg hat
 have hrow:=h.rows _ hl hl'
 have howngrow:w1.ownsRow B TT 1 (.slice (some ⟨g,0,none⟩) out.length cap) out.length vs:=h.own.kept hg (fb7 h.own hrow (Ne.symm hne))
 have hst:=zib7 howngrow (out.length-1) u
 have hlen:(zd7 out s).length=out.length:=by unfold zd7;simp
 have hug:u.ownBlock=none∨u.ownBlock≠some g:=by
  have:=fb7 hu howngrow hne
  exact this
 refine⟨by rw[hlen];exact hst.1,by rw[List.length_set,h.len,hlen],fun i h1 h2=>?_,fun i j hi hj hij=>?_⟩
 ·have hi:i<out.length:=by rw[hlen]at h1;exact h1
  have hi':i<vs.length:=by rw[h.len];exact hi
  by_cases e:out.length-1=i
  ·subst e
   have e1:(vs.set (out.length-1) u)[out.length-1]'h2=u:=by simp
   have e2:(zd7 out s)[out.length-1]'h1=out.getD (out.length-1) []++[s]:=by simp[zd7]
   rw[e1,e2,List.flatMap_append,List.length_append]
   have:=hu.kept hst.2 hug
   simpa using this
  ·have e1:(vs.set (out.length-1) u)[i]'h2=vs[i]:=by rw[List.getElem_set_ne e]
   have e2:(zd7 out s)[i]'h1=out[i]:=by simp only[zd7,List.getElem_set,if_neg e]
   rw[e1,e2]
   have k1:=(h.rows i hi hi').kept hg (h.apart i _ hi' hl' (Ne.symm e))
   exact k1.kept hst.2 (fb7 k1 howngrow hne)
 ·have hlt:∀i (hi:i<vs.length) b,vs[i].ownBlock=some b→b<w.heap.size:=fun i hi b hb=>((h.rows i (by rw[← h.len];exact hi) hi).lt b hb).2
  simp only[List.length_set]at hi hj
  simp only[List.getElem_set]
  split
  ·rename_i ei
   split
   ·omega
   ·rename_i ej
    rcases hat with e | ⟨b,e,hb⟩
    ·rw[e];exact h.apart _ j hl' hj ej
    ·refine .inr fun e'=>?_
     have:=hlt j hj b (by rw[← e',e]);omega
  ·rename_i ei
   split
   ·rename_i ej
    rcases hat with e | ⟨b,e,hb⟩
    ·rw[e];exact h.apart i _ hi hl' (by omega)
    ·refine .inr fun e'=>?_
     have:=hlt i hi b (by rw[e',e]);omega
   ·exact h.apart i j hi hj hij
theorem fk7.rep {TT TS:Nat}{w:World}{B:Nat}{v:Value}{out:List (List ea7)}{vs:List Value}(h:fk7 TT TS w B v out vs) (hw:∀t∈out,∀s∈t,za7 s.sat∧za7 s.load):mm7.rep w (fun b=>B≤b) out [v]:=by
 have hr:∀i (h1:i<out.length) (h2:i<vs.length),(ia7 oe7).rep w (fun b=>B≤b) out[i] [vs[i]]:=fun i h1 h2 =>
  vbb7 (S:=oe7) stopV (fun _=>rfl) (fun s hs=>⟨rfl,hw _ (List.getElem_mem h1) s hs⟩) (h.rows i h1 h2)
 rcases h.own.2 with ⟨rfl,hn⟩ | ⟨g,cap,cur,rfl,hg,hh,hn1,hc,hsz,ht⟩
 ·have:out=[]:=List.eq_nil_of_length_eq_zero hn
  subst this
  exact fh7 _ _ _
 ·have hR:Row w g TT vs:=⟨cur,cur.toList.drop (out.length*1),hh,by rw[← ht,List.take_append_drop]⟩
  refine or7 (S:=ia7 oe7) (T:=TT) (vs.map fun v=>[v]) (by simp[h.len]) (fun v hv=>by obtain⟨u,_,rfl⟩:=List.mem_map.1 hv;rfl) (fun i h1 h2=>?_) ?_ hn1 hc hg
  ·rw[List.getElem_map];exact hr i h1 _
  ·have:(vs.map fun v=>[v]).flatten=vs:=by
    clear hR ht hr h
    induction vs with
    | nil=>rfl
    | cons a l ih=>rw[List.map_cons,List.flatten_cons,ih];rfl
   rw[this];exact hR
def je7:List ga7→List Value→List Value
 | b::out,u::vs=>.int .i64 b.sat::u::je7 out vs
 | _,_=>[]
theorem lx7:∀(out:List ga7) (vs:List Value) (b:ga7) (u:Value),vs.length=out.length→je7 (out++[b]) (vs++[u])=je7 out vs++[.int .i64 b.sat,u]
 | [],[],_,_,_=>rfl
 | a::out,v::vs,b,u,h=>by
  have:=lx7 out vs b u (by simpa using h)
  simp only[List.cons_append,je7,this]
 | [],_::_,_,_,h=>by cases h
 | _::_,[],_,_,h=>by cases h
theorem mk7:∀(out:List ga7) (vs:List Value) (k:Nat) (h:k<out.length) (h':k<vs.length),(je7 out vs)[2*k]? = some (.int .i64 out[k].sat)∧(je7 out vs)[2*k+1]? = some vs[k]
 | a::out,v::vs,0,_,_=>⟨rfl,rfl⟩
 | a::out,v::vs,k+1,h,h'=>by
  have:=mk7 out vs k (by simpa using h) (by simpa using h')
  simp only[je7,show 2*(k+1)=2*k+1+1 by omega,List.getElem?_cons_succ,List.getElem_cons_succ]
  exact this
 | [],_,_,h,_=>absurd h (Nat.not_lt_zero _)
 | _::_,[],_,_,h=>absurd h (Nat.not_lt_zero _)
theorem bo7:∀(out:List ga7) (vs:List Value) (k:Nat) (_:k<out.length) (_:vs.length=out.length) (b:ga7) (u:Value),je7 (out.set k b) (vs.set k u)=((je7 out vs).set (2*k) (.int .i64 b.sat)).set (2*k+1) u
 | a::out,v::vs,0,_,_,b,u=>rfl
 | a::out,v::vs,k+1,h,h',b,u=>by
  have:=bo7 out vs k (by simpa using h) (by simpa using h') b u
  simp only[je7,List.set_cons_succ,this,show 2*(k+1)=2*k+1+1 by omega]
 | [],_,_,h,_,_,_=>absurd h (Nat.not_lt_zero _)
 | _::_,[],_,_,h,_,_=>by cases h
theorem gn7 {α:Type}{l:List α}{k:Nat}{v:α}(h:l[k]? = some v):l.set k v=l:=by
 apply List.ext_getElem?
 intro i
 rw[List.getElem?_set]
 split
 ·rename_i e;subst e
  split
  ·exact h.symm
  ·rename_i hl;rw[List.getElem?_eq_none (by omega)]
 ·rfl
structure dm7 (TB TI:Nat) (w:World) (B:Nat) (v:Value) (out:List ga7) (vs:List Value):Prop where
 own:w.ownsRow B TB 2 v out.length (je7 out vs)
 len:vs.length=out.length
 rows:∀i (h:i<out.length) (h':i<vs.length),w.ownsRow B TI 1 vs[i] out[i].stops.length (out[i].stops.map ib7)
 apart:∀i j (hi:i<vs.length) (hj:j<vs.length),i≠j→vs[i].ownBlock=none∨vs[i].ownBlock≠vs[j].ownBlock
theorem dm7.nil (TB TI:Nat) (w:World) (B:Nat):dm7 TB TI w B (.slice none 0 0) [] [] :=
 ⟨World.ownsRow_nil _ _ _ _,rfl,fun _ h=>absurd h (Nat.not_lt_zero _),fun _ _ h=>absurd h (Nat.not_lt_zero _)⟩
theorem dm7.below {TB TI:Nat}{w w':World}{B:Nat}{v:Value}{out:List ga7}{vs:List Value}(h:dm7 TB TI w B v out vs) (hb:Below w.heap.size w w'):dm7 TB TI w' B v out vs :=
 ⟨oa7 h.own hb,h.len,fun i h1 h2=>oa7 (h.rows i h1 h2) hb,h.apart⟩
theorem dm7.blockLt {TB TI:Nat}{w:World}{B:Nat}{v:Value}{out:List ga7}{vs:List Value}(h:dm7 TB TI w B v out vs):∀i (hi:i<vs.length) b,vs[i].ownBlock=some b→b<w.heap.size:=fun i hi b hb =>
 ((h.rows i (by rw[← h.len];exact hi) hi).lt b hb).2
theorem dm7.kept {TB TI:Nat}{w w':World}{B:Nat}{v:Value}{out:List ga7}{vs:List Value}{row:Option Nat}(h:dm7 TB TI w B v out vs) (hg:w.grownBy w' row) (h1:v.ownBlock=none∨v.ownBlock≠row) (h2:∀i (hi:i<vs.length),vs[i].ownBlock=none∨vs[i].ownBlock≠row):dm7 TB TI w' B v out vs :=
 ⟨h.own.kept hg h1,h.len,fun i k1 k2=>(h.rows i k1 k2).kept hg (h2 i k2),h.apart⟩
theorem dm7.push {TB TI:Nat}{w w':World}{B:Nat}{v v' u:Value}{out:List ga7}{vs:List Value}{b:ga7}(h:dm7 TB TI w B v out vs) (hne:TI≠TB) (hg:w.grownBy w' v.ownBlock)
  (ho:w'.ownsRow B TB 2 v' (out.length+1) (je7 out vs++[.int .i64 b.sat,u])) (hu:w.ownsRow B TI 1 u b.stops.length (b.stops.map ib7))
  (ha:∀i (hi:i<vs.length),(vs[i].ownBlock=none∨vs[i].ownBlock≠u.ownBlock)∧(u.ownBlock=none∨u.ownBlock≠vs[i].ownBlock)):dm7 TB TI w' B v' (out++[b]) (vs++[u]):=by
 refine⟨by rw[lx7 _ _ _ _ h.len,List.length_append];exact ho,by simp[h.len],fun i h1 h2=>?_,fun i j hi hj hij=>?_⟩
 ·by_cases hl:i<out.length
  ·have hl':i<vs.length:=by rw[h.len];exact hl
   rw[List.getElem_append_left hl',List.getElem_append_left hl]
   exact (h.rows i hl hl').kept hg (fb7 (h.rows i hl hl') h.own hne)
  ·have:i=out.length:=by simp at h1;omega
   subst this
   have e1:(vs++[u])[out.length]'h2=u:=by rw[List.getElem_append_right (by rw[h.len];exact Nat.le_refl _)];simp[h.len]
   have e2:(out++[b])[out.length]'h1=b:=by rw[List.getElem_append_right (Nat.le_refl _)];simp
   rw[e1,e2]
   exact hu.kept hg (fb7 hu h.own hne)
 ·simp only[List.length_append,List.length_cons,List.length_nil]at hi hj
  by_cases h1:i<vs.length
  ·by_cases h2:j<vs.length
   ·rw[List.getElem_append_left h1,List.getElem_append_left h2];exact h.apart i j h1 h2 hij
   ·have:j=vs.length:=by omega
    subst this
    rw[List.getElem_append_left h1,List.getElem_append_right (Nat.le_refl _)]
    simp only[Nat.sub_self,List.getElem_cons_zero]
    exact (ha i h1).1
  ·have:i=vs.length:=by omega
   subst this
   have h2:j<vs.length:=by omega
   rw[List.getElem_append_left h2,List.getElem_append_right (Nat.le_refl _)]
   simp only[Nat.sub_self,List.getElem_cons_zero]
   exact (ha j h2).2
theorem dm7.stops {TB TI:Nat}{w w1:World}{B g cap k:Nat}{out:List ga7}{vs:List Value}{u:Value}{sp:List Int}(h:dm7 TB TI w B (.slice (some ⟨g,0,none⟩) out.length cap) out vs) (hne:TI≠TB) (hk:k<out.length)
  (hg:w.grownBy w1 (vs.getD k undef).ownBlock) (hu:w1.ownsRow B TI 1 u sp.length (sp.map ib7)) (hat:u.ownBlock=(vs.getD k undef).ownBlock∨(∃b,u.ownBlock=some b∧w.heap.size≤b)∨u.ownBlock=none) :
  dm7 TB TI (w1.setCell ⟨g,2*k+1,none⟩ u) B (.slice (some ⟨g,0,none⟩) out.length cap) (out.set k ⟨(out.getD k ⟨0,[]⟩).sat,sp⟩) (vs.set k u):=by
 have hk':k<vs.length:=by rw[h.len];exact hk
 have ev:vs.getD k undef=vs[k]:=by rw[List.getD_eq_getElem?_getD,List.getElem?_eq_getElem hk'];rfl
 have eo:out.getD k ⟨0,[]⟩=out[k]:=by rw[List.getD_eq_getElem?_getD,List.getElem?_eq_getElem hk];rfl
 rw[ev]at hg hat
 rw[eo]
 have hrow:=h.rows k hk hk'
 have howngrow:w1.ownsRow B TB 2 (.slice (some ⟨g,0,none⟩) out.length cap) out.length (je7 out vs):=h.own.kept hg (fb7 h.own hrow (Ne.symm hne))
 have hst:=howngrow.stored (2*k+1) u
 have hlen:(out.set k ⟨out[k].sat,sp⟩).length=out.length:=by simp
 have hcell:je7 (out.set k ⟨out[k].sat,sp⟩) (vs.set k u)=(je7 out vs).set (2*k+1) u:=by
  rw[bo7 _ _ _ hk h.len,gn7 (mk7 out vs k hk hk').1]
 have hug:u.ownBlock=none∨u.ownBlock≠some g:=fb7 hu howngrow hne
 refine⟨by rw[hlen,hcell];exact hst.1,by simp[h.len],fun i h1 h2=>?_,fun i j hi hj hij=>?_⟩
 ·have hi:i<out.length:=by simpa using h1
  have hi':i<vs.length:=by rw[h.len];exact hi
  by_cases e:k=i
  ·subst e
   have e1:(vs.set k u)[k]'h2=u:=by simp
   have e2:(out.set k ⟨out[k].sat,sp⟩)[k]'h1=⟨out[k].sat,sp⟩:=by simp
   rw[e1,e2]
   exact hu.kept hst.2 hug
  ·have e1:(vs.set k u)[i]'h2=vs[i]:=by rw[List.getElem_set_ne e]
   have e2:(out.set k ⟨out[k].sat,sp⟩)[i]'h1=out[i]:=by simp only[List.getElem_set,if_neg e]
   rw[e1,e2]
   have k1:=(h.rows i hi hi').kept hg (h.apart i _ hi' hk' (Ne.symm e))
   exact k1.kept hst.2 (fb7 k1 howngrow hne)
 ·have hlt:=h.blockLt
  simp only[List.length_set]at hi hj
  simp only[List.getElem_set]
  split
  ·rename_i ei
   split
   ·omega
   ·rename_i ej
    rcases hat with e | ⟨b,e,hb⟩ | e
    ·rw[e];exact h.apart _ j hk' hj ej
    ·refine .inr fun e'=>?_
     have:=hlt j hj b (by rw[← e',e]);omega
    ·exact .inl e
  ·rename_i ei
   split
   ·rename_i ej
    rcases hat with e | ⟨b,e,hb⟩ | e
    ·rw[e];exact h.apart i _ hi hk' (by omega)
    ·refine .inr fun e'=>?_
     have:=hlt i hi b (by rw[e',e]);omega
    ·rw[e]
     cases hv:vs[i].ownBlock with
     | none=>exact .inl rfl
     | some g=>exact .inr (by simp)
   ·exact h.apart i j hi hj hij
theorem dm7.rep {TB TI:Nat}{w:World}{B:Nat}{v:Value}{out:List ga7}{vs:List Value}(h:dm7 TB TI w B v out vs) (hw:∀b∈out,za7 b.sat∧∀s∈b.stops,za7 s):oo7.rep w (fun b=>B≤b) out [v]:=by
 have hr:∀i (h1:i<out.length) (h2:i<vs.length),cq7.rep w (fun b=>B≤b) out[i] [.int .i64 out[i].sat,vs[i]]:=fun i h1 h2 =>
  ⟨vs[i],rfl,(hw _ (List.getElem_mem h1)).1,kk7 (h.rows i h1 h2) (hw _ (List.getElem_mem h1)).2⟩
 rcases h.own.2 with ⟨rfl,hn⟩ | ⟨g,cap,cur,rfl,hg,hh,hn1,hc,hsz,ht⟩
 ·have:out=[]:=List.eq_nil_of_length_eq_zero hn
  subst this
  exact fh7 _ _ _
 ·have hR:Row w g TB (je7 out vs):=⟨cur,cur.toList.drop (out.length*2),hh,by rw[← ht,List.take_append_drop]⟩
  refine or7 (S:=cq7) (T:=TB) (List.zipWith (fun (b:ga7) u=>[.int .i64 b.sat,u]) out vs) (by simp[h.len]) (fun v hv=>?_) (fun i h1 h2=>?_) ?_ hn1 hc hg
  ·obtain⟨i,hi,rfl⟩:=List.getElem_of_mem hv
   simp only[List.getElem_zipWith];rfl
  ·rw[List.getElem_zipWith];exact hr i h1 _
  ·have:∀(out:List ga7) (vs:List Value),(List.zipWith (fun (b:ga7) u=>[Value.int .i64 b.sat,u]) out vs).flatten=je7 out vs:=by
    intro out
    induction out with
    | nil=>intro vs;simp[je7]
    | cons a l ih =>
     intro vs
     cases vs with
     | nil=>simp[je7]
     | cons v vs=>simp[je7,ih]
   rw[this];exact hR
theorem hnb7:(Tryz.prog.info? 124).map (fun i=>(i.zero,i.size,i.bytes))=some (some (.agg #[.slice none 0 0]),1,24):=by kernel_rfl
theorem bsb7:(Tryz.prog.info? 121).map (fun i=>(i.zero,i.size,i.bytes))=some (some (.agg #[.int .i64 0,.int .i64 0]),2,16):=by kernel_rfl
structure ts7 (many room:Int) (out:List (List ea7)) (left:Int):Prop where
 leftB:0≤left∧left≤room
 manyB:(out.length:Int)≤many
 lastB:((out.getD (out.length-1) []).length:Int)+left≤room∨out=[]
 someB:0<left→0<out.length
 wfB:∀t∈out,∀s∈t,za7 s.sat∧za7 s.load
theorem ts7.nil {many room:Int}(h1:0≤many) (h2:0≤room):ts7 many room [] 0 :=
 ⟨by omega,by simpa using h1,.inr rfl,fun h=>by omega,fun _ h=>by cases h⟩
theorem ts7.push {many room left:Int}{out:List (List ea7)}(h:ts7 many room out left) (h1:(out.length:Int)≠many) (h2:room≠0):ts7 many room (out++[[]]) room:=by
 have hl:=h.leftB
 have hm:=h.manyB
 refine⟨by omega,by rw[List.length_append];simp;omega,.inl ?_,fun _=>by simp,fun t ht s hs=>?_⟩
 ·rw[List.length_append,List.length_singleton,Nat.add_sub_cancel,List.getD_eq_getElem?_getD,List.getElem?_append_right (Nat.le_refl _),Nat.sub_self];simp
 ·rcases List.mem_append.1 ht with ht | ht
  ·exact h.wfB t ht s hs
  ·simp at ht;subst ht;cases hs
theorem ts7.stop {many room left much:Int}{out:List (List ea7)}{s:ea7}(h:ts7 many room out left) (hr:room≤1000000000) (h0:0<left) (h1:1≤much) (h2:much≤left) (hs:za7 s.sat∧za7 s.load):ts7 many room (zd7 out s) (left-much):=by
 have hl:=h.leftB
 have hp:=h.someB h0
 have hlen:(zd7 out s).length=out.length:=by unfold zd7;simp
 refine⟨by omega,by rw[hlen];exact h.manyB,.inl ?_,fun _=>by omega,fun t ht u hu=>?_⟩
 ·rcases h.lastB with h3 | h3
  ·have e:(zd7 out s).getD ((zd7 out s).length-1) []=out.getD (out.length-1) []++[s]:=by
    rw[hlen,List.getD_eq_getElem?_getD]
    unfold zd7
    rw[List.getElem?_set_self (by omega)];rfl
   rw[e,List.length_append];simp only[List.length_singleton];push_cast;omega
  ·rw[h3]at hp;cases hp
 ·unfold zd7 at ht
  rcases List.mem_or_eq_of_mem_set ht with ht | rfl
  ·exact h.wfB t ht u hu
  ·rcases List.mem_append.1 hu with hu | hu
   ·have hlt:out.length-1<out.length:=by omega
    rw[List.getD_eq_getElem?_getD,List.getElem?_eq_getElem hlt]at hu
    exact h.wfB _ (List.getElem_mem hlt) u hu
   ·simp at hu;subst hu;exact hs
end Go.Proofs.YtabadfkikdefeaaGreat


namespace Go.Proofs.YtabadfkikdefeaaGreat
open Go.RowKit
def lastT (out:List (List ea7)):List ea7:=out.getD (out.length-1) []
def vxb7 (t:List ea7):ea7:=t.getD (t.length-1) ⟨0,0⟩
def wmc7 (s:Int) (t:List ea7):Bool:=t.length==0 || (vxb7 t).sat != s
def drb7 (s:Int) (t:List ea7):List ea7:=if wmc7 s t then t++[⟨s,1⟩] else t.set (t.length-1) ⟨s,(vxb7 t).load+1⟩
def setLast (out:List (List ea7)) (t:List ea7):List (List ea7):=out.set (out.length-1) t
def wk7 (room:Int) (st:List (List ea7)×Int):List (List ea7)×Int:=if st.2=0 then (st.1++[[]],room) else st
def fxb7 (room:Int) (s:Nat) (st:List (List ea7)×Int):List (List ea7)×Int:=(setLast (wk7 room st).1 (drb7 s (lastT (wk7 room st).1)),(wk7 room st).2-1)
theorem yi7 (out:List (List ea7)) (t:List ea7):(setLast out t).length=out.length:=by unfold setLast;simp
theorem cell_of {w:World}{b k:Nat}{c:Array Value}{e:TypeId}{fz:Nat×Nat}(h:w.heap[b]? = some (.cells c e fz)):w.cell? ⟨b,k,none⟩=c[k]? := by simp[World.cell?,h]
end Go.Proofs.YtabadfkikdefeaaGreat


namespace Go.Proofs.YtabadfkikdefeaaGreat
open Go.RowKit
structure am7 (room:Int) (cnt:Nat) (out:List (List ea7)) (left:Int):Prop where
 leftB:0≤left∧left≤room
 lenB:out.length≤cnt
 someB:0<left→0<out.length
 stB:∀t∈out,t.length≤cnt∧∀s∈t,(0≤s.sat∧s.sat≤1000)∧0≤s.load∧s.load≤cnt
theorem aub7 {out:List (List ea7)}(h:0<out.length):lastT out∈out:=by
 unfold lastT
 rw[List.getD_eq_getElem?_getD,List.getElem?_eq_getElem (by omega)];exact List.getElem_mem _
theorem iub7 {t:List ea7}(h:0<t.length):vxb7 t∈t:=by
 unfold vxb7
 rw[List.getD_eq_getElem?_getD,List.getElem?_eq_getElem (by omega)];exact List.getElem_mem _
theorem am7.nil {room:Int}(h:0≤room):am7 room 0 [] 0:=⟨by omega,Nat.le_refl _,fun h=>absurd h (by decide),fun _ h=>by cases h⟩
theorem am7.ready {room left:Int}{cnt:Nat}{out:List (List ea7)}(h:am7 room cnt out left) (hr:1≤room):am7 room (cnt+1) (wk7 room (out,left)).1 (wk7 room (out,left)).2∧0<(wk7 room (out,left)).2:=by
 have hl:=h.leftB
 unfold wk7
 by_cases hz:left=0
 ·rw[if_pos hz]
  refine⟨⟨⟨by show 0≤room;omega,Int.le_refl _⟩,by have:=h.lenB;simp;omega,fun _=>by simp,fun t ht=>?_⟩,by show 0<room;omega⟩
  rcases List.mem_append.1 ht with ht | ht
  ·have:=h.stB t ht;exact⟨by omega,fun s hs=>by have:=this.2 s hs;push_cast;omega⟩
  ·simp at ht;subst ht;exact⟨by simp,fun s hs=>by cases hs⟩
 ·rw[if_neg hz]
  refine⟨⟨hl,by have:=h.lenB;show out.length≤_;omega,h.someB,fun t ht=>?_⟩,by show 0<left;omega⟩
  have:=h.stB t ht;exact⟨by omega,fun s hs=>by have:=this.2 s hs;push_cast;omega⟩
theorem am7.step {room left:Int}{cnt s:Nat}{out:List (List ea7)}(h:am7 room cnt out left) (hr:1≤room) (hs:s≤1000):am7 room (cnt+1) (fxb7 room s (out,left)).1 (fxb7 room s (out,left)).2:=by
 have hl:=h.leftB
 have hrd:=h.ready hr
 have hst:∀t∈(wk7 room (out,left)).1,t.length≤cnt∧∀u∈t,(0≤u.sat∧u.sat≤1000)∧0≤u.load∧u.load≤cnt:=by
  unfold wk7
  split
  ·intro t ht
   rcases List.mem_append.1 ht with ht | ht
   ·exact h.stB t ht
   ·simp at ht;subst ht;exact⟨Nat.zero_le _,fun s hs=>by cases hs⟩
  ·exact h.stB
 unfold fxb7
 generalize wk7 room (out,left)=st at *
 have hp:=hrd.1.someB hrd.2
 have hlm:=hst _ (aub7 hp)
 have hlr:=hrd.1.leftB
 have hlen:=hrd.1.lenB
 refine⟨⟨by show 0≤st.2-1;omega,by show st.2-1≤room;omega⟩,by show (setLast st.1 _).length≤_;rw[yi7];exact hlen,fun _=>by show 0<(setLast st.1 _).length;rw[yi7];exact hp,fun t ht=>?_⟩
 have ht':t∈setLast st.1 (drb7 s (lastT st.1)):=ht
 unfold setLast at ht'
 rcases List.mem_or_eq_of_mem_set ht' with hm | rfl
 ·have:=hst t hm;exact⟨by omega,fun u hu=>by have:=this.2 u hu;push_cast;omega⟩
 ·generalize lastT st.1=t at hlm
  unfold drb7
  split
  ·refine⟨by rw[List.length_append];simp;omega,fun u hu=>?_⟩
   rcases List.mem_append.1 hu with hu | hu
   ·have:=hlm.2 u hu;push_cast;omega
   ·obtain rfl:=List.mem_singleton.1 hu
    show (0≤(s:Int)∧(s:Int)≤1000)∧(0:Int)≤1∧(1:Int)≤((cnt+1:Nat):Int)
    omega
  ·rename_i hn
   refine⟨by rw[List.length_set];omega,fun u hu=>?_⟩
   rcases List.mem_or_eq_of_mem_set hu with hu | rfl
   ·have:=hlm.2 u hu;push_cast;omega
   ·have h0:0<t.length:=by
     unfold wmc7 at hn
     simp only[Bool.or_eq_true,beq_iff_eq,not_or]at hn
     omega
    have:=hlm.2 _ (iub7 h0)
    simp only[];push_cast;omega
theorem klb7:∀(t:List ea7) (k:Nat) (h:k<t.length) (v:Int),(t.set k ⟨t[k].sat,v⟩).flatMap stopV=(t.flatMap stopV).set (2*k+1) (.int .i64 v)
 | [],k,h,_=>absurd h (Nat.not_lt_zero _)
 | a::t,0,_,v=>rfl
 | a::t,k+1,h,v=>by
  have:=klb7 t k (by simpa using h) v
  simp only[List.set_cons_succ,List.getElem_cons_succ,List.flatMap_cons,this]
  rw[show 2*(k+1)+1=(2*k+1)+1+1 by omega]
  rfl
theorem flat_get:∀(t:List ea7) (k:Nat) (h:k<t.length) (h':2*k+1<(t.flatMap stopV).length) (h'':2*k<(t.flatMap stopV).length),(t.flatMap stopV)[2*k] = .int .i64 t[k].sat∧(t.flatMap stopV)[2*k+1] = .int .i64 t[k].load
 | [],k,h,_,_=>absurd h (Nat.not_lt_zero _)
 | a::t,0,_,_,_=>⟨rfl,rfl⟩
 | a::t,k+1,h,h',h''=>by
  have hl:(t.flatMap stopV).length=t.length*2:=nq7 t
  have hk:k<t.length:=by simpa using h
  have:=flat_get t k hk (by omega) (by omega)
  have e:(a::t).flatMap stopV = .int .i64 a.sat :: .int .i64 a.load::t.flatMap stopV:=rfl
  simp only[e,show 2*(k+1)=2*k+1+1 by omega,List.getElem_cons_succ]
  exact this
theorem fk7.load {TT TS:Nat}{w:World}{B gs c:Nat}{v:Value}{out:List (List ea7)}{vs:List Value}(h:fk7 TT TS w B v out vs) (hne:TS≠TT) (hpos:0<out.length)
  (hv:vs.getD (out.length-1) undef = .slice (some ⟨gs,0,none⟩) (lastT out).length c) {k:Nat} (hk:k<(lastT out).length) (x:Int) :
  fk7 TT TS (w.setCell ⟨gs,2*k+1,none⟩ (.int .i64 x)) B v (setLast out ((lastT out).set k ⟨(lastT out)[k].sat,x⟩)) vs∧w.grownBy (w.setCell ⟨gs,2*k+1,none⟩ (.int .i64 x)) (some gs):=by
 have hl:out.length-1<out.length:=by omega
 have hl':out.length-1<vs.length:=by rw[h.len];exact hl
 have ev:vs.getD (out.length-1) undef=vs[out.length-1]:=by rw[List.getD_eq_getElem?_getD,List.getElem?_eq_getElem hl'];rfl
 have eo:lastT out=out[out.length-1]:=by unfold lastT;rw[List.getD_eq_getElem?_getD,List.getElem?_eq_getElem hl];rfl
 have hrow:=h.rows _ hl hl'
 rw[← ev,hv,← eo]at hrow
 have hst:=hrow.stored (2*k+1) (.int .i64 x)
 have hblk:(vs[out.length-1]).ownBlock=some gs:=by rw[← ev,hv];rfl
 refine⟨⟨?_,by rw[yi7];exact h.len,fun i h1 h2=>?_,h.apart⟩,hst.2⟩
 ·rw[yi7]
  refine h.own.kept hst.2 ?_
  rw[← hblk]
  exact fb7 h.own (h.rows _ hl hl') (Ne.symm hne)
 ·have hi:i<out.length:=by rw[yi7]at h1;exact h1
  have hi':i<vs.length:=by rw[h.len];exact hi
  by_cases e:out.length-1=i
  ·subst e
   have e2:(setLast out ((lastT out).set k ⟨(lastT out)[k].sat,x⟩))[out.length-1]'h1=(lastT out).set k ⟨(lastT out)[k].sat,x⟩:=by simp[setLast]
   rw[e2,klb7 _ _ hk,List.length_set,← ev,hv]
   exact hst.1
  ·have e2:(setLast out ((lastT out).set k ⟨(lastT out)[k].sat,x⟩))[i]'h1=out[i]:=by simp only[setLast,List.getElem_set,if_neg e]
   rw[e2]
   refine (h.rows i hi hi').kept hst.2 ?_
   rw[← hblk]
   exact h.apart i _ hi' hl' (Ne.symm e)
theorem am7.one {room left:Int}{cnt s:Nat}{out:List (List ea7)}(h:am7 room cnt out left) (hr:1≤room) (hs:s≤1000) :
  ∃o l,wk7 room (out,left)=(o,l)∧am7 room (cnt+1) o l∧0<l∧0<o.length∧(∀t∈o,t.length≤cnt∧∀u∈t,(0≤u.sat∧u.sat≤1000)∧0≤u.load∧u.load≤cnt)∧fxb7 room s (out,left)=(setLast o (drb7 s (lastT o)),l-1)∧am7 room (cnt+1) (setLast o (drb7 s (lastT o))) (l-1):=by
 have h1:=h.ready hr
 have h2:=h.step hr hs
 have hst:∀t∈(wk7 room (out,left)).1,t.length≤cnt∧∀u∈t,(0≤u.sat∧u.sat≤1000)∧0≤u.load∧u.load≤cnt:=by
  unfold wk7
  split
  ·intro t ht
   rcases List.mem_append.1 ht with ht | ht
   ·exact h.stB t ht
   ·obtain rfl:=List.mem_singleton.1 ht
    exact⟨Nat.zero_le _,fun s hs=>by cases hs⟩
  ·exact h.stB
 exact⟨_,_,rfl,h1.1,h1.2,h1.1.someB h1.2,hst,rfl,h2⟩
theorem dm7.keptSet {TB TI TP:Nat}{w:World}{B p j:Nat}{v u:Value}{cs:List Value}{out:List ga7}{vs:List Value}(h:dm7 TB TI w B v out vs) (hr:Row w p TP cs) (h1:TP≠TB) (h2:TP≠TI):dm7 TB TI (w.setCell ⟨p,j,none⟩ u) B v out vs:=by
 refine h.kept (pg7 w ⟨p,j,none⟩ u) ?_ fun i hi=>?_
 ·cases e:v.ownBlock with
  | none=>exact .inl rfl
  | some g=>exact .inr (fun e'=>ec7 h.own hr h1 (by rw[e,← e']))
 ·cases e:vs[i].ownBlock with
  | none=>exact .inl rfl
  | some g=>exact .inr (fun e'=>ec7 (h.rows i (by rw[← h.len];exact hi) hi) hr h2 (by rw[e,← e']))
theorem fk7.keptSet {TT TS TP:Nat}{w:World}{B p j:Nat}{v u:Value}{cs:List Value}{out:List (List ea7)}{vs:List Value}(h:fk7 TT TS w B v out vs) (hr:Row w p TP cs) (h1:TP≠TT) (h2:TP≠TS):fk7 TT TS (w.setCell ⟨p,j,none⟩ u) B v out vs:=by
 have hg:=pg7 w ⟨p,j,none⟩ u
 refine⟨h.own.kept hg ?_,h.len,fun i k1 k2=>(h.rows i k1 k2).kept hg ?_,h.apart⟩
 ·cases e:v.ownBlock with
  | none=>exact .inl rfl
  | some g=>exact .inr (fun e'=>ec7 h.own hr h1 (by rw[e,← e']))
 ·cases e:vs[i].ownBlock with
  | none=>exact .inl rfl
  | some g=>exact .inr (fun e'=>ec7 (h.rows i k1 k2) hr h2 (by rw[e,← e']))
theorem dm7.keptOwn {TB TI T k n:Nat}{w w':World}{B B':Nat}{v u:Value}{xs:List Value}{out:List ga7}{vs:List Value}(h:dm7 TB TI w B v out vs) (ho:w.ownsRow B' T k u n xs) (hg:w.grownBy w' u.ownBlock) (h1:TB≠T) (h2:TI≠T):dm7 TB TI w' B v out vs :=
 h.kept hg (fb7 h.own ho h1) fun i hi=>fb7 (h.rows i (by rw[← h.len];exact hi) hi) ho h2
theorem mc7 {w:World}{B B' T n k:Nat}{v:Value}{xs:List Value}(h:w.ownsRow B T k v n xs) (hb:B'≤B):w.ownsRow B' T k v n xs :=
 ⟨h.1,h.2.imp id fun ⟨g,cap,cur,hv,hg,r⟩=>⟨g,cap,cur,hv,Nat.le_trans hb hg,r⟩⟩
theorem fk7.mono {TT TS:Nat}{w:World}{B B':Nat}{v:Value}{out:List (List ea7)}{vs:List Value}(h:fk7 TT TS w B v out vs) (hb:B'≤B):fk7 TT TS w B' v out vs :=
 ⟨mc7 h.own hb,h.len,fun i h1 h2=>mc7 (h.rows i h1 h2) hb,h.apart⟩
theorem dm7.mono {TT TS:Nat}{w:World}{B B':Nat}{v:Value}{out:List ga7}{vs:List Value}(h:dm7 TT TS w B v out vs) (hb:B'≤B):dm7 TT TS w B' v out vs :=
 ⟨mc7 h.own hb,h.len,fun i h1 h2=>mc7 (h.rows i h1 h2) hb,h.apart⟩
theorem hsb7:(Tryz.prog.info? 70).map (fun i=>(i.zero,i.size,i.bytes))=some (some (.agg #[.int .i64 0,.slice none 0 0]),2,32):=by kernel_rfl
theorem uu7 {w:World}{F:Nat→Prop}{l:List ea7}{v:Value}(h:(ia7 oe7).rep w F l [v]):∃a c,v = .slice a l.length c∧(∀s∈l,za7 s.sat∧za7 s.load)∧(0<l.length→∃b off,a=some ⟨b,off,none⟩∧∀j (hj:j<(l.flatMap stopV).length),w.cell? ⟨b,off+j,none⟩=some (l.flatMap stopV)[j]):=by
 obtain⟨a,b,off,c,hs,h1,h2,h3,h4⟩:=h
 obtain rfl:=List.cons.inj hs |>.1
 have hen:∀i (hi:i<l.length),w.cell? ⟨b,off+i*2,none⟩=some (.int .i64 l[i].sat)∧w.cell? ⟨b,off+i*2+1,none⟩=some (.int .i64 l[i].load)∧za7 l[i].sat∧za7 l[i].load:=fun i hi=>by
  obtain⟨es,⟨rfl,hw⟩,hc⟩:=h4 i hi
  have e0:=hc 0 (by decide)
  have e1:=hc 1 (by decide)
  exact⟨by simpa[oe7,xc7]using e0,by simpa[oe7,xc7]using e1,hw⟩
 refine⟨a,c,rfl,fun s hs=>?_,fun h0=>⟨b,off,(h3 h0).1,fun j hj=>?_⟩⟩
 ·obtain⟨i,hi,rfl⟩:=List.getElem_of_mem hs
  exact (hen i hi).2.2
 ·have hl:=nq7 l
  have hi:j / 2<l.length:=by omega
  have hg:=flat_get l (j / 2) hi (by omega) (by omega)
  have he:=hen (j / 2) hi
  rcases Nat.mod_two_eq_zero_or_one j with hm | hm
  ·have e:j=2*(j / 2):=by omega
   have e2:off+j=off+j / 2*2:=by omega
   rw[e2,he.1]
   congr 1
   rw[← hg.1]
   congr 1;omega
  ·have e2:off+j=off+j / 2*2+1:=by omega
   rw[e2,he.2.1]
   congr 1
   rw[← hg.2]
   congr 1;omega
theorem ufb7 {w:World}{F:Nat→Prop}{l:List ea7}{v:Value}(h:(ia7 oe7).rep w F l [v]) (hn:l.length≤1000000) :
  Calls Tryz.prog 136 #[v] w fun e w'=>∃u,e = .returned u∧w'.ownsRow w.heap.size 121 2 u l.length (l.flatMap stopV)∧Below w.heap.size w w':=by
 obtain⟨a,c,rfl,-,hcell⟩:=uu7 h
 clear h
 cases a with
 | none =>
  have h0:l=[]:=by
   cases l with
   | nil=>rfl
   | cons s l=>obtain⟨b,off,e,-⟩:=hcell (by simp);cases e
  subst h0
  clear hcell
  have q22:∀(w:World) (a:Option Addr) (n c n' c':Nat),(binOp .eql 122 (.slice a n c) (.slice none n' c')).run Tryz.prog w = .ok (.bool a.isNone) w:=fun w a n c n' c'=>Lib.run_eql_slice_nil w _ _ a n c n' c' Tryz.underlying122
  go_enter Tryz.func136,Tryz.ntmps136
  go_wp2
  go_ret
  exact⟨_,rfl,World.ownsRow_nil _ _ _ _,Below.refl _ _⟩
 | some a =>
  have hnews:∀j u,(l.flatMap stopV)[j]? = some u→(w.alloc (.cells #[] 121)).cell? (a.add j)=some u:=fun j u hj=>by
   have hjl:=(List.getElem?_eq_some_iff.1 hj).1
   have hl:=nq7 l
   obtain⟨b,off,e,hc⟩:=hcell (by omega)
   obtain rfl:=Option.some.inj e
   rw[Addr.add_lit]
   have:=hc j hjl
   rw[(List.getElem?_eq_some_iff.1 hj).2]at this
   exact aa7 ((Below.refl _ _).alloc (Nat.le_refl _) _) this
  have hone:∀u∈l.flatMap stopV,u.oneCell'=true:=fun u hu=>by
   obtain⟨s,_,hu⟩:=List.mem_flatMap.1 hu
   simp[stopV]at hu
   rcases hu with rfl | rfl <;> rfl
  have hfl:=nq7 l
  have HNEWS:=hid hnews
  have HONE:=hid hone
  clear hcell hnews hone
  obtain⟨i1,hi,hi0,hi1,hi2⟩:=info_parts bsb7
  have hown1:=World.ownsRow_lit (base:=w.heap.size) (e:=121) (size:=2) w #[] 0 (Nat.le_refl _) (by unfold maxLen;omega) rfl
  have q22:∀(w:World) (a:Option Addr) (n c n' c':Nat),(binOp .eql 122 (.slice a n c) (.slice none n' c')).run Tryz.prog w = .ok (.bool a.isNone) w:=fun w a n c n' c'=>Lib.run_eql_slice_nil w _ _ a n c n' c' Tryz.underlying122
  go_enter Tryz.func136,Tryz.ntmps136
  go_wp2_with (at_builtin;refine wpList_append_own _ rfl _ _ 122 rfl w.heap.size 121 i1 (.agg #[.int .i64 0,.int .i64 0]) 2 16 Tryz.underlying122 hi hi0 hi1 hi2 rfl (by decide) _ _ _ rfl hown1 a l.length c (l.flatMap stopV) rfl hfl HNEWS.out HONE.out ?c3 ?c4 ?c5 ?_)
  case c3=>unfold maxLen;omega
  case c4=>omega
  intro v' w2 hown' hgrow _
  have HB:=hid (ce7 (w:=w.alloc (.cells #[] 121)) ((Below.refl w.heap.size w).alloc (Nat.le_refl _) _) hown1 (by simp) (Nat.le_refl _) hgrow)
  have HO:=hid (show w2.ownsRow w.heap.size 121 2 v' l.length (l.flatMap stopV) from by simpa using hown')
  clear hown' hgrow hown1 hi hi0 hi1 hi2
  go_wp2
  go_ret
  exact⟨_,rfl,HO.out,HB.out⟩
theorem ghb7 {w:World}{F:Nat→Prop}{l:List Int}{v:Value}(h:(ia7 hf7).rep w F l [v]) (hn:l.length≤1000000) :
  Calls Tryz.prog 137 #[v] w fun e w'=>∃u,e = .returned u∧w'.ownsRow w.heap.size 3 1 u l.length (l.map ib7)∧Below w.heap.size w w':=by
 obtain⟨a,b,off,c,hs,-,-,ha,-,hcell,-⟩:=bb7 h
 obtain rfl:=List.cons.inj hs |>.1
 clear h hs
 cases a with
 | none =>
  have h0:l=[]:=by
   cases l with
   | nil=>rfl
   | cons s l=>have:=ha (by simp);cases this
  subst h0
  clear hcell ha
  have q22:∀(w:World) (a:Option Addr) (n c n' c':Nat),(binOp .eql 68 (.slice a n c) (.slice none n' c')).run Tryz.prog w = .ok (.bool a.isNone) w:=fun w a n c n' c'=>Lib.run_eql_slice_nil w _ _ a n c n' c' Tryz.underlying68
  go_enter Tryz.func137,Tryz.ntmps137
  go_wp2
  go_ret
  exact⟨_,rfl,World.ownsRow_nil _ _ _ _,Below.refl _ _⟩
 | some a =>
  have hnews:∀j u,(l.map ib7)[j]? = some u→(w.alloc (.cells #[] 3)).cell? (a.add j)=some u:=fun j u hj=>by
   have hjl:=(List.getElem?_eq_some_iff.1 hj).1
   rw[List.length_map]at hjl
   obtain rfl:=Option.some.inj (ha (by omega))
   rw[Addr.add_lit]
   have:=hcell j hjl
   rw[← (List.getElem?_eq_some_iff.1 hj).2,List.getElem_map]
   exact aa7 ((Below.refl _ _).alloc (Nat.le_refl _) _) this
  have hone:∀u∈l.map ib7,u.oneCell'=true:=fun u hu=>by
   obtain⟨s,_,rfl⟩:=List.mem_map.1 hu;rfl
  have hfl:(l.map ib7).length=l.length*1:=by rw[List.length_map,Nat.mul_one]
  have HNEWS:=hid hnews
  have HONE:=hid hone
  clear hcell hnews hone ha
  obtain⟨i1,hi,hi0,hi1,hi2⟩:=info_parts ql7
  have hown1:=World.ownsRow_lit (base:=w.heap.size) (e:=3) (size:=1) w #[] 0 (Nat.le_refl _) (by unfold maxLen;omega) rfl
  have q22:∀(w:World) (a:Option Addr) (n c n' c':Nat),(binOp .eql 68 (.slice a n c) (.slice none n' c')).run Tryz.prog w = .ok (.bool a.isNone) w:=fun w a n c n' c'=>Lib.run_eql_slice_nil w _ _ a n c n' c' Tryz.underlying68
  go_enter Tryz.func137,Tryz.ntmps137
  go_wp2_with (at_builtin;refine wpList_append_own _ rfl _ _ 68 rfl w.heap.size 3 i1 (.int .i64 0) 1 8 Tryz.underlying68 hi hi0 hi1 hi2 rfl (by decide) _ _ _ rfl hown1 a l.length c (l.map ib7) rfl hfl HNEWS.out HONE.out ?c3 ?c4 ?c5 ?_)
  case c3=>unfold maxLen;omega
  case c4=>omega
  intro v' w2 hown' hgrow _
  have HB:=hid (ce7 (w:=w.alloc (.cells #[] 3)) ((Below.refl w.heap.size w).alloc (Nat.le_refl _) _) hown1 (by simp) (Nat.le_refl _) hgrow)
  have HO:=hid (show w2.ownsRow w.heap.size 3 1 v' l.length (l.map ib7) from by simpa using hown')
  clear hown' hgrow hown1 hi hi0 hi1 hi2
  go_wp2
  go_ret
  exact⟨_,rfl,HO.out,HB.out⟩
end Go.Proofs.YtabadfkikdefeaaGreat

