/- Texts of the proof, joined: BOwn, HTrucks, Ratio, OrdLaw, Unit, InsRow, Insert, OrderW, TrucksW, OwnMore, Clone, Tail2. -/
import Derived.Maps.AppendAt
import Derived.Shelf.Spec.SlicesInsertGrow
import Derived.BigQuiet
import Derived.BigRegion
import Derived.Lib.SliceRun
import Derived.Test.YtedahhjopmkbbaaGreatP1
set_option linter.all false
set_option maxRecDepth 100000
set_option maxHeartbeats 6400000
namespace Go.Proofs.YtedahhjopmkbbaaGreat
open Go.RowKit
def fe7:List ga7→List Value→List Value
 | b::out,u::vs=>.int .i64 b.sat::u::fe7 out vs
 | _,_=>[]
theorem oi7:∀(out:List ga7) (vs:List Value),vs.length=out.length→(fe7 out vs).length=out.length*2
 | [],[],_=>rfl
 | b::out,u::vs,h=>by
  have:=oi7 out vs (by simpa using h)
  simp only[fe7,List.length_cons,this];omega
 | [],_::_,h=>by cases h
 | _::_,[],h=>by cases h
theorem zv7:∀(out:List ga7) (vs:List Value) (b:ga7) (u:Value),vs.length=out.length→fe7 (out++[b]) (vs++[u])=fe7 out vs++[.int .i64 b.sat,u]
 | [],[],_,_,_=>rfl
 | a::out,v::vs,b,u,h=>by
  have:=zv7 out vs b u (by simpa using h)
  simp only[List.cons_append,fe7,this]
 | [],_::_,_,_,h=>by cases h
 | _::_,[],_,_,h=>by cases h
theorem ig7:∀(out:List ga7) (vs:List Value) (k:Nat) (h:k<out.length) (h':k<vs.length),(fe7 out vs)[2*k]? = some (.int .i64 out[k].sat)∧(fe7 out vs)[2*k+1]? = some vs[k]
 | a::out,v::vs,0,_,_=>⟨rfl,rfl⟩
 | a::out,v::vs,k+1,h,h'=>by
  have:=ig7 out vs k (by simpa using h) (by simpa using h')
  simp only[fe7,show 2*(k+1)=2*k+1+1 by omega,List.getElem?_cons_succ,List.getElem_cons_succ]
  exact this
 | [],_,_,h,_=>absurd h (Nat.not_lt_zero _)
 | _::_,[],_,_,h=>absurd h (Nat.not_lt_zero _)
theorem yn7:∀(out:List ga7) (vs:List Value) (k:Nat) (_:k<out.length) (_:vs.length=out.length) (b:ga7) (u:Value),fe7 (out.set k b) (vs.set k u)=((fe7 out vs).set (2*k) (.int .i64 b.sat)).set (2*k+1) u
 | a::out,v::vs,0,_,_,b,u=>rfl
 | a::out,v::vs,k+1,h,h',b,u=>by
  have:=yn7 out vs k (by simpa using h) (by simpa using h') b u
  simp only[fe7,List.set_cons_succ,this,show 2*(k+1)=2*k+1+1 by omega]
 | [],_,_,h,_,_,_=>absurd h (Nat.not_lt_zero _)
 | _::_,[],_,_,h,_,_=>by cases h
theorem bo7 {α:Type}{l:List α}{k:Nat}{v:α}(h:l[k]? = some v):l.set k v=l:=by
 apply List.ext_getElem?
 intro i
 rw[List.getElem?_set]
 split
 ·rename_i e;subst e
  split
  ·exact h.symm
  ·rename_i hl;rw[List.getElem?_eq_none (by omega)]
 ·rfl
structure zh7 (TB TI:Nat) (w:World) (B:Nat) (v:Value) (out:List ga7) (vs:List Value):Prop where
 own:w.ownsRow B TB 2 v out.length (fe7 out vs)
 len:vs.length=out.length
 rows:∀i (h:i<out.length) (h':i<vs.length),w.ownsRow B TI 1 vs[i] out[i].stops.length (out[i].stops.map jc7)
 apart:∀i j (hi:i<vs.length) (hj:j<vs.length),i≠j→vs[i].ownBlock=none∨vs[i].ownBlock≠vs[j].ownBlock
theorem zh7.nil (TB TI:Nat) (w:World) (B:Nat):zh7 TB TI w B (.slice none 0 0) [] [] :=
 ⟨World.ownsRow_nil _ _ _ _,rfl,fun _ h=>absurd h (Nat.not_lt_zero _),fun _ _ h=>absurd h (Nat.not_lt_zero _)⟩
theorem zh7.below {TB TI:Nat}{w w':World}{B:Nat}{v:Value}{out:List ga7}{vs:List Value}(h:zh7 TB TI w B v out vs) (hb:Below w.heap.size w w'):zh7 TB TI w' B v out vs :=
 ⟨rb7 h.own hb,h.len,fun i h1 h2=>rb7 (h.rows i h1 h2) hb,h.apart⟩
theorem zh7.blockLt {TB TI:Nat}{w:World}{B:Nat}{v:Value}{out:List ga7}{vs:List Value}(h:zh7 TB TI w B v out vs):∀i (hi:i<vs.length) b,vs[i].ownBlock=some b→b<w.heap.size:=fun i hi b hb =>
 ((h.rows i (by rw[← h.len];exact hi) hi).lt b hb).2
theorem zh7.kept {TB TI:Nat}{w w':World}{B:Nat}{v:Value}{out:List ga7}{vs:List Value}{row:Option Nat}(h:zh7 TB TI w B v out vs) (hg:w.grownBy w' row) (h1:v.ownBlock=none∨v.ownBlock≠row) (h2:∀i (hi:i<vs.length),vs[i].ownBlock=none∨vs[i].ownBlock≠row):zh7 TB TI w' B v out vs :=
 ⟨h.own.kept hg h1,h.len,fun i k1 k2=>(h.rows i k1 k2).kept hg (h2 i k2),h.apart⟩
theorem zh7.push {TB TI:Nat}{w w':World}{B:Nat}{v v' u:Value}{out:List ga7}{vs:List Value}{b:ga7}(h:zh7 TB TI w B v out vs) (hne:TI≠TB) (hg:w.grownBy w' v.ownBlock)
  (ho:w'.ownsRow B TB 2 v' (out.length+1) (fe7 out vs++[.int .i64 b.sat,u])) (hu:w.ownsRow B TI 1 u b.stops.length (b.stops.map jc7))
  (ha:∀i (hi:i<vs.length),(vs[i].ownBlock=none∨vs[i].ownBlock≠u.ownBlock)∧(u.ownBlock=none∨u.ownBlock≠vs[i].ownBlock)):zh7 TB TI w' B v' (out++[b]) (vs++[u]):=by
 refine⟨by rw[zv7 _ _ _ _ h.len,List.length_append];exact ho,by simp[h.len],fun i h1 h2=>?_,fun i j hi hj hij=>?_⟩
 ·by_cases hl:i<out.length
  ·have hl':i<vs.length:=by rw[h.len];exact hl
   rw[List.getElem_append_left hl',List.getElem_append_left hl]
   exact (h.rows i hl hl').kept hg (xa7 (h.rows i hl hl') h.own hne)
  ·have:i=out.length:=by simp at h1;omega
   subst this
   have e1:(vs++[u])[out.length]'h2=u:=by rw[List.getElem_append_right (by rw[h.len];exact Nat.le_refl _)];simp[h.len]
   have e2:(out++[b])[out.length]'h1=b:=by rw[List.getElem_append_right (Nat.le_refl _)];simp
   rw[e1,e2]
   exact hu.kept hg (xa7 hu h.own hne)
 ·simp only[List.length_append,List.length_cons,List.length_nil]at hi hj
  by_cases h1:i<vs.length
  ·by_cases h2:j<vs.length
   ·rw[List.getElem_append_left h1,List.getElem_append_left h2];exact h.apart i j h1 h2 hij
   ·have:j=vs.length:=by omega
    subst this
    rw[List.getElem_append_left h1,List.getElem_append_right (Nat.le_refl _)]
    simp only[Nat.sub_self,List.getElem_cons_zero]
    exact (ha i h1).1
  ·have:i=vs.length:=by omega
   subst this
   have h2:j<vs.length:=by omega
   rw[List.getElem_append_left h2,List.getElem_append_right (Nat.le_refl _)]
   simp only[Nat.sub_self,List.getElem_cons_zero]
   exact (ha j h2).2
theorem zh7.stops {TB TI:Nat}{w w1:World}{B g cap k:Nat}{out:List ga7}{vs:List Value}{u:Value}{sp:List Int}(h:zh7 TB TI w B (.slice (some ⟨g,0,none⟩) out.length cap) out vs) (hne:TI≠TB) (hk:k<out.length)
  (hg:w.grownBy w1 (vs.getD k undef).ownBlock) (hu:w1.ownsRow B TI 1 u sp.length (sp.map jc7)) (hat:u.ownBlock=(vs.getD k undef).ownBlock∨(∃b,u.ownBlock=some b∧w.heap.size≤b)∨u.ownBlock=none) :
  zh7 TB TI (w1.setCell ⟨g,2*k+1,none⟩ u) B (.slice (some ⟨g,0,none⟩) out.length cap) (out.set k ⟨(out.getD k ⟨0,[]⟩).sat,sp⟩) (vs.set k u):=by
 have hk':k<vs.length:=by rw[h.len];exact hk
 have ev:vs.getD k undef=vs[k]:=by rw[List.getD_eq_getElem?_getD,List.getElem?_eq_getElem hk'];rfl
 have eo:out.getD k ⟨0,[]⟩=out[k]:=by rw[List.getD_eq_getElem?_getD,List.getElem?_eq_getElem hk];rfl
 rw[ev]at hg hat
 rw[eo]
 have hrow:=h.rows k hk hk'
 have howngrow:w1.ownsRow B TB 2 (.slice (some ⟨g,0,none⟩) out.length cap) out.length (fe7 out vs):=h.own.kept hg (xa7 h.own hrow (Ne.symm hne))
 have hst:=howngrow.stored (2*k+1) u
 have hlen:(out.set k ⟨out[k].sat,sp⟩).length=out.length:=by simp
 have hcell:fe7 (out.set k ⟨out[k].sat,sp⟩) (vs.set k u)=(fe7 out vs).set (2*k+1) u:=by
  rw[yn7 _ _ _ hk h.len,bo7 (ig7 out vs k hk hk').1]
 have hug:u.ownBlock=none∨u.ownBlock≠some g:=xa7 hu howngrow hne
 refine⟨by rw[hlen,hcell];exact hst.1,by simp[h.len],fun i h1 h2=>?_,fun i j hi hj hij=>?_⟩
 ·have hi:i<out.length:=by simpa using h1
  have hi':i<vs.length:=by rw[h.len];exact hi
  by_cases e:k=i
  ·subst e
   have e1:(vs.set k u)[k]'h2=u:=by simp
   have e2:(out.set k ⟨out[k].sat,sp⟩)[k]'h1=⟨out[k].sat,sp⟩:=by simp
   rw[e1,e2]
   exact hu.kept hst.2 hug
  ·have e1:(vs.set k u)[i]'h2=vs[i]:=by rw[List.getElem_set_ne e]
   have e2:(out.set k ⟨out[k].sat,sp⟩)[i]'h1=out[i]:=by simp only[List.getElem_set,if_neg e]
   rw[e1,e2]
   have k1:=(h.rows i hi hi').kept hg (h.apart i _ hi' hk' (Ne.symm e))
   exact k1.kept hst.2 (xa7 k1 howngrow hne)
 ·have hlt:=h.blockLt
  simp only[List.length_set]at hi hj
  simp only[List.getElem_set]
  split
  ·rename_i ei
   split
   ·omega
   ·rename_i ej
    rcases hat with e | ⟨b,e,hb⟩ | e
    ·rw[e];exact h.apart _ j hk' hj ej
    ·refine .inr fun e'=>?_
     have:=hlt j hj b (by rw[← e',e]);omega
    ·exact .inl e
  ·rename_i ei
   split
   ·rename_i ej
    rcases hat with e | ⟨b,e,hb⟩ | e
    ·rw[e];exact h.apart i _ hi hk' (by omega)
    ·refine .inr fun e'=>?_
     have:=hlt i hi b (by rw[e',e]);omega
    ·rw[e]
     cases hv:vs[i].ownBlock with
     | none=>exact .inl rfl
     | some g=>exact .inr (by simp)
   ·exact h.apart i j hi hj hij
theorem zh7.rep {TB TI:Nat}{w:World}{B:Nat}{v:Value}{out:List ga7}{vs:List Value}(h:zh7 TB TI w B v out vs) (hw:∀b∈out,oa7 b.sat∧∀s∈b.stops,oa7 s):oab7.rep w (fun b=>B≤b) out [v]:=by
 have hr:∀i (h1:i<out.length) (h2:i<vs.length),gjb7.rep w (fun b=>B≤b) out[i] [.int .i64 out[i].sat,vs[i]]:=fun i h1 h2 =>
  ⟨vs[i],rfl,(hw _ (List.getElem_mem h1)).1,zu7 (h.rows i h1 h2) (hw _ (List.getElem_mem h1)).2⟩
 rcases h.own.2 with ⟨rfl,hn⟩ | ⟨g,cap,cur,rfl,hg,hh,hn1,hc,hsz,ht⟩
 ·have:out=[]:=List.eq_nil_of_length_eq_zero hn
  subst this
  exact ndb7 _ _ _
 ·have hR:Row w g TB (fe7 out vs):=⟨cur,cur.toList.drop (out.length*2),hh,by rw[← ht,List.take_append_drop]⟩
  refine deb7 (S:=gjb7) (T:=TB) (List.zipWith (fun (b:ga7) u=>[.int .i64 b.sat,u]) out vs) (by simp[h.len]) (fun v hv=>?_) (fun i h1 h2=>?_) ?_ hn1 hc hg
  ·obtain⟨i,hi,rfl⟩:=List.getElem_of_mem hv
   simp only[List.getElem_zipWith];rfl
  ·rw[List.getElem_zipWith];exact hr i h1 _
  ·have:∀(out:List ga7) (vs:List Value),(List.zipWith (fun (b:ga7) u=>[Value.int .i64 b.sat,u]) out vs).flatten=fe7 out vs:=by
    intro out
    induction out with
    | nil=>intro vs;simp[fe7]
    | cons a l ih =>
     intro vs
     cases vs with
     | nil=>simp[fe7]
     | cons v vs=>simp[fe7,ih]
   rw[this];exact hR
theorem iab7:(Tryz.prog.info? 69).map (fun i=>(i.zero,i.size,i.bytes))=some (some (.agg #[.slice none 0 0]),1,24):=by kernel_rfl
theorem jhb7:(Tryz.prog.info? 66).map (fun i=>(i.zero,i.size,i.bytes))=some (some (.agg #[.int .i64 0,.int .i64 0]),2,16):=by kernel_rfl
structure dt7 (many room:Int) (out:List (List ba7)) (left:Int):Prop where
 leftB:0≤left∧left≤room
 manyB:(out.length:Int)≤many
 lastB:((out.getD (out.length-1) []).length:Int)+left≤room∨out=[]
 someB:0<left→0<out.length
 wfB:∀t∈out,∀s∈t,oa7 s.sat∧oa7 s.load
theorem dt7.nil {many room:Int}(h1:0≤many) (h2:0≤room):dt7 many room [] 0 :=
 ⟨by omega,by simpa using h1,.inr rfl,fun h=>by omega,fun _ h=>by cases h⟩
theorem dt7.push {many room left:Int}{out:List (List ba7)}(h:dt7 many room out left) (h1:(out.length:Int)≠many) (h2:room≠0):dt7 many room (out++[[]]) room:=by
 have hl:=h.leftB
 have hm:=h.manyB
 refine⟨by omega,by rw[List.length_append];simp;omega,.inl ?_,fun _=>by simp,fun t ht s hs=>?_⟩
 ·rw[List.length_append,List.length_singleton,Nat.add_sub_cancel,List.getD_eq_getElem?_getD,List.getElem?_append_right (Nat.le_refl _),Nat.sub_self];simp
 ·rcases List.mem_append.1 ht with ht | ht
  ·exact h.wfB t ht s hs
  ·simp at ht;subst ht;cases hs
theorem dt7.stop {many room left much:Int}{out:List (List ba7)}{s:ba7}(h:dt7 many room out left) (hr:room≤1000000000) (h0:0<left) (h1:1≤much) (h2:much≤left) (hs:oa7 s.sat∧oa7 s.load):dt7 many room (cb7 out s) (left-much):=by
 have hl:=h.leftB
 have hp:=h.someB h0
 have hlen:(cb7 out s).length=out.length:=by unfold cb7;simp
 refine⟨by omega,by rw[hlen];exact h.manyB,.inl ?_,fun _=>by omega,fun t ht u hu=>?_⟩
 ·rcases h.lastB with h3 | h3
  ·have e:(cb7 out s).getD ((cb7 out s).length-1) []=out.getD (out.length-1) []++[s]:=by
    rw[hlen,List.getD_eq_getElem?_getD]
    unfold cb7
    rw[List.getElem?_set_self (by omega)];rfl
   rw[e,List.length_append];simp only[List.length_singleton];push_cast;omega
  ·rw[h3]at hp;cases hp
 ·unfold cb7 at ht
  rcases List.mem_or_eq_of_mem_set ht with ht | rfl
  ·exact h.wfB t ht u hu
  ·rcases List.mem_append.1 hu with hu | hu
   ·have hlt:out.length-1<out.length:=by omega
    rw[List.getD_eq_getElem?_getD,List.getElem?_eq_getElem hlt]at hu
    exact h.wfB _ (List.getElem_mem hlt) u hu
   ·simp at hu;subst hu;exact hs
end Go.Proofs.YtedahhjopmkbbaaGreat


namespace Go.Proofs.YtedahhjopmkbbaaGreat
open Go.RowKit
def lastT (out:List (List ba7)):List ba7:=out.getD (out.length-1) []
def eac7 (t:List ba7):ba7:=t.getD (t.length-1) ⟨0,0⟩
def hxc7 (s:Int) (t:List ba7):Bool:=t.length==0 || (eac7 t).sat != s
def ovb7 (s:Int) (t:List ba7):List ba7:=if hxc7 s t then t++[⟨s,1⟩] else t.set (t.length-1) ⟨s,(eac7 t).load+1⟩
def setLast (out:List (List ba7)) (t:List ba7):List (List ba7):=out.set (out.length-1) t
def ok7 (room:Int) (st:List (List ba7)×Int):List (List ba7)×Int:=if st.2=0 then (st.1++[[]],room) else st
def ybc7 (room:Int) (s:Nat) (st:List (List ba7)×Int):List (List ba7)×Int:=(setLast (ok7 room st).1 (ovb7 s (lastT (ok7 room st).1)),(ok7 room st).2-1)
theorem si7 (out:List (List ba7)) (t:List ba7):(setLast out t).length=out.length:=by unfold setLast;simp
theorem fp7 (out:List (List ba7)) (s:ba7):(cb7 out s).length=out.length:=by unfold cb7;simp
theorem ed7 (b e:Nat) (fz:Nat×Nat):∀(vs M A R:List Value) (o:Nat) (w:World) (cur:Array Value),w.heap[b]? = some (.cells cur e fz)→cur.toList=A++M++R→A.length=o→M.length=vs.length →
  ∃cur':Array Value,(w.setCells b o vs).heap[b]? = some (.cells cur' e fz)∧cur'.toList=A++vs++R
 | [],M,A,R,o,w,cur,h,hc,_,hm=>by
  obtain rfl:=List.eq_nil_of_length_eq_zero hm
  exact⟨cur,h,hc⟩
 | v::vs,[],A,R,o,w,cur,h,hc,_,hm=>by cases hm
 | v::vs,m::M,A,R,o,w,cur,h,hc,ho,hm=>by
  have h':(w.setCell ⟨b,o,none⟩ v).heap[b]? = some (.cells (cur.setIfInBounds o v) e fz):=by simp[World.setCell,Array.getElem?_modify,h]
  have hc':(cur.setIfInBounds o v).toList=(A++[v])++M++R:=by
   rw[Array.toList_setIfInBounds,hc,← ho,List.append_assoc,List.set_append_right _ _ (Nat.le_refl _),Nat.sub_self]
   simp
  obtain⟨cur',h1,h2⟩:=ed7 b e fz vs M (A++[v]) R (o+1) _ _ h' hc' (by simp[ho]) (by simpa using hm)
  exact⟨cur',h1,by rw[h2];simp⟩
theorem sf7 {a b c:World}{row:Option Nat}(h:a.grownBy b row) (h2:b.grownBy c row):a.grownBy c row :=
 ⟨h2.os.trans h.os,h2.tape.trans h.tape,h2.output.trans h.output,Nat.le_trans h.size h2.size,fun k hk hne=>(h2.block k (Nat.lt_of_lt_of_le hk h.size) hne).trans (h.block k hk hne)⟩
theorem hqb7 (w:World) (row:Option Nat):w.grownBy w row:=⟨rfl,rfl,rfl,Nat.le_refl _,fun _ _ _=>rfl⟩
theorem ue7 (b:Nat):∀(vs:List Value) (o:Nat) (w:World),w.grownBy (w.setCells b o vs) (some b)
 | [],_,w=>hqb7 w _
 | v::vs,o,w=>sf7 (qi7 w ⟨b,o,none⟩ v) (ue7 b vs (o+1) _)
theorem ak7 (w:World) (row:Option Nat):w.grownBy w.drew row:=⟨rfl,rfl,rfl,Nat.le_refl _,fun _ _ _=>rfl⟩
theorem ep7 (w:World) (o:Obj) (row:Option Nat):w.grownBy (w.alloc o) row:=⟨rfl,rfl,rfl,by simp,fun _ hk _=>heap_alloc_old w _ hk⟩
theorem cxb7 {a b:World}{g:Nat}(h:a.grownBy b (some g)) (hg:a.heap.size≤g) (row:Option Nat):a.grownBy b row :=
 ⟨h.os,h.tape,h.output,h.size,fun k hk _=>h.block k hk (by rintro⟨⟩;omega)⟩
theorem kob7 {w:World}{b:Nat}{c:Array Value}{e:TypeId}{fz:Nat×Nat}(h:w.heap[b]? = some (.cells c e fz)):w.shape? b=some (e,c.size):=by simp[World.shape?,h]
theorem vv7 {w:World}{b k:Nat}{c:Array Value}{e:TypeId}(h:w.heap[b]? = some (.cells c e (0,0))):w.frozen? ⟨b,k,none⟩=false:=by simp[World.frozen?,h]
theorem cell_of {w:World}{b k:Nat}{c:Array Value}{e:TypeId}{fz:Nat×Nat}(h:w.heap[b]? = some (.cells c e fz)):w.cell? ⟨b,k,none⟩=c[k]? := by simp[World.cell?,h]
theorem gq7 {w':World}{B T g n i cap:Nat}{xs:List Value}{x:Value}{cur:Array Value}(hg:B≤g) (hx:xs.length=n) (hi:i≤n) (hn:n+1≤cap) (hc:cap≤maxLen)
  (hh:w'.heap[g]? = some (.cells cur T (0,0))) (hs:cur.size=cap) {R:List Value} (hcur:cur.toList=xs.take i++x::xs.drop i++R):w'.ownsRow B T 1 (.slice (some ⟨g,0,none⟩) (n+1) cap) (n+1) (xs.take i++x::xs.drop i):=by
 have hl:(xs.take i++x::xs.drop i).length=n+1:=by simp;omega
 exact⟨by rw[hl,Nat.mul_one],.inr ⟨g,cap,cur,rfl,hg,hh,hn,hc,by rw[hs,Nat.mul_one],by rw[hcur,Nat.mul_one,← hl];exact List.take_left⟩⟩
end Go.Proofs.YtedahhjopmkbbaaGreat
namespace Go.Proofs
open Go.Shelf
def Tryz.insRen:Go.Shelf.Ren:=⟨fun | 21=>48 | 27=>71 | 28=>72 | 35=>87 | 39=>104 | n=>n,fun | 22=>72 | 3=>3 | 4=>4 | 0=>0 | n=>n,fun | n=>n⟩
theorem Tryz.insLays:Go.Proofs.Lays2.n21 Tryz.prog Tryz.insRen:={
 mixed:=by kernel_rfl
 f21:=Tryz.func48.trans (congrArg some (by kernel_rfl))
 f27:=Tryz.func71.trans (congrArg some (by kernel_rfl))
 f28:=Tryz.func72.trans (congrArg some (by kernel_rfl))
 f35:=Tryz.func87.trans (congrArg some (by kernel_rfl))
 f39:=Tryz.func104.trans (congrArg some (by kernel_rfl))
 t0:=Tryz.underlying0
 a0:=Tryz.isAgg0
 z0:=Tryz.sizeOf0
 v0:=Tryz.zeroValue0
 t3:=Tryz.underlying3
 a3:=Tryz.isAgg3
 z3:=Tryz.sizeOf3
 v3:=Tryz.zeroValue3
 t4:=Tryz.underlying4
 a4:=Tryz.isAgg4
 z4:=Tryz.sizeOf4
 v4:=Tryz.zeroValue4
 t22:=Tryz.underlying72
 a22:=Tryz.isAgg72
 z22:=Tryz.sizeOf72
 v22:=Tryz.zeroValue72
 i3:=by kernel_rfl }
namespace YtedahhjopmkbbaaGreat
open Go.RowKit
theorem ccc7 {w:World}{B n i vb:Nat}{v:Value}{xs:List Value}{x:Value}(h:w.ownsRow B 3 1 v n xs) (hB:B≤w.heap.size) (hi:i≤n) (hn:n<1000000) (h1:∀u∈xs,u.oneCell'=true) (hx:x.oneCell'=true)
  (hv:w.heap[vb]? = some (.cells #[x] 3 (0,0))) (hne:some vb≠v.ownBlock) :
  Calls Tryz.prog 48 #[v,.int .i64 i,.slice (some ⟨vb,0,none⟩) 1 1] w fun e w'=>∃u,e = .returned u∧w'.ownsRow B 3 1 u (n+1) (xs.take i++x::xs.drop i)∧w.grownBy w' v.ownBlock:=by
 have hxl:xs.length=n:=by rw[h.1,Nat.mul_one]
 have hvs:∀j u,[x][j]? = some u→w.cell? ⟨vb,0+j,none⟩=some u:=fun j u hj=>by
  rw[cell_of hv,Nat.zero_add]
  simpa using hj
 have h1x:∀u∈[x],u.oneCell'=true:=fun u hu=>by simp at hu;rw[hu];exact hx
 obtain⟨-,h2⟩:=h
 rcases h2 with ⟨rfl,rfl⟩ | ⟨g,cap,cur,rfl,hg,hh,hnc,hcm,hcs,ht⟩
 ·obtain rfl:i=0:=by omega
  obtain rfl:=List.eq_nil_of_length_eq_zero hxl
  refine (Any2.slices_Insert_int_end_grow Tryz.insLays none 0 0 vb 0 1 1 [] [x] w (by decide) (by decide) (by decide) (by decide) rfl rfl (fun _=>rfl) (fun a ha=>by cases ha) hvs h1x).mono ?_
  rintro e w' ⟨rfl,rfl⟩
  have hge:=grownCap_ge w (0+1) 0 (Tryz.insRen.t 3)
  have hle:=grownCap_le_maxLen w (0+1) 0 (Tryz.insRen.t 3) (by decide)
  generalize grownCap w (0+1) 0 (Tryz.insRen.t 3)=G at *
  refine⟨_,rfl, ?_,sf7 (ak7 w _) (ep7 _ _ _)⟩
  refine gq7 (n:=0) (i:=0) (xs:=[]) (x:=x) (R:=(Builtin.zeroCells (Value.int .i64 0).cells (G-(0+1))).toList) hB rfl (Nat.le_refl _) (by omega) hle (heap_alloc_new w.drew _) ?_ (by simp)
  simp[Builtin.zeroCells,Value.cells];omega
 ·rw[Nat.mul_one]at hcs ht
  have hsp:∀k,k<cap→(w.cell? ⟨g,0+k,none⟩).isSome=true:=fun k hk=>by
   rw[cell_of hh,Nat.zero_add,Array.getElem?_eq_getElem (by omega)];rfl
  have hfz:∀k,w.frozen? ⟨g,0+k,none⟩=false:=fun k=>vv7 hh
  have hcl:∀j u,xs[j]? = some u→w.cell? ⟨g,0+j,none⟩=some u:=fun j u hj=>by
   rw[cell_of hh,Nat.zero_add,← Array.getElem?_toList]
   rw[← ht,List.getElem?_take]at hj
   split at hj
   ·exact hj
   ·cases hj
  have hvg:vb≠g:=fun e=>hne (by rw[e];rfl)
  have hcur:cur.toList=xs++cur.toList.drop n:=by rw[← ht,List.take_append_drop]
  have hrl:(cur.toList.drop n).length=cap-n:=by rw[List.length_drop,Array.length_toList,hcs]
  generalize cur.toList.drop n=R at hcur hrl
  have hml:(9223372036854775807:Nat)≥maxLen:=by unfold maxLen;omega
  by_cases hroom:n+1≤cap
  ·obtain⟨r,R',rfl⟩:∃r R',R=r::R':=by
    cases R with
    | nil=>simp at hrl;omega
    | cons r R'=>exact⟨r,R',rfl⟩
   by_cases hin:i<n
   ·refine (Any2.slices_Insert_int_shift Tryz.insLays g 0 n cap i vb 0 1 1 xs [x] w hin (by decide) hroom (by omega) hvg hxl rfl hcl (fun j hj=>hsp j (by omega)) (fun j _=>hfz j) hvs h1 h1x _ _ _ _ (kob7 hv) (kob7 hh) (by omega) (vv7 hv) (vv7 hv)).mono ?_
    rintro e w' ⟨rfl,rfl⟩
    obtain⟨q,Q,hq⟩:∃q Q,xs.drop i=q::Q:=by
     cases hd:xs.drop i with
     | nil=>have:=congrArg List.length hd;simp at this;omega
     | cons q Q=>exact⟨q,Q,rfl⟩
    have hxs:xs=xs.take i++(q::Q):=by rw[← hq,List.take_append_drop]
    have htl:(xs.take i).length=i:=by rw[List.length_take];omega
    have hc0:cur.toList=(xs.take i++[q])++(Q++[r])++R':=by
     rw[hcur]
     conv=>lhs;rw[hxs]
     simp
    obtain⟨c1,k1,k2⟩:=ed7 g 3 (0,0) (xs.drop i) (Q++[r]) (xs.take i++[q]) R' (0+(i+1)) w.drew cur hh hc0 (by simp[htl]) (by rw[hq];simp)
    obtain⟨c2,m1,m2⟩:=ed7 g 3 (0,0) [x] [q] (xs.take i) (xs.drop i++R') (0+i) _ c1 k1 (by rw[k2];simp) (by simp[htl]) rfl
    refine⟨_,rfl,gq7 (R:=R') hg hxl hi hroom hcm m1 ?_ (by rw[m2];simp),sf7 (sf7 (ak7 w _) (ue7 g _ _ _)) (ue7 g _ _ _)⟩
    have:=congrArg List.length m2
    have e2:=congrArg List.length hcur
    simp only[List.length_append,List.length_cons,List.length_nil,htl,List.length_drop,Array.length_toList]at this e2
    simp only[List.length_cons]at hrl
    omega
   ·obtain rfl:i=n:=by omega
    refine (Any2.slices_Insert_int_end_room Tryz.insLays g 0 i cap vb 0 1 1 [x] w (by decide) hroom (by omega) rfl (fun j hj=>by have:=hsp (i+j) (by omega);rwa [← Nat.add_assoc]at this) (fun j _=>by have:=hfz (i+j);rwa [← Nat.add_assoc]at this) hvs h1x).mono ?_
    rintro e w' ⟨rfl,rfl⟩
    obtain⟨c2,m1,m2⟩:=ed7 g 3 (0,0) [x] [r] xs R' (0+i) w cur hh (by rw[hcur];simp) (by omega) rfl
    refine⟨_,rfl,gq7 (R:=R') hg hxl hi hroom hcm m1 ?_ (by rw[m2,List.take_of_length_le (by omega),List.drop_eq_nil_of_le (by omega)]),ue7 g _ _ _⟩
    have:=congrArg List.length m2
    have e2:=congrArg List.length hcur
    simp only[List.length_append,List.length_cons,List.length_nil,Array.length_toList]at this e2
    omega
  ·by_cases hin:i<n
   ·refine (Any2.slices_Insert_int_grow Tryz.insLays g 0 n cap i vb 0 1 1 xs [x] w hin (by decide) hnc (by omega) (by omega) hxl rfl hcl hvs h1 h1x).mono ?_
    rintro e w' ⟨rfl,rfl⟩
    have hge:=grownCap_ge w (n+1) cap (Tryz.insRen.t 3)
    have hle:=grownCap_le_maxLen w (n+1) cap (Tryz.insRen.t 3) (by unfold maxLen;omega)
    generalize grownCap w (n+1) cap (Tryz.insRen.t 3)=G at *
    have htl:(xs.take i).length=i:=by rw[List.length_take];omega
    have hz:∀k,(Builtin.zeroCells (Value.int .i64 0).cells k).toList=List.replicate k (.int .i64 0):=fun k=>by
     simp only[Builtin.zeroCells,Value.cells,List.size_toArray,List.length_cons,List.length_nil,Nat.zero_add,Nat.mul_one,Array.toList_map,Array.toList_range,Nat.mod_one]
     rw[List.eq_replicate_iff]
     refine⟨by simp,fun b hb=>?_⟩
     obtain⟨_,_,rfl⟩:=List.mem_map.1 hb
     rfl
    have hk1:n+1-i=(n-i)+1:=by omega
    obtain⟨ROW,hROW⟩:∃ROW:Array Value,ROW=(xs.take i).toArray++Builtin.zeroCells (Value.int .i64 0).cells (n+1-i)++Builtin.zeroCells (Value.int .i64 0).cells (G-(n+1)):=⟨_,rfl⟩
    have hRL:ROW.toList=xs.take i++([Value.int .i64 0]++List.replicate (n-i) (.int .i64 0))++List.replicate (G-(n+1)) (.int .i64 0):=by
     rw[hROW,Array.toList_append,Array.toList_append,hz,hz,hk1,List.replicate_succ];rfl
    rw[← hROW]
    have hnew:=heap_alloc_new w (.cells ROW 3)
    obtain⟨c1,k1,k2⟩:=ed7 w.heap.size 3 (0,0) [x] [.int .i64 0] (xs.take i) (List.replicate (n-i) (.int .i64 0)++List.replicate (G-(n+1)) (.int .i64 0)) i (w.alloc (.cells ROW 3)).drew ROW hnew (by rw[hRL];simp) htl rfl
    obtain⟨c2,m1,m2⟩:=ed7 w.heap.size 3 (0,0) (xs.drop i) (List.replicate (n-i) (.int .i64 0)) (xs.take i++[x]) (List.replicate (G-(n+1)) (.int .i64 0)) (i+1) ((w.alloc (.cells ROW 3)).drew.setCells w.heap.size i [x]).drew c1 k1 (by rw[k2];simp) (by simp[htl]) (by simp;omega)
    refine⟨_,rfl,gq7 (R:=List.replicate (G-(n+1)) (.int .i64 0)) hB hxl hi hge hle m1 ?_ (by rw[m2];simp), ?_⟩
    ·have:=congrArg List.length m2
     simp only[List.length_append,List.length_cons,List.length_nil,htl,List.length_drop,Array.length_toList,List.length_replicate]at this
     omega
    ·exact cxb7 (sf7 (ep7 w _ (some w.heap.size)) (sf7 (ak7 _ _) (sf7 (ue7 _ _ _ _) (sf7 (ak7 _ _) (ue7 _ _ _ _))))) (Nat.le_refl _) _
   ·obtain rfl:i=n:=by omega
    refine (Any2.slices_Insert_int_end_grow Tryz.insLays (some ⟨g,0,none⟩) i cap vb 0 1 1 xs [x] w (by decide) hnc (by omega) (by omega) hxl rfl (fun h=>by cases h) (fun a ha j u hj=>by cases ha;rw[Addr.add_lit];exact hcl j u hj) hvs h1x).mono ?_
    rintro e w' ⟨rfl,rfl⟩
    have hge:=grownCap_ge w (i+1) cap (Tryz.insRen.t 3)
    have hle:=grownCap_le_maxLen w (i+1) cap (Tryz.insRen.t 3) (by unfold maxLen;omega)
    generalize grownCap w (i+1) cap (Tryz.insRen.t 3)=G at *
    refine⟨_,rfl, ?_,sf7 (ak7 w _) (ep7 _ _ _)⟩
    refine gq7 (R:=(Builtin.zeroCells (Value.int .i64 0).cells (G-(i+1))).toList) hB hxl hi hge hle (heap_alloc_new w.drew _) ?_ (by rw[List.take_of_length_le (by omega),List.drop_eq_nil_of_le (by omega)];simp)
    simp[Builtin.zeroCells,Value.cells,hxl];omega
end YtedahhjopmkbbaaGreat
end Go.Proofs

namespace Go.Proofs.YtedahhjopmkbbaaGreat
open Go.RowKit
structure ie7 (room:Int) (cnt:Nat) (out:List (List ba7)) (left:Int):Prop where
 leftB:0≤left∧left≤room
 lenB:out.length≤cnt
 someB:0<left→0<out.length
 stB:∀t∈out,t.length≤cnt∧∀s∈t,(0≤s.sat∧s.sat≤1000)∧0≤s.load∧s.load≤cnt
theorem ny7 {out:List (List ba7)}(h:0<out.length):lastT out∈out:=by
 unfold lastT
 rw[List.getD_eq_getElem?_getD,List.getElem?_eq_getElem (by omega)];exact List.getElem_mem _
theorem jsb7 {t:List ba7}(h:0<t.length):eac7 t∈t:=by
 unfold eac7
 rw[List.getD_eq_getElem?_getD,List.getElem?_eq_getElem (by omega)];exact List.getElem_mem _
theorem ie7.nil {room:Int}(h:0≤room):ie7 room 0 [] 0:=⟨by omega,Nat.le_refl _,fun h=>absurd h (by decide),fun _ h=>by cases h⟩
theorem ie7.ready {room left:Int}{cnt:Nat}{out:List (List ba7)}(h:ie7 room cnt out left) (hr:1≤room):ie7 room (cnt+1) (ok7 room (out,left)).1 (ok7 room (out,left)).2∧0<(ok7 room (out,left)).2:=by
 have hl:=h.leftB
 unfold ok7
 by_cases hz:left=0
 ·rw[if_pos hz]
  refine⟨⟨⟨by show 0≤room;omega,Int.le_refl _⟩,by have:=h.lenB;simp;omega,fun _=>by simp,fun t ht=>?_⟩,by show 0<room;omega⟩
  rcases List.mem_append.1 ht with ht | ht
  ·have:=h.stB t ht;exact⟨by omega,fun s hs=>by have:=this.2 s hs;push_cast;omega⟩
  ·simp at ht;subst ht;exact⟨by simp,fun s hs=>by cases hs⟩
 ·rw[if_neg hz]
  refine⟨⟨hl,by have:=h.lenB;show out.length≤_;omega,h.someB,fun t ht=>?_⟩,by show 0<left;omega⟩
  have:=h.stB t ht;exact⟨by omega,fun s hs=>by have:=this.2 s hs;push_cast;omega⟩
theorem ie7.step {room left:Int}{cnt s:Nat}{out:List (List ba7)}(h:ie7 room cnt out left) (hr:1≤room) (hs:s≤1000):ie7 room (cnt+1) (ybc7 room s (out,left)).1 (ybc7 room s (out,left)).2:=by
 have hl:=h.leftB
 have hrd:=h.ready hr
 have hst:∀t∈(ok7 room (out,left)).1,t.length≤cnt∧∀u∈t,(0≤u.sat∧u.sat≤1000)∧0≤u.load∧u.load≤cnt:=by
  unfold ok7
  split
  ·intro t ht
   rcases List.mem_append.1 ht with ht | ht
   ·exact h.stB t ht
   ·simp at ht;subst ht;exact⟨Nat.zero_le _,fun s hs=>by cases hs⟩
  ·exact h.stB
 unfold ybc7
 generalize ok7 room (out,left)=st at *
 have hp:=hrd.1.someB hrd.2
 have hlm:=hst _ (ny7 hp)
 have hlr:=hrd.1.leftB
 have hlen:=hrd.1.lenB
 refine⟨⟨by show 0≤st.2-1;omega,by show st.2-1≤room;omega⟩,by show (setLast st.1 _).length≤_;rw[si7];exact hlen,fun _=>by show 0<(setLast st.1 _).length;rw[si7];exact hp,fun t ht=>?_⟩
 have ht':t∈setLast st.1 (ovb7 s (lastT st.1)):=ht
 unfold setLast at ht'
 rcases List.mem_or_eq_of_mem_set ht' with hm | rfl
 ·have:=hst t hm;exact⟨by omega,fun u hu=>by have:=this.2 u hu;push_cast;omega⟩
 ·generalize lastT st.1=t at hlm
  unfold ovb7
  split
  ·refine⟨by rw[List.length_append];simp;omega,fun u hu=>?_⟩
   rcases List.mem_append.1 hu with hu | hu
   ·have:=hlm.2 u hu;push_cast;omega
   ·obtain rfl:=List.mem_singleton.1 hu
    show (0≤(s:Int)∧(s:Int)≤1000)∧(0:Int)≤1∧(1:Int)≤((cnt+1:Nat):Int)
    omega
  ·rename_i hn
   refine⟨by rw[List.length_set];omega,fun u hu=>?_⟩
   rcases List.mem_or_eq_of_mem_set hu with hu | rfl
   ·have:=hlm.2 u hu;push_cast;omega
   ·have h0:0<t.length:=by
     unfold hxc7 at hn
     simp only[Bool.or_eq_true,beq_iff_eq,not_or]at hn
     omega
    have:=hlm.2 _ (jsb7 h0)
    simp only[];push_cast;omega
theorem xmb7:∀(t:List ba7) (k:Nat) (h:k<t.length) (v:Int),(t.set k ⟨t[k].sat,v⟩).flatMap stopV=(t.flatMap stopV).set (2*k+1) (.int .i64 v)
 | [],k,h,_=>absurd h (Nat.not_lt_zero _)
 | a::t,0,_,v=>rfl
 | a::t,k+1,h,v=>by
  have:=xmb7 t k (by simpa using h) v
  simp only[List.set_cons_succ,List.getElem_cons_succ,List.flatMap_cons,this]
  rw[show 2*(k+1)+1=(2*k+1)+1+1 by omega]
  rfl
theorem flat_get:∀(t:List ba7) (k:Nat) (h:k<t.length) (h':2*k+1<(t.flatMap stopV).length) (h'':2*k<(t.flatMap stopV).length),(t.flatMap stopV)[2*k] = .int .i64 t[k].sat∧(t.flatMap stopV)[2*k+1] = .int .i64 t[k].load
 | [],k,h,_,_=>absurd h (Nat.not_lt_zero _)
 | a::t,0,_,_,_=>⟨rfl,rfl⟩
 | a::t,k+1,h,h',h''=>by
  have hl:(t.flatMap stopV).length=t.length*2:=dq7 t
  have hk:k<t.length:=by simpa using h
  have:=flat_get t k hk (by omega) (by omega)
  have e:(a::t).flatMap stopV = .int .i64 a.sat :: .int .i64 a.load::t.flatMap stopV:=rfl
  simp only[e,show 2*(k+1)=2*k+1+1 by omega,List.getElem_cons_succ]
  exact this
theorem xh7.load {TT TS:Nat}{w:World}{B gs c:Nat}{v:Value}{out:List (List ba7)}{vs:List Value}(h:xh7 TT TS w B v out vs) (hne:TS≠TT) (hpos:0<out.length)
  (hv:vs.getD (out.length-1) undef = .slice (some ⟨gs,0,none⟩) (lastT out).length c) {k:Nat} (hk:k<(lastT out).length) (x:Int) :
  xh7 TT TS (w.setCell ⟨gs,2*k+1,none⟩ (.int .i64 x)) B v (setLast out ((lastT out).set k ⟨(lastT out)[k].sat,x⟩)) vs∧w.grownBy (w.setCell ⟨gs,2*k+1,none⟩ (.int .i64 x)) (some gs):=by
 have hl:out.length-1<out.length:=by omega
 have hl':out.length-1<vs.length:=by rw[h.len];exact hl
 have ev:vs.getD (out.length-1) undef=vs[out.length-1]:=by rw[List.getD_eq_getElem?_getD,List.getElem?_eq_getElem hl'];rfl
 have eo:lastT out=out[out.length-1]:=by unfold lastT;rw[List.getD_eq_getElem?_getD,List.getElem?_eq_getElem hl];rfl
 have hrow:=h.rows _ hl hl'
 rw[← ev,hv,← eo]at hrow
 have hst:=hrow.stored (2*k+1) (.int .i64 x)
 have hblk:(vs[out.length-1]).ownBlock=some gs:=by rw[← ev,hv];rfl
 refine⟨⟨?_,by rw[si7];exact h.len,fun i h1 h2=>?_,h.apart⟩,hst.2⟩
 ·rw[si7]
  refine h.own.kept hst.2 ?_
  rw[← hblk]
  exact xa7 h.own (h.rows _ hl hl') (Ne.symm hne)
 ·have hi:i<out.length:=by rw[si7]at h1;exact h1
  have hi':i<vs.length:=by rw[h.len];exact hi
  by_cases e:out.length-1=i
  ·subst e
   have e2:(setLast out ((lastT out).set k ⟨(lastT out)[k].sat,x⟩))[out.length-1]'h1=(lastT out).set k ⟨(lastT out)[k].sat,x⟩:=by simp[setLast]
   rw[e2,xmb7 _ _ hk,List.length_set,← ev,hv]
   exact hst.1
  ·have e2:(setLast out ((lastT out).set k ⟨(lastT out)[k].sat,x⟩))[i]'h1=out[i]:=by simp only[setLast,List.getElem_set,if_neg e]
   rw[e2]
   refine (h.rows i hi hi').kept hst.2 ?_
   rw[← hblk]
   exact h.apart i _ hi' hl' (Ne.symm e)
theorem ie7.one {room left:Int}{cnt s:Nat}{out:List (List ba7)}(h:ie7 room cnt out left) (hr:1≤room) (hs:s≤1000) :
  ∃o l,ok7 room (out,left)=(o,l)∧ie7 room (cnt+1) o l∧0<l∧0<o.length∧(∀t∈o,t.length≤cnt∧∀u∈t,(0≤u.sat∧u.sat≤1000)∧0≤u.load∧u.load≤cnt)∧ybc7 room s (out,left)=(setLast o (ovb7 s (lastT o)),l-1)∧ie7 room (cnt+1) (setLast o (ovb7 s (lastT o))) (l-1):=by
 have h1:=h.ready hr
 have h2:=h.step hr hs
 have hst:∀t∈(ok7 room (out,left)).1,t.length≤cnt∧∀u∈t,(0≤u.sat∧u.sat≤1000)∧0≤u.load∧u.load≤cnt:=by
  unfold ok7
  split
  ·intro t ht
   rcases List.mem_append.1 ht with ht | ht
   ·exact h.stB t ht
   ·obtain rfl:=List.mem_singleton.1 ht
    exact⟨Nat.zero_le _,fun s hs=>by cases hs⟩
  ·exact h.stB
 exact⟨_,_,rfl,h1.1,h1.2,h1.1.someB h1.2,hst,rfl,h2⟩
theorem zh7.keptSet {TB TI TP:Nat}{w:World}{B p j:Nat}{v u:Value}{cs:List Value}{out:List ga7}{vs:List Value}(h:zh7 TB TI w B v out vs) (hr:Row w p TP cs) (h1:TP≠TB) (h2:TP≠TI):zh7 TB TI (w.setCell ⟨p,j,none⟩ u) B v out vs:=by
 refine h.kept (qi7 w ⟨p,j,none⟩ u) ?_ fun i hi=>?_
 ·cases e:v.ownBlock with
  | none=>exact .inl rfl
  | some g=>exact .inr (fun e'=>xc7 h.own hr h1 (by rw[e,← e']))
 ·cases e:vs[i].ownBlock with
  | none=>exact .inl rfl
  | some g=>exact .inr (fun e'=>xc7 (h.rows i (by rw[← h.len];exact hi) hi) hr h2 (by rw[e,← e']))
theorem xh7.keptSet {TT TS TP:Nat}{w:World}{B p j:Nat}{v u:Value}{cs:List Value}{out:List (List ba7)}{vs:List Value}(h:xh7 TT TS w B v out vs) (hr:Row w p TP cs) (h1:TP≠TT) (h2:TP≠TS):xh7 TT TS (w.setCell ⟨p,j,none⟩ u) B v out vs:=by
 have hg:=qi7 w ⟨p,j,none⟩ u
 refine⟨h.own.kept hg ?_,h.len,fun i k1 k2=>(h.rows i k1 k2).kept hg ?_,h.apart⟩
 ·cases e:v.ownBlock with
  | none=>exact .inl rfl
  | some g=>exact .inr (fun e'=>xc7 h.own hr h1 (by rw[e,← e']))
 ·cases e:vs[i].ownBlock with
  | none=>exact .inl rfl
  | some g=>exact .inr (fun e'=>xc7 (h.rows i k1 k2) hr h2 (by rw[e,← e']))
theorem zh7.keptOwn {TB TI T k n:Nat}{w w':World}{B B':Nat}{v u:Value}{xs:List Value}{out:List ga7}{vs:List Value}(h:zh7 TB TI w B v out vs) (ho:w.ownsRow B' T k u n xs) (hg:w.grownBy w' u.ownBlock) (h1:TB≠T) (h2:TI≠T):zh7 TB TI w' B v out vs :=
 h.kept hg (xa7 h.own ho h1) fun i hi=>xa7 (h.rows i (by rw[← h.len];exact hi) hi) ho h2
theorem wf7 {w:World}{B B' T n k:Nat}{v:Value}{xs:List Value}(h:w.ownsRow B T k v n xs) (hb:B'≤B):w.ownsRow B' T k v n xs :=
 ⟨h.1,h.2.imp id fun ⟨g,cap,cur,hv,hg,r⟩=>⟨g,cap,cur,hv,Nat.le_trans hb hg,r⟩⟩
theorem xh7.mono {TT TS:Nat}{w:World}{B B':Nat}{v:Value}{out:List (List ba7)}{vs:List Value}(h:xh7 TT TS w B v out vs) (hb:B'≤B):xh7 TT TS w B' v out vs :=
 ⟨wf7 h.own hb,h.len,fun i h1 h2=>wf7 (h.rows i h1 h2) hb,h.apart⟩
theorem zh7.mono {TT TS:Nat}{w:World}{B B':Nat}{v:Value}{out:List ga7}{vs:List Value}(h:zh7 TT TS w B v out vs) (hb:B'≤B):zh7 TT TS w B' v out vs :=
 ⟨wf7 h.own hb,h.len,fun i h1 h2=>wf7 (h.rows i h1 h2) hb,h.apart⟩
def CellIs (a:Addr) (v:Value) (w':World):Prop:=w'.cell? a=some v
theorem qhb7:(Tryz.prog.info? 75).map (fun i=>(i.zero,i.size,i.bytes))=some (some (.agg #[.int .i64 0,.slice none 0 0]),2,32):=by kernel_rfl
theorem cx7 {w:World}{F:Nat→Prop}{l:List ba7}{v:Value}(h:(ia7 ai7).rep w F l [v]):∃a c,v = .slice a l.length c∧(∀s∈l,oa7 s.sat∧oa7 s.load)∧(0<l.length→∃b off,a=some ⟨b,off,none⟩∧∀j (hj:j<(l.flatMap stopV).length),w.cell? ⟨b,off+j,none⟩=some (l.flatMap stopV)[j]):=by
 obtain⟨a,b,off,c,hs,h1,h2,h3,h4⟩:=h
 obtain rfl:=List.cons.inj hs |>.1
 have hen:∀i (hi:i<l.length),w.cell? ⟨b,off+i*2,none⟩=some (.int .i64 l[i].sat)∧w.cell? ⟨b,off+i*2+1,none⟩=some (.int .i64 l[i].load)∧oa7 l[i].sat∧oa7 l[i].load:=fun i hi=>by
  obtain⟨es,⟨rfl,hw⟩,hc⟩:=h4 i hi
  have e0:=hc 0 (by decide)
  have e1:=hc 1 (by decide)
  exact⟨by simpa[ai7,nd7]using e0,by simpa[ai7,nd7]using e1,hw⟩
 refine⟨a,c,rfl,fun s hs=>?_,fun h0=>⟨b,off,(h3 h0).1,fun j hj=>?_⟩⟩
 ·obtain⟨i,hi,rfl⟩:=List.getElem_of_mem hs
  exact (hen i hi).2.2
 ·have hl:=dq7 l
  have hi:j / 2<l.length:=by omega
  have hg:=flat_get l (j / 2) hi (by omega) (by omega)
  have he:=hen (j / 2) hi
  rcases Nat.mod_two_eq_zero_or_one j with hm | hm
  ·have e:j=2*(j / 2):=by omega
   have e2:off+j=off+j / 2*2:=by omega
   rw[e2,he.1]
   congr 1
   rw[← hg.1]
   congr 1;omega
  ·have e2:off+j=off+j / 2*2+1:=by omega
   rw[e2,he.2.1]
   congr 1
   rw[← hg.2]
   congr 1;omega
theorem qgb7 {w:World}{F:Nat→Prop}{l:List ba7}{v:Value}(h:(ia7 ai7).rep w F l [v]) (hn:l.length≤1000000) :
  Calls Tryz.prog 69 #[v] w fun e w'=>∃u,e = .returned u∧w'.ownsRow w.heap.size 66 2 u l.length (l.flatMap stopV)∧Below w.heap.size w w':=by
 obtain⟨a,c,rfl,-,hcell⟩:=cx7 h
 clear h
 cases a with
 | none =>
  have h0:l=[]:=by
   cases l with
   | nil=>rfl
   | cons s l=>obtain⟨b,off,e,-⟩:=hcell (by simp);cases e
  subst h0
  clear hcell
  have q22:∀(w:World) (a:Option Addr) (n c n' c':Nat),(binOp .eql 67 (.slice a n c) (.slice none n' c')).run Tryz.prog w = .ok (.bool a.isNone) w:=fun w a n c n' c'=>Lib.run_eql_slice_nil w _ _ a n c n' c' Tryz.underlying67
  go_enter Tryz.func69,Tryz.ntmps69
  go_wp2
  go_ret
  exact⟨_,rfl,World.ownsRow_nil _ _ _ _,Below.refl _ _⟩
 | some a =>
  have hnews:∀j u,(l.flatMap stopV)[j]? = some u→(w.alloc (.cells #[] 66)).cell? (a.add j)=some u:=fun j u hj=>by
   have hjl:=(List.getElem?_eq_some_iff.1 hj).1
   have hl:=dq7 l
   obtain⟨b,off,e,hc⟩:=hcell (by omega)
   obtain rfl:=Option.some.inj e
   rw[Addr.add_lit]
   have:=hc j hjl
   rw[(List.getElem?_eq_some_iff.1 hj).2]at this
   exact ea7 ((Below.refl _ _).alloc (Nat.le_refl _) _) this
  have hone:∀u∈l.flatMap stopV,u.oneCell'=true:=fun u hu=>by
   obtain⟨s,_,hu⟩:=List.mem_flatMap.1 hu
   simp[stopV]at hu
   rcases hu with rfl | rfl <;> rfl
  have hfl:=dq7 l
  have HNEWS:=hid hnews
  have HONE:=hid hone
  clear hcell hnews hone
  obtain⟨i1,hi,hi0,hi1,hi2⟩:=info_parts jhb7
  have hown1:=World.ownsRow_lit (base:=w.heap.size) (e:=66) (size:=2) w #[] 0 (Nat.le_refl _) (by unfold maxLen;omega) rfl
  have q22:∀(w:World) (a:Option Addr) (n c n' c':Nat),(binOp .eql 67 (.slice a n c) (.slice none n' c')).run Tryz.prog w = .ok (.bool a.isNone) w:=fun w a n c n' c'=>Lib.run_eql_slice_nil w _ _ a n c n' c' Tryz.underlying67
  go_enter Tryz.func69,Tryz.ntmps69
  go_wp2_with (at_builtin;refine wpList_append_own _ rfl _ _ 67 rfl w.heap.size 66 i1 (.agg #[.int .i64 0,.int .i64 0]) 2 16 Tryz.underlying67 hi hi0 hi1 hi2 rfl (by decide) _ _ _ rfl hown1 a l.length c (l.flatMap stopV) rfl hfl HNEWS.out HONE.out ?c3 ?c4 ?c5 ?_)
  case c3=>unfold maxLen;omega
  case c4=>omega
  intro v' w2 hown' hgrow _
  have HB:=hid (td7 (w:=w.alloc (.cells #[] 66)) ((Below.refl w.heap.size w).alloc (Nat.le_refl _) _) hown1 (by simp) (Nat.le_refl _) hgrow)
  have HO:=hid (show w2.ownsRow w.heap.size 66 2 v' l.length (l.flatMap stopV) from by simpa using hown')
  clear hown' hgrow hown1 hi hi0 hi1 hi2
  go_wp2
  go_ret
  exact⟨_,rfl,HO.out,HB.out⟩
theorem rkb7 {w:World}{F:Nat→Prop}{l:List Int}{v:Value}(h:(ia7 om7).rep w F l [v]) (hn:l.length≤1000000) :
  Calls Tryz.prog 70 #[v] w fun e w'=>∃u,e = .returned u∧w'.ownsRow w.heap.size 3 1 u l.length (l.map jc7)∧Below w.heap.size w w':=by
 obtain⟨a,b,off,c,hs,-,-,ha,-,hcell,-⟩:=rh7 h
 obtain rfl:=List.cons.inj hs |>.1
 clear h hs
 cases a with
 | none =>
  have h0:l=[]:=by
   cases l with
   | nil=>rfl
   | cons s l=>have:=ha (by simp);cases this
  subst h0
  clear hcell ha
  have q22:∀(w:World) (a:Option Addr) (n c n' c':Nat),(binOp .eql 72 (.slice a n c) (.slice none n' c')).run Tryz.prog w = .ok (.bool a.isNone) w:=fun w a n c n' c'=>Lib.run_eql_slice_nil w _ _ a n c n' c' Tryz.underlying72
  go_enter Tryz.func70,Tryz.ntmps70
  go_wp2
  go_ret
  exact⟨_,rfl,World.ownsRow_nil _ _ _ _,Below.refl _ _⟩
 | some a =>
  have hnews:∀j u,(l.map jc7)[j]? = some u→(w.alloc (.cells #[] 3)).cell? (a.add j)=some u:=fun j u hj=>by
   have hjl:=(List.getElem?_eq_some_iff.1 hj).1
   rw[List.length_map]at hjl
   obtain rfl:=Option.some.inj (ha (by omega))
   rw[Addr.add_lit]
   have:=hcell j hjl
   rw[← (List.getElem?_eq_some_iff.1 hj).2,List.getElem_map]
   exact ea7 ((Below.refl _ _).alloc (Nat.le_refl _) _) this
  have hone:∀u∈l.map jc7,u.oneCell'=true:=fun u hu=>by
   obtain⟨s,_,rfl⟩:=List.mem_map.1 hu;rfl
  have hfl:(l.map jc7).length=l.length*1:=by rw[List.length_map,Nat.mul_one]
  have HNEWS:=hid hnews
  have HONE:=hid hone
  clear hcell hnews hone ha
  obtain⟨i1,hi,hi0,hi1,hi2⟩:=info_parts lbb7
  have hown1:=World.ownsRow_lit (base:=w.heap.size) (e:=3) (size:=1) w #[] 0 (Nat.le_refl _) (by unfold maxLen;omega) rfl
  have q22:∀(w:World) (a:Option Addr) (n c n' c':Nat),(binOp .eql 72 (.slice a n c) (.slice none n' c')).run Tryz.prog w = .ok (.bool a.isNone) w:=fun w a n c n' c'=>Lib.run_eql_slice_nil w _ _ a n c n' c' Tryz.underlying72
  go_enter Tryz.func70,Tryz.ntmps70
  go_wp2_with (at_builtin;refine wpList_append_own _ rfl _ _ 72 rfl w.heap.size 3 i1 (.int .i64 0) 1 8 Tryz.underlying72 hi hi0 hi1 hi2 rfl (by decide) _ _ _ rfl hown1 a l.length c (l.map jc7) rfl hfl HNEWS.out HONE.out ?c3 ?c4 ?c5 ?_)
  case c3=>unfold maxLen;omega
  case c4=>omega
  intro v' w2 hown' hgrow _
  have HB:=hid (td7 (w:=w.alloc (.cells #[] 3)) ((Below.refl w.heap.size w).alloc (Nat.le_refl _) _) hown1 (by simp) (Nat.le_refl _) hgrow)
  have HO:=hid (show w2.ownsRow w.heap.size 3 1 v' l.length (l.map jc7) from by simpa using hown')
  clear hown' hgrow hown1 hi hi0 hi1 hi2
  go_wp2
  go_ret
  exact⟨_,rfl,HO.out,HB.out⟩
section
variable {P:Program} {ops:Array Oper} {Q:Exit→Act→World→Prop} {md:Region.Mode} {S T:World→Prop}
def gcc7:Op→Bool
 | .nilCheck _=>true
 | op=>jmc7 op
theorem frb7 {ρ:Operand→Value}{o:Oper}(h:gcc7 o.op=true) {w w':World}{r:Next}(hr:(execOp ρ o).run P w = .ok r w'):∃v,r = .value v:=by
 obtain⟨dst,op,type,pos,after,guard⟩:=o
 by_cases hn:∃x,op = .nilCheck x
 ·obtain⟨x,rfl⟩:=hn
  unfold execOp at hr
  simp only at hr
  split at hr
  ·simp[runtimePanic]at hr
  ·simp[runtimePanic]at hr
  ·simp[runtimePanic]at hr
  ·split at hr
   ·simp[runtimePanic]at hr
   ·simp only[Sem.run_bind]at hr
    generalize hA:Sem.run P program w=A at hr
    cases A with
    | halt k w1=>simp[Result.andThen]at hr
    | ok p w1 =>
     simp only[Result.andThen]at hr
     split at hr
     ·split at hr
      ·simp[unsupported]at hr
      ·exact⟨_,(Result.ok.inj hr).1.symm⟩
     ·cases hr
   ·exact⟨_,(Result.ok.inj hr).1.symm⟩
  ·exact⟨_,(Result.ok.inj hr).1.symm⟩
 ·refine ahb7 (o:=⟨dst,op,type,pos,after,guard⟩) ?_ hr
  cases op
  case nilCheck x=>exact absurd ⟨x,rfl⟩ hn
  all_goals exact h
theorem tq7 {o:Oper}{a:Act}{K:Act→Prop}(hv:gcc7 o.op=true) (h:o.quiet P a (fun w'=>∃e:At S,w'=e.val) K) (hw:Region.wanted o (yielded ops a.tmps)=true) :
  ∃v,YieldsIf P ops S o v a∧K (a.put o.dst v):=by
 obtain⟨v,h1,h2⟩:=h
 refine⟨v,.inl ⟨hw,fun w' hS'=>?_⟩,h2⟩
 have h3:=h1 w' ⟨⟨w',hS'⟩,rfl⟩
 unfold Oper.quietAt at h3
 cases hr:(execOp a.eval o).run P w' with
 | halt k w1=>rw[hr]at h3;simp only[Oper.quietUpon]at h3
 | ok r w1 =>
  obtain⟨u,rfl⟩:=frb7 hv hr
  rw[hr]at h3
  simp only[Oper.quietUpon]at h3
  rw[h3.1,h3.2]
def xr7 (md:Region.Mode) (ops:Array Oper) (fins:List Nat):List Nat→Array Bool→Option (Array Bool)
 | [],listed=>some listed
 | i::rest,listed =>
  if (Region.ready md ops listed).contains i&&Region.free md ops listed i&&decide (i ∉ fins)&&fins.all (fun j=>oo7 md ops ops.size j i)&&gcc7 (ops.getD i default).op&&decide (i<ops.size) then xr7 md ops fins rest (listed.setIfInBounds i true) else none
def axb7 (md:Region.Mode) (ops:Array Oper) (fins:List Nat):List (List Nat×Nat×Bool)→Array Bool→Bool
 | [],listed=>(Region.ready md ops listed).isEmpty
 | (lq,i,f)::rest,listed =>
  match xr7 md ops fins lq listed with
  | none=>false
  | some listed'=>decide (Region.ready md ops listed'=[i])&&(f==fins.contains i)&&(!f || lq.isEmpty&&rest.all (fun x=>x.2.2&&x.1.isEmpty))&&decide (i<ops.size)&&axb7 md ops fins rest (listed'.setIfInBounds i true)
def wp7 (fins:List Nat) (listed:Array Bool):Prop:=∃j∈fins,listed.getD j false=true
def ik7 (P:Program) (md:Region.Mode) (ops:Array Oper) (Q:Exit→Act→World→Prop) (S T:World→Prop) (fins:List Nat):Nat→Array Bool→Act→World→Prop
 | 0,listed,a,w=>Region.ready md ops listed=[]∧Q .normal a w
 | fuel+1,listed,a,w =>
  (Region.ready md ops listed=[]→Q .normal a w) ∧
  ∀i∈Region.ready md ops listed,wpOp P ops Q i (fun a' w'=>((wp7 fins (listed.setIfInBounds i true)∨S w')∧T w')∧ik7 P md ops Q S T fins fuel (listed.setIfInBounds i true) a' w') a w
theorem lab7 {fins:List Nat}:∀(fuel:Nat) (listed:Array Bool) (a:Act) (w:World),ik7 P md ops Q S T fins fuel listed a w→wpAny P md ops Q fuel listed a w
 | 0,_,_,_,h=>h
 | fuel+1,_,_,_,h=>⟨h.1,fun i hi=>wpOp_mono (fun a' w' h'=>lab7 fuel _ a' w' h'.2) (h.2 i hi)⟩
theorem ytc7 {fins:List Nat}{i:Nat}{listed:Array Bool}(hcl:Closed md ops listed) (hr:i∈Region.ready md ops listed) (hfin:∀j∈fins,oo7 md ops ops.size j i=true):¬wp7 fins listed:=by
 rintro⟨j,hj,hl⟩
 have hb:∃oj,ops[j]? = some oj:=by
  have hw:=hfin j hj
  rcases hjs:ops[j]? with _ | oj
  ·exfalso
   cases hs:ops.size with
   | zero=>rw[hs]at hw;cases hw
   | succ f =>
    rw[hs]at hw
    simp only[oo7,Bool.or_eq_true,List.any_eq_true,Bool.and_eq_true]at hw
    rcases hw with h | ⟨k,_,h1,_⟩
    ·obtain⟨oj,hoj,_⟩:=Region.waitsFor_spec h
     rw[hjs]at hoj;cases hoj
    ·obtain⟨oj,hoj,_⟩:=Region.waitsFor_spec h1
     rw[hjs]at hoj;cases hoj
  ·exact⟨oj,rfl⟩
 obtain⟨oj,hoj⟩:=hb
 have h1:=rg7 hcl _ _ _ (hfin j hj) (fun oj' hoj'=>by
  have:oj'=oj:=Option.some.inj (hoj'.symm.trans hoj)
  subst this
  exact hcl j oj' hoj hl)
 rw[getD_both (mem_ready.1 hr).1]at h1
 cases h1
theorem atb7 {fins:List Nat}{j:Nat}{listed:Array Bool}(h:¬wp7 fins listed) (hj:j ∉ fins):¬wp7 fins (listed.setIfInBounds j true):=by
 rintro⟨k,hk,hl⟩
 by_cases e:j=k
 ·subst e;exact hj hk
 ·rw[getD_set_ne false e]at hl
  exact h ⟨k,hk,hl⟩
theorem ys7 {fins:List Nat}{i:Nat}{oi:Oper}{v:Value}(hi:ops[i]? = some oi) (hsel:∀(j:Nat) (o:Oper) cs b,ops[j]? = some o→o.op ≠ .select cs b)
  (hQ:∀c a w,Q (.panic c) (a.put oi.dst v) w→Q (.panic c) a w) (hfin:∀j∈fins,oo7 md ops ops.size j i=true) :
  ∀(fuel:Nat) (listed:Array Bool) (a:Act) (w:World),Closed md ops listed →
   (∀j oj,ops[j]? = some oj→j≠i→listed.getD j true=false→(∀e∈oj.after,Region.binds md e=true→e.on≠i)→oi.apart ops oj=true) →
   i∈Region.ready md ops listed→YieldsIf P ops S oi v a→S w→T w →
   ik7 P md ops Q S T fins fuel (listed.setIfInBounds i true) (a.put oi.dst v) w→ik7 P md ops Q S T fins (fuel+1) listed a w:=by
 intro fuel
 induction fuel with
 | zero =>
  intro listed a w _ _ hr hy hS hT H
  refine⟨fun h=>(by rw[h]at hr;cases hr),fun j hj=>?_⟩
  by_cases hji:j=i
  ·subst hji;exact hy.wpOp hi hS ⟨⟨.inr hS,hT⟩,H⟩
  ·have:=ready_mono hj hji
   rw[H.1]at this
   cases this
 | succ fuel ih =>
  intro listed a w hcl hfree hr hy hS hT H
  refine⟨fun h=>(by rw[h]at hr;cases hr),fun j hj=>?_⟩
  by_cases hji:j=i
  ·subst hji;exact hy.wpOp hi hS ⟨⟨.inr hS,hT⟩,H⟩
  ·have h1:=H.2 j (ready_mono hj hji)
   obtain⟨hjun,oj,hoj,hall⟩:=mem_ready.1 hj
   have hnot:∀e∈oj.after,Region.binds md e=true→e.on≠i:=fun e he hb heq=>by
    have h1:=hall e he hb
    have h0:=(mem_ready.1 hr).1
    rw[heq]at h1
    rcases Nat.lt_or_ge i listed.size with h' | h'
    ·simp[h']at h0 h1;rw[h0]at h1;cases h1
    ·simp[Array.getElem?_eq_none h']at h1
   have hjf:j ∉ fins:=fun hf=>by
    have h1:=rg7 hcl _ _ _ (hfin j hf) (fun oj' hoj'=>by
     have:oj'=oj:=Option.some.inj (hoj'.symm.trans hoj)
     subst this
     exact hall)
    rw[getD_both (mem_ready.1 hr).1]at h1
    cases h1
   have hnf:=atb7 (ytc7 hcl hr hfin) hjf
   have h2:=wpOp_putIf hoj (hfree j oj hoj hji hjun hnot) (fun cs b=>hsel i oi cs b hi) (fun cs b=>hsel j oj cs b hoj) hQ hy h1
   have hfree':∀k ok,ops[k]? = some ok→k≠i→(listed.setIfInBounds j true).getD k true=false →
     (∀e∈ok.after,Region.binds md e=true→e.on≠i)→oi.apart ops ok=true:=fun k ok hk hki hun hno=>by
    refine hfree k ok hk hki ?_ hno
    by_cases hjk:j=k
    ·subst hjk;exact hjun
    ·rw[getD_set_ne true hjk]at hun;exact hun
   refine wpOp_mono (fun a' w' h3=>?_) h2
   have hnf2:¬wp7 fins ((listed.setIfInBounds i true).setIfInBounds j true):=by
    rintro⟨k,hk,hl⟩
    have hki:i≠k:=by
     rintro rfl
     have h5:oo7 md ops ops.size i i=true:=hfin i hk
     have h1:=rg7 hcl _ _ _ h5 (fun oj' hoj'=>by
      have:oj'=oi:=Option.some.inj (hoj'.symm.trans hi)
      subst this
      obtain⟨_,oi',hoi',hall'⟩:=mem_ready.1 hr
      have:oi'=oj':=Option.some.inj (hoi'.symm.trans hi)
      subst this
      exact hall')
     rw[getD_both (mem_ready.1 hr).1]at h1
     cases h1
    rw[Array.setIfInBounds_comm _ _ (Ne.symm hji),getD_set_ne false hki]at hl
    exact hnf ⟨k,hk,hl⟩
   have hS':=h3.2.1.1.resolve_left hnf2
   refine⟨⟨.inr hS',h3.2.1.2⟩,ih (listed.setIfInBounds j true) a' w' (hcl.set hj) hfree' (ready_mono hr (Ne.symm hji)) h3.1 hS' h3.2.1.2 ?_⟩
   rw[Array.setIfInBounds_comm _ _ hji]
   exact h3.2.2
theorem px7 {fins:List Nat}{i:Nat}{oi:Oper}{v:Value}(hi:ops[i]? = some oi) (hsel:∀(j:Nat) (o:Oper) cs b,ops[j]? = some o→o.op ≠ .select cs b)
  (hQ:∀c a w,Q (.panic c) (a.put oi.dst v) w→Q (.panic c) a w) (hif:i ∉ fins) :
  ∀(fuel:Nat) (listed:Array Bool) (a:Act) (w:World),
   (∀j oj,ops[j]? = some oj→j≠i→listed.getD j true=false→(∀e∈oj.after,Region.binds md e=true→e.on≠i)→oi.apart ops oj=true) →
   i∈Region.ready md ops listed→YieldsIf P ops T oi v a→(wp7 fins listed∨S w)→T w →
   ik7 P md ops Q S T fins fuel (listed.setIfInBounds i true) (a.put oi.dst v) w→ik7 P md ops Q S T fins (fuel+1) listed a w:=by
 intro fuel
 have fin_set:∀(l:Array Bool) (j:Nat),wp7 fins l→wp7 fins (l.setIfInBounds j true):=fun l j ⟨k,hk,hl⟩=>⟨k,hk,getD_set_true hl⟩
 induction fuel with
 | zero =>
  intro listed a w _ hr hy hS hT H
  refine⟨fun h=>(by rw[h]at hr;cases hr),fun j hj=>?_⟩
  by_cases hji:j=i
  ·subst hji;exact hy.wpOp hi hT ⟨⟨hS.imp (fin_set _ _) id,hT⟩,H⟩
  ·have:=ready_mono hj hji
   rw[H.1]at this
   cases this
 | succ fuel ih =>
  intro listed a w hfree hr hy hS hT H
  refine⟨fun h=>(by rw[h]at hr;cases hr),fun j hj=>?_⟩
  by_cases hji:j=i
  ·subst hji;exact hy.wpOp hi hT ⟨⟨hS.imp (fin_set _ _) id,hT⟩,H⟩
  ·have h1:=H.2 j (ready_mono hj hji)
   obtain⟨hjun,oj,hoj,hall⟩:=mem_ready.1 hj
   have hnot:∀e∈oj.after,Region.binds md e=true→e.on≠i:=fun e he hb heq=>by
    have h1:=hall e he hb
    have h0:=(mem_ready.1 hr).1
    rw[heq]at h1
    rcases Nat.lt_or_ge i listed.size with h' | h'
    ·simp[h']at h0 h1;rw[h0]at h1;cases h1
    ·simp[Array.getElem?_eq_none h']at h1
   have h2:=wpOp_putIf hoj (hfree j oj hoj hji hjun hnot) (fun cs b=>hsel i oi cs b hi) (fun cs b=>hsel j oj cs b hoj) hQ hy h1
   have hfree':∀k ok,ops[k]? = some ok→k≠i→(listed.setIfInBounds j true).getD k true=false →
     (∀e∈ok.after,Region.binds md e=true→e.on≠i)→oi.apart ops ok=true:=fun k ok hk hki hun hno=>by
    refine hfree k ok hk hki ?_ hno
    by_cases hjk:j=k
    ·subst hjk;exact hjun
    ·rw[getD_set_ne true hjk]at hun;exact hun
   refine wpOp_mono (fun a' w' h3=>?_) h2
   have hS':wp7 fins (listed.setIfInBounds j true)∨S w':=by
    rcases h3.2.1.1 with ⟨k,hk,hl⟩ | h
    ·left
     have hki:i≠k:=by rintro rfl;exact hif hk
     rw[Array.setIfInBounds_comm _ _ (Ne.symm hji),getD_set_ne false hki]at hl
     exact⟨k,hk,hl⟩
    ·exact .inr h
   refine⟨⟨hS',h3.2.1.2⟩,ih (listed.setIfInBounds j true) a' w' hfree' (ready_mono hr (Ne.symm hji)) h3.1 hS' h3.2.1.2 ?_⟩
   rw[Array.setIfInBounds_comm _ _ hji]
   exact h3.2.2
def wv7 (P:Program) (ops:Array Oper) (S T:World→Prop) (Q:Exit→Act→World→Prop):List (List Oper×Oper×Bool)→Act→World→Prop
 | [],a,w=>Q .normal a w
 | (lq,o,true)::rest,a,w=>wpQuiet P ops (fun w'=>∃e:At S,w'=e.val) (fun a'=>wpList P ops (Exit.then (fun a'' w''=>T w''∧wv7 P ops S T Q rest a'' w'') Q) [o] a' w) lq a
 | (lq,o,false)::rest,a,w=>wpQuiet P ops (fun w'=>∃e:At S,w'=e.val) (fun a'=>wpList P ops (Exit.then (fun a'' w''=>S w''∧wv7 P ops S T Q rest a'' w'') Q) [o] a' w) lq a
def rvb7 (md:Region.Mode) (ops:Array Oper) (fins:List Nat):List Nat→Array Bool→Option (Array Bool)
 | [],listed=>some listed
 | i::rest,listed =>
  if (Region.ready md ops listed).contains i&&Region.free md ops listed i&&decide (i ∉ fins)&&gcc7 (ops.getD i default).op&&decide (i<ops.size) then rvb7 md ops fins rest (listed.setIfInBounds i true) else none
theorem tdb7 {fins:List Nat}(hs:Region.noSelect ops=true) (hQ:∀c a d v w,Q (.panic c) (Act.put a d v) w→Q (.panic c) a w) {K:Act→Prop}{w:World}(hS:S w) (hT:T w) {fuel:Nat} :
  ∀(lq:List Nat) (listed listed':Array Bool) (a:Act),Closed md ops listed→rvb7 md ops fins lq listed=some listed'→wpQuiet P ops (fun w'=>∃e:At T,w'=e.val) K (lq.map fun j=>ops.getD j default) a →
   (∀a',Closed md ops listed'→K a'→ik7 P md ops Q S T fins fuel listed' a' w)→ik7 P md ops Q S T fins (lq.length+fuel) listed a w
 | [],listed,listed',a,hcl,hB,h,hK=>by
  simp only[rvb7,Option.some.injEq]at hB
  subst hB
  rw[List.length_nil,Nat.zero_add]
  exact hK a hcl h
 | i::lq,listed,listed',a,hcl,hB,h,hK=>by
  simp only[rvb7]at hB
  split at hB
  case isFalse=>cases hB
  rename_i hc
  simp only[Bool.and_eq_true,decide_eq_true_eq]at hc
  obtain⟨⟨⟨⟨h1,h2⟩,h3⟩,h5⟩,h6⟩:=hc
  have ho:ops[i]? = some (ops.getD i default):=by simp[Array.getD,h6]
  rw[show (i::lq).length+fuel=(lq.length+fuel)+1 by simp;omega]
  by_cases hw:Region.wanted (ops.getD i default) (yielded ops a.tmps)=true
  ·have h7:(ops.getD i default).quiet P a (fun w'=>∃e:At T,w'=e.val) (wpQuiet P ops (fun w'=>∃e:At T,w'=e.val) K (lq.map fun j=>ops.getD j default)):=by
    simp only[List.map_cons,wpQuiet,hw,if_true]at h
    exact h
   obtain⟨v,hy,hn⟩:=tq7 (ops:=ops) h5 h7 hw
   exact px7 ho (Region.noSelect_spec hs) (fun c a w=>hQ c a _ _ w) h3 _ listed a w (Region.free_spec ho h2) (by simpa using h1) hy (.inr hS) hT
    (tdb7 hs hQ hS hT lq _ _ _ (hcl.set (by simpa using h1)) hB hn hK)
  ·have h7:wpQuiet P ops (fun w'=>∃e:At T,w'=e.val) K (lq.map fun j=>ops.getD j default) (a.put (ops.getD i default).dst undef):=by
    simp only[List.map_cons,wpQuiet,hw]at h
    exact h
   exact px7 ho (Region.noSelect_spec hs) (fun c a w=>hQ c a _ _ w) h3 _ listed a w (Region.free_spec ho h2) (by simpa using h1) (.inr ⟨by simpa using hw,rfl⟩) (.inr hS) hT
    (tdb7 hs hQ hS hT lq _ _ _ (hcl.set (by simpa using h1)) hB h7 hK)
theorem ps7 {fins:List Nat}(hs:Region.noSelect ops=true) (hQ:∀c a d v w,Q (.panic c) (Act.put a d v) w→Q (.panic c) a w) {K:Act→Prop}{w:World}(hS:S w) (hT:T w) {fuel:Nat} :
  ∀(lq:List Nat) (listed listed':Array Bool) (a:Act),Closed md ops listed→xr7 md ops fins lq listed=some listed'→wpQuiet P ops (fun w'=>∃e:At S,w'=e.val) K (lq.map fun j=>ops.getD j default) a →
   (∀a',Closed md ops listed'→K a'→ik7 P md ops Q S T fins fuel listed' a' w)→ik7 P md ops Q S T fins (lq.length+fuel) listed a w
 | [],listed,listed',a,hcl,hB,h,hK=>by
  simp only[xr7,Option.some.injEq]at hB
  subst hB
  rw[List.length_nil,Nat.zero_add]
  exact hK a hcl h
 | i::lq,listed,listed',a,hcl,hB,h,hK=>by
  simp only[xr7]at hB
  split at hB
  case isFalse=>cases hB
  rename_i hc
  simp only[Bool.and_eq_true,decide_eq_true_eq,List.all_eq_true]at hc
  obtain⟨⟨⟨⟨⟨h1,h2⟩,h3⟩,h4⟩,h5⟩,h6⟩:=hc
  have ho:ops[i]? = some (ops.getD i default):=by simp[Array.getD,h6]
  rw[show (i::lq).length+fuel=(lq.length+fuel)+1 by simp;omega]
  by_cases hw:Region.wanted (ops.getD i default) (yielded ops a.tmps)=true
  ·have h7:(ops.getD i default).quiet P a (fun w'=>∃e:At S,w'=e.val) (wpQuiet P ops (fun w'=>∃e:At S,w'=e.val) K (lq.map fun j=>ops.getD j default)):=by
    simp only[List.map_cons,wpQuiet,hw,if_true]at h
    exact h
   obtain⟨v,hy,hn⟩:=tq7 (ops:=ops) h5 h7 hw
   exact ys7 ho (Region.noSelect_spec hs) (fun c a w=>hQ c a _ _ w) h4 _ listed a w hcl (Region.free_spec ho h2) (by simpa using h1) hy hS hT
    (ps7 hs hQ hS hT lq _ _ _ (hcl.set (by simpa using h1)) hB hn hK)
  ·have h7:wpQuiet P ops (fun w'=>∃e:At S,w'=e.val) K (lq.map fun j=>ops.getD j default) (a.put (ops.getD i default).dst undef):=by
    simp only[List.map_cons,wpQuiet,hw]at h
    exact h
   exact ys7 ho (Region.noSelect_spec hs) (fun c a w=>hQ c a _ _ w) h4 _ listed a w hcl (Region.free_spec ho h2) (by simpa using h1) (.inr ⟨by simpa using hw,rfl⟩) hS hT
    (ps7 hs hQ hS hT lq _ _ _ (hcl.set (by simpa using h1)) hB h7 hK)
theorem bcb7 {fins:List Nat}(hs:Region.noSelect ops=true) (hQ:∀c a d v w,Q (.panic c) (Act.put a d v) w→Q (.panic c) a w) (hST:∀w,S w→T w) :
  ∀(l:List (List Nat×Nat×Bool)) (listed:Array Bool) (a:Act) (w:World),Closed md ops listed→axb7 md ops fins l listed=true→(S w∨l.all (fun x=>x.2.2&&x.1.isEmpty)=true) →
   wv7 P ops S T Q (kj7 ops l) a w→ik7 P md ops Q S T fins (uc7 l) listed a w
 | [],listed,a,w,_,hB,_,h=>⟨by simpa[axb7]using hB,h⟩
 | (lq,i,f)::rest,listed,a,w,hcl,hB,hS,h=>by
  simp only[axb7]at hB
  split at hB
  case h_1=>cases hB
  rename_i listed' hq
  simp only[Bool.and_eq_true,decide_eq_true_eq,beq_iff_eq]at hB
  obtain⟨⟨⟨⟨h1,h2⟩,h3⟩,h4⟩,h5⟩:=hB
  have ho:ops[i]? = some (ops.getD i default):=by simp[Array.getD,h4]
  have step:∀(K:Act→World→Prop) (a':Act) (w1:World),wpList P ops (Exit.then K Q) [ops.getD i default] a' w1→(∀a'' w'',K a'' w''→((i∈fins∨S w'')∧T w'')∧ik7 P md ops Q S T fins (uc7 rest) (listed'.setIfInBounds i true) a'' w'') →
    (i<listed'.size)→ik7 P md ops Q S T fins (uc7 rest+1) listed' a' w1:=fun K a' w1 hl hK hsz=>by
   refine⟨fun h0=>(by rw[h1]at h0;cases h0),fun j hj=>?_⟩
   rw[h1,List.mem_singleton]at hj
   subst hj
   refine wpOp_mono (fun a'' w'' hk=>?_) (mn7 ho hl)
   have:=hK a'' w'' hk
   exact⟨⟨this.1.1.imp (fun hf=>⟨j,hf,by simp[Array.getD,hsz]⟩) id,this.1.2⟩,this.2⟩
  have hisz:i<listed'.size:=by
   have hm:i∈Region.ready md ops listed':=by rw[h1];exact List.mem_singleton.2 rfl
   have:=(mem_ready.1 hm).1
   rcases Nat.lt_or_ge i listed'.size with h' | h'
   ·exact h'
   ·simp[Array.getD,Nat.not_lt.2 h']at this
  have hfu:uc7 ((lq,i,f)::rest)=lq.length+(uc7 rest+1):=by simp only[uc7];omega
  rw[hfu]
  cases f with
  | false =>
   have hS1:S w:=by
    rcases hS with hS | hS
    ·exact hS
    ·simp at hS
   simp only[kj7,List.map_cons,wv7]at h
   exact ps7 hs hQ hS1 (hST w hS1) lq listed listed' a hcl hq h fun a' hcl' hl=>step _ a' w hl (fun a'' w'' ⟨hs2,hm⟩=>⟨⟨.inr hs2,hST _ hs2⟩,bcb7 hs hQ hST rest _ a'' w'' (hcl'.set (by rw[h1];exact List.mem_singleton.2 rfl)) h5 (.inl hs2) hm⟩) hisz
  | true =>
   have hif:i∈fins:=by simpa using h2.symm
   simp only[Bool.not_true,Bool.false_or,Bool.and_eq_true,List.isEmpty_iff]at h3
   obtain⟨rfl,hr⟩:=h3
   simp only[xr7,Option.some.injEq]at hq
   subst hq
   simp only[kj7,List.map_cons,List.map_nil,wv7,wpQuiet]at h
   rw[List.length_nil,Nat.zero_add]
   exact step _ a w h (fun a'' w'' ⟨ht,hm⟩=>⟨⟨.inl hif,ht⟩,bcb7 hs hQ hST rest _ a'' w'' (hcl.set (by rw[h1];exact List.mem_singleton.2 rfl)) h5 (.inr hr) hm⟩) hisz
theorem sy7 {id:Nat}{a:Act}{w:World}(S T:World→Prop) (fins lf:List Nat) (l:List (List Nat×Nat×Bool)) (hm:P.follows .mixedOrders=true)
  (hB:(Region.noSelect ops&&(match rvb7 .any ops fins lf (Array.replicate ops.size false) with
   | none=>false
   | some listed=>axb7 .any ops fins l listed)&&decide (lf.length+uc7 l=ops.size))=true) (hQ:∀c a d v w,Q (.panic c) (Act.put a d v) w→Q (.panic c) a w) (hST:∀w,S w→T w) (hS:S w.drew)
  (h:wpQuiet P ops (fun w'=>∃e:At T,w'=e.val) (fun a'=>wv7 P ops S T Q (kj7 ops l) a' w.drew) (lf.map fun j=>ops.getD j default) a):(Code.region id ops true).wp P Q a w:=by
 simp only[Bool.and_eq_true,decide_eq_true_eq]at hB
 refine wp_region_any hm (lab7 (S:=S) (T:=T) (fins:=fins) _ _ _ _ ?_)
 rw[← hB.2]
 obtain⟨⟨h1,h2⟩,h3⟩:=hB
 split at h2
 ·cases h2
 ·rename_i listed hf
  exact tdb7 h1 hQ hS (hST _ hS) lf _ listed a (fun j oj _ hl=>by rw[getD_replicate_false]at hl;cases hl) (by rw[h3];exact hf) h fun a' hcl hk=>bcb7 h1 hQ hST l listed a' _ hcl h2 (.inl hS) hk
end
end Go.Proofs.YtedahhjopmkbbaaGreat
