/- Contracts: the methods of wharfage/pile's row. -/
import Derived.BigRegion
import Derived.BigQuiet
import Derived.Test.YtedahhjopmkbbaaGreatP1
set_option linter.all false
set_option maxRecDepth 100000
set_option maxHeartbeats 6400000
namespace Go.Proofs.YtedahhjopmkbbaaGreat
open Go.RowKit
def oqc7 (s:dm7):List Value:=[.int .i64 s.1,.int .i64 s.2]
structure zg7 (B:Nat) (w w':World):Prop where
 bel:Below B w w'
 old:∀(b:Nat) (cs:Array Value) (e:TypeId) (fz:Nat×Nat),w.heap[b]? = some (.cells cs e fz)→e≠214→e≠225→w'.heap[b]? = some (.cells cs e fz)
theorem zg7.refl (B:Nat) (w:World):zg7 B w w:=⟨Below.refl _ _,fun _ _ _ _ h _ _=>h⟩
theorem zg7.trans {B:Nat}{w w1 w2:World}(h:zg7 B w w1) (k:zg7 B w1 w2):zg7 B w w2:=⟨h.bel.trans k.bel,fun b cs e fz hb h1 h2=>k.old b cs e fz (h.old b cs e fz hb h1 h2) h1 h2⟩
theorem zg7.of_grown {B:Nat}{w w':World}{row:Option Nat}(hg:w.grownBy w' row) (hB:B≤w.heap.size) (hr:∀b,row=some b→B≤b∧∃cs e fz,w.heap[b]? = some (.cells cs e fz)∧(e=214∨e=225)):zg7 B w w':=by
 refine⟨(Below.refl B w).grown hg hB (fun k hk=>(hr k hk).1),fun b cs e fz hb h1 h2=>?_⟩
 rw[hg.block b (Array.getElem?_eq_some_iff.1 hb).1 (fun e'=>?_)]
 ·exact hb
 ·obtain⟨-,cs',e'',fz',hb',ht⟩:=hr b e'.symm
  rw[hb]at hb'
  simp only[Option.some.injEq,Obj.cells.injEq]at hb'
  obtain⟨-,rfl,-⟩:=hb'
  rcases ht with rfl | rfl
  ·exact h1 rfl
  ·exact h2 rfl
theorem zg7.below {B:Nat}{w w':World}(hb:Below w.heap.size w w') (hB:B≤w.heap.size):zg7 B w w' :=
 .of_grown (row:=none) ⟨hb.os,hb.tape,hb.output,hb.size,fun k hk _=>hb.block k hk⟩ hB fun _ h=>by cases h
theorem zg7.set {B:Nat}{w:World}{g:Nat}{e:TypeId}{cs:List Value}(h:Row w g e cs) (he:e=214∨e=225) (hB:B≤g) (j:Nat) (u:Value):zg7 B w (w.setCell ⟨g,j,none⟩ u):=by
 have hl:=h.lt
 obtain⟨cur,rest,h1,-⟩:=h
 exact .of_grown (qi7 w ⟨g,j,none⟩ u) (by omega) fun b hb=>by
  obtain rfl:=Option.some.inj hb
  exact⟨hB,cur,e,(0,0),h1,he⟩
theorem zg7.append {B B':Nat}{w w':World}{k n:Nat}{v:Value}{xs:List Value}(h:w.ownsRow B' 214 k v n xs) (hg:w.grownBy w' v.ownBlock) (hB:B≤w.heap.size) (hB':B≤B'):zg7 B w w' :=
 .of_grown hg hB fun b hb=>by
  have hl:=h.lt b hb
  refine⟨by omega, ?_⟩
  obtain⟨cs,hc⟩:=bg7 h hb
  obtain⟨cur,rest,h1,-⟩:=hc
  exact⟨cur,_,_,h1,.inl rfl⟩
theorem zg7.row {B:Nat}{w w':World}{g:Nat}{e:TypeId}{cs:List Value}(h:zg7 B w w') (hr:Row w g e cs) (h1:e≠214) (h2:e≠225):Row w' g e cs:=by
 obtain⟨cur,rest,h3,h4⟩:=hr
 exact⟨cur,rest,h.old _ _ _ _ h3 h1 h2,h4⟩
theorem zg7.owns {B B':Nat}{w w':World}{e k n:Nat}{v:Value}{xs:List Value}(h:zg7 B w w') (hr:w.ownsRow B' e k v n xs) (h1:e≠214) (h2:e≠225):w'.ownsRow B' e k v n xs:=by
 refine⟨hr.1, ?_⟩
 rcases hr.2 with hn | ⟨g,cap,cur,rfl,hb,hgg,rest⟩
 ·exact .inl hn
 ·exact .inr ⟨g,cap,cur,rfl,hb,h.old _ _ _ _ hgg h1 h2,rest⟩
theorem zg7.stored {B:Nat}{w:World}{k n g c:Nat}{xs:List Value}(h:w.ownsRow B 214 k (.slice (some ⟨g,0,none⟩) n c) n xs) (j:Nat) (u:Value):zg7 B w (w.setCell ⟨g,j,none⟩ u) :=
 zg7.append h (h.stored j u).2 (by have:=h.lt g rfl;omega) (Nat.le_refl _)
theorem zg7.drew {B:Nat}{w w':World}(h:zg7 B w w'):zg7 B w w'.drew:=⟨h.bel.drew,h.old⟩
def di7 (w:World) (B q:Nat) (l:List dm7):Prop :=
 ∃v,Row w q 225 [v]∧w.ownsRow B 214 2 v l.length (l.flatMap oqc7)∧B≤q
def spb7 (w:World) (B q g:Nat) (l:List dm7):Prop :=
 ∃c,Row w q 225 [.slice (some ⟨g,0,none⟩) l.length c]∧w.ownsRow B 214 2 (.slice (some ⟨g,0,none⟩) l.length c) l.length (l.flatMap oqc7)∧B≤q
theorem spb7.at {w:World}{B q g:Nat}{l:List dm7}(h:spb7 w B q g l):di7 w B q l:=by
 obtain⟨c,R,O,hq⟩:=h
 exact⟨_,R,O,hq⟩
theorem di7.g {w:World}{B q:Nat}{l:List dm7}(h:di7 w B q l) (hl:0<l.length):∃g,spb7 w B q g l:=by
 obtain⟨v,R,O,hq⟩:=h
 obtain⟨g,c,rfl,-⟩:=Row.of_owns O hl
 exact⟨g,c,R,O,hq⟩
def yv7 (q g:Nat) (w w':World):Prop:=w.heap.size≤w'.heap.size∧∀b,b<w.heap.size→b≠q→b≠g→w'.heap[b]? = w.heap[b]?
theorem yv7.refl (q g:Nat) (w:World):yv7 q g w w:=⟨Nat.le_refl _,fun _ _ _ _=>rfl⟩
theorem yv7.trans {q g:Nat}{w w1 w2:World}(h:yv7 q g w w1) (k:yv7 q g w1 w2):yv7 q g w w2:=⟨Nat.le_trans h.1 k.1,fun b hb h1 h2=>(k.2 b (Nat.lt_of_lt_of_le hb h.1) h1 h2).trans (h.2 b hb h1 h2)⟩
theorem yv7.grown {q g:Nat}{w w':World}(h:w.grownBy w' (some g)):yv7 q g w w':=⟨h.size,fun b hb _ h2=>h.block b hb fun e=>h2 (Option.some.inj e)⟩
theorem yv7.drewN {q g:Nat}{w w':World}(h:yv7 q g w w') (n:Nat):yv7 q g w (w'.drewN n):=h
def Apart (w:World) (q X:Nat) (e:TypeId) (cs:List Value):Prop:=Row w X e cs∧X≠q∧∀v,w.cell? ⟨q,0,none⟩=some v→v.ownBlock≠some X
def dz7 (q:Nat) (w w':World):Prop:=∀X e cs,Apart w q X e cs→Apart w' q X e cs
theorem dz7.refl (q:Nat) (w:World):dz7 q w w:=fun _ _ _ h=>h
theorem dz7.trans {q:Nat}{w w1 w2:World}(h:dz7 q w w1) (k:dz7 q w1 w2):dz7 q w w2:=fun X e cs hx=>k X e cs (h X e cs hx)
end Go.Proofs.YtedahhjopmkbbaaGreat
