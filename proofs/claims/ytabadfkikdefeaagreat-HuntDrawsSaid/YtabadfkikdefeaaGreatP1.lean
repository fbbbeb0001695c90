/- Texts of the proof, joined: RideD, TextD, WordD, Own, Facts, WText, NumD, Bytes, Line, Parse2, ReadD, ReadS, WordE, ReadP, Eq, Float, Real, OrdCmp, SortD, Shelf, Square, Small, InstOwn, Stable, InstA, InstB, InstC, Region, InstD, Loads, Same, Drops, Set, Trucks, Bikes, Good, Check, Way, Nodes, Lit, Order, Fill, BOwn, HTrucks, Ratio, OrdLaw, Unit, InsRow, Insert, OrderW, TrucksW, OwnMore, Tail2, Bikes23, Open, Law. -/
import Derived.Lib.ItoaLen
import Derived.Test.YtabadfkikdefeaaGreatProg
import Derived.Deep.AppendSrc
import Derived.Laws.IdiomStrings
import Derived.Lib.UnsafeStr
import Derived.Laws.RangeAny
import Derived.Laws.RangeString
import Derived.Laws.StructEq
import Derived.Laws.BitsAllLaws
import Derived.Lib.BitFns
import Derived.Sort.Defs
import Derived.Shelf.Strings.Builder1
import Derived.Shelf.Small.Wraps
import Derived.Shelf.Strings.BuilderF
import Derived.Shelf.Slices.Reverse
import Derived.Shelf.Slices.Equal
import Derived.Ground.Names2Prog
import Derived.Shelf.Slices.Clone
import Derived.Shelf.Slices.SearchI
import Derived.Shelf.Slices.Delete
import Derived.Shelf.Slices.Cells
import Derived.Shelf.Slices.Empties
import Derived.Shelf.Slices.Empties2
import Derived.Ground.SlgnProg
import Derived.Shelf.SlicesG.Equal
import Derived.Shelf.SlicesG.Clone
import Derived.Shelf.SlicesG.SearchI
import Derived.Shelf.SlicesE.Reverse
import Derived.Shelf.SlicesE.Delete
import Derived.Shelf.SlicesE.Clone
import Derived.Ground.SlsfProg
import Derived.Shelf.SlSortCmp.Insertion
import Derived.Deep.LoopGhost
import Derived.Deep.DeepCutAuto
import Derived.Laws.ShiftsVar
import Derived.Deep.QuietTactic
import Derived.BigQuiet
import Derived.Laws.OwnMore
import Derived.Maps.AppendAt
import Derived.Shelf.Spec.SlicesInsertGrow
import Derived.BigRegion
import Derived.Deep.Slices
import Derived.OpenShut
import Derived.Test.YtabadfkikdefeaaGreatRows
import Derived.ProofKit
import Derived.Test.YtabadfkikdefeaaGreatO1
set_option linter.all false
set_option maxRecDepth 100000
set_option maxHeartbeats 6400000
namespace Go.Proofs.YtabadfkikdefeaaGreat
open Go.RowKit
structure oqb7 where
 out:Int
 starts:List Int
 back:Int
 deriving DecidableEq
structure lfb7 where
 trucks:List (List Int)
 bikes:List oqb7
 deriving DecidableEq
open Go.RowKit Go.Lib
abbrev S (l:List UInt8):ByteArray:=ByteArray.mk (List.toArray l)
def gjb7 (p:geb7) (i:Nat):cb7:=p.bikes.getD i ⟨0,[]⟩
def kfb7 (p:geb7) (i:Nat):List ra7:=p.trucks.getD i []
structure hu7 (p:geb7) (t:lfb7) (c:Int):Prop where
 nt:p.trucks.length≤100000
 nb:p.bikes.length≤100000
 st:∀l∈p.trucks,l.length≤30000∧∀s∈l,nb7 s.sat∧nb7 s.load
 sb:∀b∈p.bikes,b.stops.length≤30000∧nb7 b.sat∧∀c∈b.stops,nb7 c
 tt:∀l∈t.trucks,∀v∈l,nb7 v
 tb:∀r∈t.bikes,nb7 r.out∧nb7 r.back∧∀v∈r.starts,nb7 v
 c:nb7 c
theorem wn7 {α:Type}{P:α→Prop}{l:List α}{d:α}(h:∀x∈l,P x) (hd:P d) (i:Nat):P (l.getD i d):=by
 rw[List.getD_eq_getElem?_getD]
 by_cases hi:i<l.length
 ·rw[List.getElem?_eq_getElem hi];exact h _ (List.getElem_mem hi)
 ·rw[List.getElem?_eq_none (by omega)];exact hd
theorem w0:nb7 0:=by unfold nb7;omega
section
variable {p:geb7} {t:lfb7} {c:Int} (h:hu7 p t c)
include h
theorem hu7.truck (i:Nat):(kfb7 p i).length≤30000∧∀s∈kfb7 p i,nb7 s.sat∧nb7 s.load:=wn7 (P:=fun l:List ra7=>l.length≤30000∧∀s∈l,nb7 s.sat∧nb7 s.load) h.st ⟨by simp,fun s hs=>by cases hs⟩ i
theorem hu7.bike (i:Nat):(gjb7 p i).stops.length≤30000∧nb7 (gjb7 p i).sat∧∀c∈(gjb7 p i).stops,nb7 c:=wn7 (P:=fun b:cb7=>b.stops.length≤30000∧nb7 b.sat∧∀c∈b.stops,nb7 c) h.sb ⟨by simp,w0,fun s hs=>by cases hs⟩ i
theorem hu7.time (i:Nat):∀v∈t.trucks.getD i [],nb7 v:=wn7 (P:=fun l:List Int=>∀v∈l,nb7 v) h.tt (fun s hs=>by cases hs) i
end
end Go.Proofs.YtabadfkikdefeaaGreat
namespace Go.Proofs.YtabadfkikdefeaaGreat
open Go.RowKit
structure Sc where
 out:List (List UInt8×Nat)
 fr:Option Nat
 note:Bool
def wub7 (s:List UInt8) (a b:Nat):List UInt8:=(s.drop a).take (b-a)
def aub7 (c:UInt8):Bool:=decide (c=32) || decide (c=10) || decide (c=35)
def vqb7 (s:List UInt8) (i:Nat) (c:UInt8) (σ:Sc):Sc :=
 if σ.note then ⟨σ.out,σ.fr,decide (c≠10)⟩
 else if aub7 c then ⟨match σ.fr with | some a=>σ.out++[(wub7 s a i,a)] | none=>σ.out,none,decide (c=35)⟩
 else match σ.fr with
  | some _=>σ
  | none=>⟨σ.out,some i,false⟩
def scan (s:List UInt8):Nat→Sc
 | 0=>⟨[],none,false⟩
 | k+1=>vqb7 s k (s.getD k 10) (scan s k)
section
variable {s:List UInt8} {k:Nat}
end
def Row (w:World) (g:Nat) (e:TypeId) (cs:List Value):Prop :=
 ∃(cur:Array Value) (rest:List Value),w.heap[g]? = some (.cells cur e (0,0))∧cur.toList=cs++rest
theorem Row.lt {w:World}{g:Nat}{e:TypeId}{cs:List Value}(h:Row w g e cs):g<w.heap.size:=by
 obtain⟨cur,rest,h1,_⟩:=h
 exact (Array.getElem?_eq_some_iff.1 h1).1
theorem Row.keep {w w':World}{g:Nat}{e:TypeId}{cs:List Value}(h:Row w g e cs) (hk:w'.heap[g]? = w.heap[g]?):Row w' g e cs:=by
 obtain⟨cur,rest,h1,h2⟩:=h
 exact⟨cur,rest,hk.trans h1,h2⟩
theorem Row.below {w w':World}{g:Nat}{e:TypeId}{cs:List Value}(h:Row w g e cs) (hb:Below w.heap.size w w'):Row w' g e cs:=h.keep (hb.block g h.lt)
theorem Row.alloc {w:World}{g:Nat}{e:TypeId}{cs:List Value}(h:Row w g e cs) (o:Obj):Row (w.alloc o) g e cs:=h.keep (Below.heap_alloc _ _ _ h.lt)
theorem Row.setOther {w:World}{g:Nat}{e:TypeId}{cs:List Value}(h:Row w g e cs) {a:Addr}(ha:g≠a.block) (u:Value):Row (w.setCell a u) g e cs:=h.keep (Below.heap_setCell _ _ _ _ ha)
theorem Row.drew {w:World}{g:Nat}{e:TypeId}{cs:List Value}(h:Row w g e cs):Row w.drew g e cs:=h
theorem Row.drewN {w:World}{g:Nat}{e:TypeId}{cs:List Value}(h:Row w g e cs) (n:Nat):Row (w.drewN n) g e cs:=h.keep rfl
theorem Row.ne {w:World}{g g':Nat}{e e':TypeId}{cs cs':List Value}(h:Row w g e cs) (h':Row w g' e' cs') (he:e≠e'):g≠g':=by
 rintro rfl
 obtain⟨_,_,h1,_⟩:=h
 obtain⟨_,_,h2,_⟩:=h'
 rw[h1]at h2
 simp only[Option.some.injEq,Obj.cells.injEq]at h2
 exact he h2.2.1
theorem Row.cell {w:World}{g:Nat}{e:TypeId}{cs:List Value}(h:Row w g e cs) {j:Nat}(hj:j<cs.length):w.cell? ⟨g,j,none⟩=some cs[j]:=by
 obtain⟨cur,rest,h1,h2⟩:=h
 have:cur[j]? = some cs[j]:=by
  rw[← Array.getElem?_toList,h2,List.getElem?_append_left hj,List.getElem?_eq_getElem hj]
 simp[World.cell?,h1,this]
theorem Row.frozen {w:World}{g:Nat}{e:TypeId}{cs:List Value}(h:Row w g e cs) (j:Nat):w.frozen? ⟨g,j,none⟩=false:=by
 obtain⟨cur,rest,h1,h2⟩:=h
 simp[World.frozen?,h1]
theorem Row.set {w:World}{g:Nat}{e:TypeId}{cs:List Value}(h:Row w g e cs) {j:Nat}(hj:j<cs.length) (u:Value):Row (w.setCell ⟨g,j,none⟩ u) g e (cs.set j u):=by
 obtain⟨cur,rest,h1,h2⟩:=h
 have hg:g<w.heap.size:=(Array.getElem?_eq_some_iff.1 h1).1
 refine⟨cur.setIfInBounds j u,rest, ?_, ?_⟩
 ·simp[World.setCell,Array.getElem?_modify,h1]
 ·rw[Array.toList_setIfInBounds,h2,List.set_append_left _ _ hj]
theorem Row.new {w:World}{g:Nat}{e:TypeId}{cs:List Value}(hg:g=w.heap.size):Row (w.alloc (.cells cs.toArray e)) g e cs:=by
 subst hg
 refine⟨cs.toArray,[], ?_,by simp⟩
 show (w.heap.push _)[w.heap.size]? = _
 simp
theorem Row.of_owns {w:World}{base:Nat}{e:TypeId}{size:Nat}{v:Value}{n:Nat}{xs:List Value}(h:w.ownsRow base e size v n xs) (hn:0<n) :
  ∃g c,v = .slice (some ⟨g,0,none⟩) n c∧n≤c∧c≤maxLen∧base≤g∧Row w g e xs:=by
 obtain⟨h1,h2⟩:=h
 rcases h2 with ⟨_,h2⟩ | h2
 ·omega
 ·obtain⟨g,cap,cur,rfl,hg,hh,hn1,hc,hs,ht⟩:=h2
  exact⟨g,cap,rfl,hn1,hc,hg,cur,cur.toList.drop (n*size),hh,by rw[← ht,List.take_append_drop]⟩
theorem bab7 {w:World}{g:Nat}(hg:g=w.heap.size) (cs:List Value) (e:TypeId):∀j u,cs[j]? = some u→(w.alloc (.cells cs.toArray e)).cell? ((⟨g,0,none⟩:Addr).add j)=some u:=by
 subst hg
 intro j u hj
 have:(⟨w.heap.size,0,none⟩:Addr).add j=⟨w.heap.size,j,none⟩:=by
  unfold Addr.add;split
  ·rename_i h;rw[h]
  ·simp
 rw[this]
 simpa using hj
theorem bi7 {w:World}{base:Nat}{e:TypeId}{size:Nat}{v:Value}{n:Nat}{xs:List Value}(h:w.ownsRow base e size v n xs):∃ao cap,v = .slice ao n cap∧n≤cap∧cap≤maxLen:=by
 obtain⟨h1,h2⟩:=h
 rcases h2 with ⟨rfl,rfl⟩ | ⟨g,cap,cur,rfl,hg,hh,h3,h4,_⟩
 ·exact⟨none,0,rfl,Nat.le_refl _,Nat.zero_le _⟩
 ·exact⟨_,cap,rfl,h3,h4⟩
theorem vf7 {w w':World}{base:Nat}{e:TypeId}{size:Nat}{v:Value}{n:Nat}{xs:List Value}(h:w.ownsRow base e size v n xs) (hb:Below w.heap.size w w'):w'.ownsRow base e size v n xs:=by
 obtain⟨h1,h2⟩:=h
 refine⟨h1, ?_⟩
 rcases h2 with h2 | ⟨g,cap,cur,hv,hg,hh,r⟩
 ·exact .inl h2
 ·exact .inr ⟨g,cap,cur,hv,hg,by rw[hb.block g (Array.getElem?_eq_some_iff.1 hh).1];exact hh,r⟩
def se7 (x:Int):Value:=.int .i64 x
theorem Row.make {w:World}{n:Nat}{e:TypeId}:Row (w.alloc (.cells (Array.replicate n (se7 0)) e)) w.heap.size e ((List.replicate n 0).map se7):=by
 have:=Row.new (w:=w) (e:=e) (cs:=(List.replicate n 0).map se7) rfl
 simpa using this
def kcb7 (r:Nat) (row:List Int):Value:=.slice (some ⟨r,0,none⟩) row.length row.length
def sg7 (w:World) (B TR TI:Nat) (out:Value) (rows:List (List Int)) (rs:List Nat):Prop :=
 w.ownsRow B TR 1 out rows.length (List.zipWith kcb7 rs rows)∧rs.length=rows.length∧(∀i (h:i<rs.length) (h':i<rows.length),Row w rs[i] TI (rows[i].map se7))∧rs.Nodup∧∀b∈rs,B≤b∧b<w.heap.size
theorem sg7.nil (w:World) (B TR TI:Nat):sg7 w B TR TI (.slice none 0 0) [] [] :=
 ⟨World.ownsRow_nil _ _ _ _,rfl,fun _ h=>absurd h (Nat.not_lt_zero _),List.nodup_nil,fun _ h=>by cases h⟩
theorem sd7 {w:World}{B T n k:Nat}{v:Value}{xs:List Value}(h:w.ownsRow B T k v n xs) {g:Nat}(hg:v.ownBlock=some g):∃cs,Row w g T cs:=by
 obtain⟨h1,h2⟩:=h
 rcases h2 with ⟨rfl,_⟩ | ⟨g',cap,cur,rfl,hg',hh,_⟩
 ·cases hg
 ·simp only[Value.ownBlock,Option.some.injEq]at hg
  subst hg
  exact⟨cur.toList,cur,[],hh,by simp⟩
theorem sg7.push {w w1 w2:World}{B TR TI r:Nat}{out v':Value}{rows:List (List Int)}{rs:List Nat}{row:List Int}{o:Obj}(h:sg7 w B TR TI out rows rs) (hne:TR≠TI)
  (hb:Below w.heap.size w w1) (hr:Row w1 r TI (row.map se7)) (hrw:w.heap.size≤r) (hB:B≤w.heap.size)
  (hown:w2.ownsRow B TR 1 v' (rows.length+1) (List.zipWith kcb7 rs rows++[kcb7 r row])) (hg:(w1.alloc o).grownBy w2 out.ownBlock):sg7 w2 B TR TI v' (rows++[row]) (rs++[r]):=by
 obtain⟨h1,h2,h3,h4,h5⟩:=h
 have hob:∀{b:Nat} {cs:List Value},Row w1 b TI cs→Row w2 b TI cs:=fun {b cs} hR=>by
  refine (hR.alloc o).keep (hg.block b (hR.alloc o).lt ?_)
  intro e
  obtain⟨cs',hc'⟩:=sd7 h1 e.symm
  exact (hc'.below hb).ne hR hne rfl
 refine⟨?_,by simp[h2], ?_, ?_, ?_⟩
 ·rw[List.length_append,List.length_singleton,List.zipWith_append h2]
  exact hown
 ·intro i hi hi'
  by_cases hl:i<rows.length
  ·rw[List.getElem_append_left (by omega),List.getElem_append_left hl]
   exact hob ((h3 i (by omega) hl).below hb)
  ·have:i=rows.length:=by simp at hi';omega
   subst this
   rw[List.getElem_append_right (by omega),List.getElem_append_right (Nat.le_refl _)]
   simp only[h2,Nat.sub_self,List.getElem_cons_zero]
   exact hob hr
 ·rw[List.nodup_append]
  refine⟨h4,by simp,fun a ha b hb'=>?_⟩
  simp only[List.mem_singleton]at hb'
  have:=(h5 a ha).2
  omega
 ·intro b hb'
  have hs:w.heap.size≤w2.heap.size:=Nat.le_trans hb.size (Nat.le_trans (by simp) hg.size)
  have hr2:r<w2.heap.size:=Nat.lt_of_lt_of_le hr.lt (Nat.le_trans (by simp) hg.size)
  rcases List.mem_append.1 hb' with hb' | hb'
  ·have:=h5 b hb';omega
  ·simp only[List.mem_singleton]at hb';omega
def wa7 (w:World) (B TR TI:Nat) (v:Value) (rows:List (List Int)) (g:Nat) (rs:List Nat):Prop :=
 ∃c,v = .slice (some ⟨g,0,none⟩) rows.length c∧rows.length≤c∧c≤maxLen∧B≤g∧Row w g TR (List.zipWith kcb7 rs rows)∧rs.length=rows.length ∧
  (∀i (h:i<rs.length) (h':i<rows.length),Row w rs[i] TI (rows[i].map se7))∧rs.Nodup∧∀b∈rs,B≤b
theorem sg7.own {w:World}{B TR TI:Nat}{out:Value}{rows:List (List Int)}{rs:List Nat}(h:sg7 w B TR TI out rows rs) (hn:0<rows.length):∃g,wa7 w B TR TI out rows g rs:=by
 obtain⟨h1,h2,h3,h4,h5⟩:=h
 obtain⟨g,c,hv,hc,hm,hg,hr⟩:=Row.of_owns h1 hn
 exact⟨g,c,hv,hc,hm,hg,hr,h2,h3,h4,fun b hb=>(h5 b hb).1⟩
theorem wa7.below {w w':World}{B TR TI:Nat}{v:Value}{rows:List (List Int)}{g:Nat}{rs:List Nat}(h:wa7 w B TR TI v rows g rs) (hb:Below w.heap.size w w'):wa7 w' B TR TI v rows g rs:=by
 obtain⟨c,h0,h1,h2,h3,h4,h5,h6,h7,h8⟩:=h
 exact⟨c,h0,h1,h2,h3,h4.below hb,h5,fun i h h'=>(h6 i h h').below hb,h7,h8⟩
theorem pfb7:∀w,(sizeOf 3).run Tryz.prog w = .ok 1 w:=fun w=>by kernel_rfl
theorem fsb7:∀w,(sizeOf 5).run Tryz.prog w = .ok 1 w:=fun w=>by kernel_rfl
theorem gbb7:∀w,(sizeOf 121).run Tryz.prog w = .ok 2 w:=fun w=>by kernel_rfl
theorem ngb7:∀w,(sizeOf 70).run Tryz.prog w = .ok 2 w:=fun w=>by kernel_rfl
end Go.Proofs.YtabadfkikdefeaaGreat

namespace Go.Proofs.YtabadfkikdefeaaGreat
open Go.RowKit Go.Lib
def blb7 (c:UInt8):Prop:=48≤c.toNat∧c.toNat≤57
instance (c:UInt8):Decidable (blb7 c):=by unfold blb7;infer_instance
def canon (l:List UInt8):Prop:=l≠[]∧(1<l.length→l.getD 0 0≠48)
end Go.Proofs.YtabadfkikdefeaaGreat
namespace Go.Proofs.YtabadfkikdefeaaGreat
open Go.RowKit Go.Lib
def bsb7 (w:World) (base:Nat) (v:Value) (xs:List UInt8):Prop :=
 ∃g cap,v = .slice (some ⟨g,0,none⟩) xs.length cap∧(base≤g∧g<w.heap.size)∧xs.length≤cap∧cap≤maxLen∧(∀j,j<cap→(w.cell? ⟨g,j,none⟩).isSome=true∧w.frozen? ⟨g,j,none⟩=false) ∧
  ∀j (h:j<xs.length),w.cell? ⟨g,j,none⟩=some (.int .u8 (xs[j].toNat:Int))
theorem xw7 {w w':World}{g:Nat}(h:w'.heap[g]? = w.heap[g]?) (j:Nat):w'.frozen? ⟨g,j,none⟩=w.frozen? ⟨g,j,none⟩:=by simp[World.frozen?,h]
theorem bsb7.below {w w':World}{base:Nat}{v:Value}{xs:List UInt8}(h:bsb7 w base v xs) (hb:Below w.heap.size w w'):bsb7 w' base v xs:=by
 obtain⟨g,cap,h1,h2,h3,h4,h5,h6⟩:=h
 have hk:=hb.block g h2.2
 have hc:∀j,w'.cell? ⟨g,j,none⟩=w.cell? ⟨g,j,none⟩:=fun j=>World.cell?_of_block (a:=⟨g,j,none⟩) hk
 exact⟨g,cap,h1,⟨h2.1,Nat.lt_of_lt_of_le h2.2 hb.size⟩,h3,h4,fun j hj=>by rw[hc,xw7 hk];exact h5 j hj,fun j hj=>by rw[hc];exact h6 j hj⟩
end Go.Proofs.YtabadfkikdefeaaGreat

namespace Go.Proofs.YtabadfkikdefeaaGreat
open Go.RowKit Go.Lib
instance (l:List UInt8):Decidable (canon l):=by unfold canon;infer_instance
end Go.Proofs.YtabadfkikdefeaaGreat
namespace Go.Proofs.YtabadfkikdefeaaGreat
open Go.RowKit
def wdN (ws:List (List UInt8×Nat)) (i:Nat):List UInt8:=(ws.getD i ([],0)).1
def hdb7 (ws:List (List UInt8×Nat)) (i:Nat) (code:Int) (w:List UInt8):Nat×Int :=
 if ¬code=0 then (i,code) else if ws.length≤i∨¬wdN ws i=w then (i,5) else (i+1,0)
abbrev Stt:=Nat×Int
structure Sim {α β:Type} (f:α×Stt→β×Stt) (g:α×Nat→Except Stt (β×Nat)):Prop where
 ok:∀a i b j,g (a,i) = .ok (b,j)→f (a,(i,0))=(b,(j,0))
 er:∀a i e,g (a,i) = .error e→(f (a,(i,0))).2=e∧e.2≠0
 stay:∀a i c,c≠0→(f (a,(i,c))).2=(i,c)
def rep {α:Type} (f:α→α):Nat→α→α
 | 0,a=>a
 | n+1,a=>rep f n (f a)
def wjb7 {α:Type} (g:α×Nat→Except Stt (α×Nat)):Nat→α×Nat→Except Stt (α×Nat)
 | 0,a=>.ok a
 | n+1,a=>match g a with
  | .ok b=>wjb7 g n b
  | .error e=>.error e
theorem Sim.rep_stay {α:Type}{f:α×Stt→α×Stt}{g:α×Nat→Except Stt (α×Nat)}(h:Sim f g):∀n a i c,c≠0→(rep f n (a,(i,c))).2=(i,c)
 | 0,_,_,_,_=>rfl
 | n+1,a,i,c,hc=>by
  have e:f (a,(i,c))=((f (a,(i,c))).1,(i,c)):=Prod.ext rfl (h.stay a i c hc)
  show (rep f n (f (a,(i,c)))).2=(i,c)
  rw[e]
  exact Sim.rep_stay h n _ i c hc
theorem Sim.rep_ok {α:Type}{f:α×Stt→α×Stt}{g:α×Nat→Except Stt (α×Nat)}(h:Sim f g):∀n a i b j,wjb7 g n (a,i) = .ok (b,j)→rep f n (a,(i,0))=(b,(j,0))
 | 0,a,i,b,j,e=>by cases e;rfl
 | n+1,a,i,b,j,e=>by
  unfold wjb7 at e
  split at e
  ·rename_i y hy
   obtain⟨c,k⟩:=y
   show rep f n (f (a,(i,0)))=_
   rw[h.ok a i c k hy]
   exact Sim.rep_ok h n c k b j e
  ·cases e
theorem Sim.rep_er {α:Type}{f:α×Stt→α×Stt}{g:α×Nat→Except Stt (α×Nat)}(h:Sim f g):∀n a i e,wjb7 g n (a,i) = .error e→(rep f n (a,(i,0))).2=e∧e.2≠0
 | 0,a,i,e,h0=>by cases h0
 | n+1,a,i,e,h0=>by
  unfold wjb7 at h0
  split at h0
  ·rename_i y hy
   obtain⟨c,k⟩:=y
   show (rep f n (f (a,(i,0)))).2=e∧_
   rw[h.ok a i c k hy]
   exact Sim.rep_er h n c k e h0
  ·rename_i e2 hy
   cases h0
   obtain⟨h1,h2⟩:=h.er a i e hy
   refine⟨?_,h2⟩
   have e3:f (a,(i,0))=((f (a,(i,0))).1,(e.1,e.2)):=Prod.ext rfl h1
   show (rep f n (f (a,(i,0)))).2=e
   rw[e3]
   exact h.rep_stay n _ e.1 e.2 h2
structure Rd (α β:Type) where
 f:α×Stt→β×Stt
 g:α×Nat→Except Stt (β×Nat)
 sim:Sim f g
def Rd.map {α β:Type} (φ:α→β):Rd α β:=⟨fun a=>(φ a.1,a.2),fun a=>.ok (φ a.1,a.2),⟨(fun a i b j e=>by cases e;rfl),(fun a i e h=>by cases h),fun a i c _=>rfl⟩⟩
def Rd.seq {α β γ:Type} (r:Rd α β) (q:Rd β γ):Rd α γ where
 f:=fun a=>q.f (r.f a)
 g:=fun a=>match r.g a with
  | .ok b=>q.g b
  | .error e=>.error e
 sim:=by
  refine⟨fun a i b j e=>?_,fun a i e h=>?_,fun a i c hc=>?_⟩
  ·split at e
   ·rename_i y hy
    obtain⟨d,k⟩:=y
    show q.f (r.f (a,(i,0)))=_
    rw[r.sim.ok a i d k hy]
    exact q.sim.ok d k b j e
   ·cases e
  ·split at h
   ·rename_i y hy
    obtain⟨d,k⟩:=y
    show (q.f (r.f (a,(i,0)))).2=e∧_
    rw[r.sim.ok a i d k hy]
    exact q.sim.er d k e h
   ·rename_i e2 hy
    cases h
    obtain⟨h1,h2⟩:=r.sim.er a i e hy
    refine⟨?_,h2⟩
    have e3:r.f (a,(i,0))=((r.f (a,(i,0))).1,(e.1,e.2)):=Prod.ext rfl h1
    show (q.f (r.f (a,(i,0)))).2=e
    rw[e3]
    exact q.sim.stay _ e.1 e.2 h2
  ·have e3:r.f (a,(i,c))=((r.f (a,(i,c))).1,(i,c)):=Prod.ext rfl (r.sim.stay a i c hc)
   show (q.f (r.f (a,(i,c)))).2=(i,c)
   rw[e3]
   exact q.sim.stay _ i c hc
def Rd.rep {α:Type} (r:Rd α α):Rd (α×Int) α where
 f:=fun a=>Go.Proofs.YtabadfkikdefeaaGreat.rep r.f a.1.2.toNat (a.1.1,a.2)
 g:=fun a=>wjb7 r.g a.1.2.toNat (a.1.1,a.2)
 sim:=⟨fun a i b j e=>r.sim.rep_ok _ _ _ _ _ e,fun a i e h=>r.sim.rep_er _ _ _ _ h,fun a i c hc=>r.sim.rep_stay _ _ _ _ hc⟩
def jib7 (ws:List (List UInt8×Nat)) (w:List UInt8) (i:Nat):Except Stt Nat :=
 if ws.length≤i∨¬wdN ws i=w then .error (i,5) else .ok (i+1)
def Rd.must {α:Type} (ws:List (List UInt8×Nat)) (w:List UInt8):Rd α α where
 f:=fun a=>(a.1,hdb7 ws a.2.1 a.2.2 w)
 g:=fun a=>match jib7 ws w a.2 with
  | .ok y=>.ok (a.1,y)
  | .error e=>.error e
 sim:=by
  refine⟨fun a i b j e=>?_,fun a i e h=>?_,fun a i c hc=>?_⟩
  ·simp only[jib7]at e
   simp only[hdb7]
   rw[if_neg (by simp)]
   split at e
   ·rename_i y hy
    split at hy
    ·cases hy
    ·rename_i h1
     cases hy
     cases e
     rw[if_neg h1]
   ·cases e
  ·simp only[jib7]at h
   simp only[hdb7]
   rw[if_neg (by simp)]
   split at h
   ·cases h
   ·rename_i e2 hy
    cases h
    split at hy
    ·rename_i h1
     cases hy
     rw[if_pos h1]
     exact⟨rfl,by simp⟩
    ·cases hy
  ·simp only[hdb7]
   rw[if_pos hc]
end Go.Proofs.YtabadfkikdefeaaGreat


namespace Go.Proofs.YtabadfkikdefeaaGreat
open Go.RowKit
section
variable (ws:List (List UInt8×Nat))
def carry {A α:Type} (a:A) (x:Except Stt (α×Nat)):Except Stt ((A×α)×Nat):=match x with
 | .ok y=>.ok ((a,y.1),y.2)
 | .error e=>.error e
end
theorem nf7 {α:Type}{xs ys:List α}{k:Nat}(h1:k<xs.length) (h2:k<ys.length) (h:xs.take k=ys.take k) (he:xs[k]=ys[k]):xs.take (k+1)=ys.take (k+1):=by
 rw[List.take_succ_eq_append_getElem h1,List.take_succ_eq_append_getElem h2,h,he]
theorem yk7 {α:Type}{xs ys:List α}{k:Nat}(h1:k<xs.length) (h2:k<ys.length) (he:xs[k]≠ys[k]):xs≠ys:=by
 rintro rfl;exact he rfl
theorem fi7 {α:Type}{xs ys:List α}(hl:xs.length=ys.length) (h:xs.take xs.length=ys.take xs.length):xs=ys:=by
 rw[List.take_length]at h;rw[h,hl,List.take_length]
theorem meb7 {w:World}{F G:Nat→Prop}{xs ys:List Int}{u v:Value}(h:(ua7 kw7).rep w F xs [u]) (h':(ua7 kw7).rep w G ys [v]) :
  Calls Tryz.prog 33 #[u,v] w fun e w'=>e = .returned (.bool (decide (xs=ys)))∧∃n,w'=w.drewN n:=by
 obtain⟨a,b,off,c,hs,hlc,hc,ha,-,hcell,-⟩:=tq7 h
 obtain⟨a',b',off',c',hs',hlc',hc',ha',-,hcell',-⟩:=tq7 h'
 obtain rfl:=List.cons.inj hs |>.1
 obtain rfl:=List.cons.inj hs' |>.1
 clear hs hs' h h'
 by_cases hl:xs.length=ys.length
 ·have hl2:((xs.length:Int)==(ys.length:Int))=true:=by simp[hl]
  have hl3:((xs.length:Int) != (ys.length:Int))=false:=by simp[hl]
  have HL:=hid hl
  clear hl
  go_enter Tryz.func33,Tryz.ntmps33
  go_wp2
  go_loopw [5,13] (fun t i wr=>∃k:Nat,k≤xs.length∧i = .int .i64 k∧xs.take k=ys.take k∧∃n,wr=w.drewN n)
   (fun _ i _=>xs.length-(intOf i).toNat)
  case atStart=>exact⟨0,Nat.zero_le _,rfl,rfl,0,rfl⟩
  case round =>
   obtain⟨k,hk,rfl,ht,nd,rfl⟩:=hrel
   by_cases hlt:k<xs.length
   ·have hlt':k<ys.length:=by have:=HL.out;omega
    have g0:=hcell k hlt
    have g1:=hcell' k hlt'
    have hx:=ut7 (c:=c) Tryz.underlying68 pfb7 (ha (by omega)) hlt
    have hx':=ut7 (c:=c') Tryz.underlying68 pfb7 (ha' (by omega)) hlt'
    have HT:=hid ht
    clear hcell hcell' ha ha' ht
    by_cases he:xs[k]=ys[k]
    ·have he2:(xs[k] != ys[k])=false:=by simp[he]
     have HE:=hid he
     clear he
     go_wp2
     go_quiet (fail)
     go_wp2
     go_roundw
     case rel=>exact⟨k+1,by omega,by go_num,nf7 hlt hlt' HT.out HE.out,_,by first | rfl | exact World.drewN_drewN _ _ _⟩
     case measure=>simp[intOf];omega
    ·have he2:(xs[k] != ys[k])=true:=by simp[he]
     have HE:=hid he
     clear he
     go_wp2
     go_quiet (fail)
     go_wp2
     go_ret
     exact⟨yc7 (decide_eq_false (yk7 hlt hlt' HE.out)).symm,_,by first | rfl | exact World.drewN_drewN _ _ _⟩
   ·have hke:k=xs.length:=by omega
    subst hke
    have HT:=hid ht
    clear hcell hcell' ha ha' ht
    go_wp2
    go_ret
    exact⟨yc7 (decide_eq_true (fi7 HL.out HT.out)).symm,nd,rfl⟩
 ·have hl2:((xs.length:Int)==(ys.length:Int))=false:=by simp;omega
  have hl3:((xs.length:Int) != (ys.length:Int))=true:=by simp;omega
  have HL:=hid hl
  clear hl hcell hcell' ha ha'
  go_enter Tryz.func33,Tryz.ntmps33
  go_wp2
  go_ret
  exact⟨yc7 (decide_eq_false (fun e=>HL.out (by rw[e]))).symm,0,rfl⟩
theorem zz7 {w:World}{F G:Nat→Prop}{xs ys:List ra7}{u v:Value}(h:(ua7 em7).rep w F xs [u]) (h':(ua7 em7).rep w G ys [v]) :
  Calls Tryz.prog 84 #[u,v] w fun e w'=>e = .returned (.bool (decide (xs=ys)))∧∃n,w'=w.drewN n:=by
 obtain⟨a,b,off,c,hs,hlc,hc,ha,-,hcell,-⟩:=vm7 h
 obtain⟨a',b',off',c',hs',hlc',hc',ha',-,hcell',-⟩:=vm7 h'
 obtain rfl:=List.cons.inj hs |>.1
 obtain rfl:=List.cons.inj hs' |>.1
 clear hs hs' h h'
 by_cases hl:xs.length=ys.length
 ·have hl2:((xs.length:Int)==(ys.length:Int))=true:=by simp[hl]
  have hl3:((xs.length:Int) != (ys.length:Int))=false:=by simp[hl]
  have HL:=hid hl
  clear hl
  go_enter Tryz.func84,Tryz.ntmps84
  go_wp2
  go_loopw [5,13] (fun t i wr=>∃k:Nat,k≤xs.length∧i = .int .i64 k∧xs.take k=ys.take k∧∃n,wr=w.drewN n)
   (fun _ i _=>xs.length-(intOf i).toNat)
  case atStart=>exact⟨0,Nat.zero_le _,rfl,rfl,0,rfl⟩
  case round =>
   obtain⟨k,hk,rfl,ht,nd,rfl⟩:=hrel
   by_cases hlt:k<xs.length
   ·have hlt':k<ys.length:=by have:=HL.out;omega
    have g0:=(hcell k hlt).1
    have g1:=(hcell k hlt).2
    have g2:=(hcell' k hlt').1
    have g3:=(hcell' k hlt').2
    have hx:=hm7 (c:=c) Tryz.underlying122 gbb7 (ha (by omega)) hlt
    have hx':=hm7 (c:=c') Tryz.underlying122 gbb7 (ha' (by omega)) hlt'
    have HT:=hid ht
    clear hcell hcell' ha ha' ht
    cases h1:(xs[k].sat==ys[k].sat) <;> cases h2:(xs[k].load==ys[k].load)
    case true.true =>
     have HE:=hid (show xs[k]=ys[k] from by
      have e1:=eq_of_beq h1
      have e2:=eq_of_beq h2
      cases h3:xs[k];cases h4:ys[k];simp_all)
     go_wp2
     go_quiet (fail)
     go_wp2
     go_roundw
     case rel=>exact⟨k+1,by omega,by go_num,nf7 hlt hlt' HT.out HE.out,_,by first | rfl | exact World.drewN_drewN _ _ _⟩
     case measure=>simp[intOf];omega
    all_goals
     have HE:=hid (show ¬xs[k]=ys[k] from by intro e;rw[e]at h1 h2;simp at h1 h2)
     go_wp2
     go_quiet (fail)
     go_wp2
     go_ret
     exact⟨yc7 (decide_eq_false (yk7 hlt hlt' HE.out)).symm,_,by first | rfl | exact World.drewN_drewN _ _ _⟩
   ·have hke:k=xs.length:=by omega
    subst hke
    have HT:=hid ht
    clear hcell hcell' ha ha' ht
    go_wp2
    go_ret
    exact⟨yc7 (decide_eq_true (fi7 HL.out HT.out)).symm,nd,rfl⟩
 ·have hl2:((xs.length:Int)==(ys.length:Int))=false:=by simp;omega
  have hl3:((xs.length:Int) != (ys.length:Int))=true:=by simp;omega
  have HL:=hid hl
  clear hl hcell hcell' ha ha'
  go_enter Tryz.func84,Tryz.ntmps84
  go_wp2
  go_ret
  exact⟨yc7 (decide_eq_false (fun e=>HL.out (by rw[e]))).symm,0,rfl⟩
end Go.Proofs.YtabadfkikdefeaaGreat






namespace Go.Proofs.YtabadfkikdefeaaGreat
open Go.RowKit
def wv7:Shape (List Int):=ua7 u8S
def jgb7 (s:kkb7):List Value:=[se7 s.room,se7 s.hold]
def jt7 (c:zx7):List Value:=[se7 c.load,se7 c.opn,se7 c.cls,se7 c.stay]
def pc7 (TS TC TR TI:Nat) (w:World) (B:Nat) (x:cm7) (cs:List Value):Prop :=
 ∃gs cs1 gc cc1 vco vti gco rco gti rti,cs=[se7 x.fin,se7 x.tmany,se7 x.troom,se7 x.bmany,se7 x.broom,.slice (some ⟨gs,0,none⟩) x.sats.length cs1,.slice (some ⟨gc,0,none⟩) x.custs.length cc1,vco,vti] ∧
  (x.sats.length≤cs1∧cs1≤maxLen∧x.custs.length≤cc1∧cc1≤maxLen)∧B≤gs∧B≤gc∧Row w gs TS (x.sats.flatMap jgb7)∧Row w gc TC (x.custs.flatMap jt7) ∧
  wa7 w B TR TI vco x.cost gco rco∧wa7 w B TR TI vti x.time gti rti∧gco≠gti∧(∀a∈rco,∀b∈rti,a≠b)
theorem wa7.mono {w:World}{B B' TR TI:Nat}{v:Value}{rows:List (List Int)}{g:Nat}{rs:List Nat}(h:wa7 w B TR TI v rows g rs) (hB:B'≤B):wa7 w B' TR TI v rows g rs:=by
 obtain⟨c,k0,k1,k2,k3,k4,k5,k6,k7,k8⟩:=h
 exact⟨c,k0,k1,k2,Nat.le_trans hB k3,k4,k5,k6,k7,fun b hb=>Nat.le_trans hB (k8 b hb)⟩
theorem pc7.mono {TS TC TR TI B B':Nat}{w:World}{x:cm7}{cs:List Value}(h:pc7 TS TC TR TI w B x cs) (hB:B'≤B):pc7 TS TC TR TI w B' x cs:=by
 obtain⟨gs,cs1,gc,cc1,vco,vti,gco,rco,gti,rti,k0,k1,k2,k3,k4,k5,k6,k7,k8,k9⟩:=h
 exact⟨gs,cs1,gc,cc1,vco,vti,gco,rco,gti,rti,k0,k1,Nat.le_trans hB k2,Nat.le_trans hB k3,k4,k5,k6.mono hB,k7.mono hB,k8,k9⟩
theorem pc7.below {TS TC TR TI B:Nat}{w w':World}{x:cm7}{cs:List Value}(h:pc7 TS TC TR TI w B x cs) (hb:Below w.heap.size w w'):pc7 TS TC TR TI w' B x cs:=by
 obtain⟨gs,cs1,gc,cc1,vco,vti,gco,rco,gti,rti,h0,h1,h2,h3,h4,h5,h6,h7,h8,h9⟩:=h
 exact⟨gs,cs1,gc,cc1,vco,vti,gco,rco,gti,rti,h0,h1,h2,h3,h4.below hb,h5.below hb,h6.below hb,h7.below hb,h8,h9⟩
def flb7 (x:cm7):Prop :=
 (nb7 x.fin∧nb7 x.tmany∧nb7 x.troom∧nb7 x.bmany∧nb7 x.broom)∧(∀s∈x.sats,nb7 s.room∧nb7 s.hold)∧(∀c∈x.custs,nb7 c.load∧nb7 c.opn∧nb7 c.cls∧nb7 c.stay) ∧
  (∀r∈x.cost,r.length≤maxLen∧∀v∈r,nb7 v)∧∀r∈x.time,r.length≤maxLen∧∀v∈r,nb7 v
theorem he7 {α β:Type}(f:α→List β) (k:Nat) (hf:∀x,(f x).length=k):∀(xs:List α) (i j:Nat) (hi:i<xs.length),j<k→(xs.flatMap f)[i*k+j]? = (f xs[i])[j]?
 | x::xs,0,j,_,hj=>by
  rw[List.flatMap_cons,Nat.zero_mul,Nat.zero_add,List.getElem?_append_left (by rw[hf];exact hj)];rfl
 | x::xs,i+1,j,hi,hj=>by
  rw[List.flatMap_cons,List.getElem?_append_right (by rw[hf,Nat.succ_mul];omega),hf,show (i+1)*k+j-k=i*k+j by rw[Nat.succ_mul];omega]
  exact he7 f k hf xs i j (by simpa using hi) hj
theorem Row.get {w:World}{g:Nat}{e:TypeId}{cs:List Value}(h:Row w g e cs) {j:Nat}{v:Value}(hv:cs[j]? = some v):w.cell? ⟨g,j,none⟩=some v:=by
 obtain⟨hj,rfl⟩:=List.getElem?_eq_some_iff.1 hv
 exact h.cell hj
theorem vdb7 {TS:Nat}{w:World}{F:Nat→Prop}{xs:List kkb7}{g c:Nat}(h:Row w g TS (xs.flatMap jgb7)) (h1:xs.length≤c) (h2:c≤maxLen) (hF:F g) (hw:∀s∈xs,nb7 s.room∧nb7 s.hold) :
  wab7.rep w F xs [.slice (some ⟨g,0,none⟩) xs.length c]:=by
 refine⟨some ⟨g,0,none⟩,g,0,c,rfl,h1,h2,fun _=>⟨rfl,hF⟩,fun i hi=>⟨jgb7 xs[i],⟨rfl,hw _ (List.getElem_mem hi)⟩,fun j hj=>?_⟩⟩
 have hj2:j<2:=hj
 have e:=he7 jgb7 2 (fun _=>rfl) xs i j hi hj2
 have e2:(jgb7 xs[i])[j]? = some ((jgb7 xs[i])[j]'hj2):=List.getElem?_eq_getElem hj2
 rw[e2]at e ⊢
 rw[Nat.zero_add]
 exact h.get e
theorem jz7 {TS:Nat}{w:World}{F:Nat→Prop}{xs:List zx7}{g c:Nat}(h:Row w g TS (xs.flatMap jt7)) (h1:xs.length≤c) (h2:c≤maxLen) (hF:F g) (hw:∀c∈xs,nb7 c.load∧nb7 c.opn∧nb7 c.cls∧nb7 c.stay) :
  pq7.rep w F xs [.slice (some ⟨g,0,none⟩) xs.length c]:=by
 refine⟨some ⟨g,0,none⟩,g,0,c,rfl,h1,h2,fun _=>⟨rfl,hF⟩,fun i hi=>⟨jt7 xs[i],⟨rfl,hw _ (List.getElem_mem hi)⟩,fun j hj=>?_⟩⟩
 have hj2:j<4:=hj
 have e:=he7 jt7 4 (fun _=>rfl) xs i j hi hj2
 have e2:(jt7 xs[i])[j]? = some ((jt7 xs[i])[j]'hj2):=List.getElem?_eq_getElem hj2
 rw[e2]at e ⊢
 rw[Nat.zero_add]
 exact h.get e
theorem rdb7 {TI:Nat}{w:World}{F:Nat→Prop}{xs:List Int}{g c:Nat}(h:Row w g TI (xs.map se7)) (h1:xs.length≤c) (h2:c≤maxLen) (hF:F g) (hw:∀v∈xs,nb7 v) :
  (ua7 kw7).rep w F xs [.slice (some ⟨g,0,none⟩) xs.length c]:=by
 refine⟨some ⟨g,0,none⟩,g,0,c,rfl,h1,h2,fun _=>⟨rfl,hF⟩,fun i hi=>⟨[se7 xs[i]],⟨rfl,hw _ (List.getElem_mem hi)⟩,fun j hj=>?_⟩⟩
 have hj1:j<1:=hj
 have hj0:j=0:=by omega
 subst hj0
 show w.cell? ⟨g,0+i*1+0,none⟩=some (se7 xs[i])
 rw[show 0+i*1+0=i by omega]
 exact h.get (by simp[List.getElem?_eq_getElem hi])
theorem wa7.rep {TR TI B:Nat}{w:World}{v:Value}{rows:List (List Int)}{g:Nat}{rs:List Nat}(h:wa7 w B TR TI v rows g rs) (hw:∀r∈rows,r.length≤maxLen∧∀v∈r,nb7 v) :
  xo7.rep w (fun b=>B≤b) rows [v]:=by
 obtain⟨c,rfl,h1,h2,h3,h4,h5,h6,h7,h8⟩:=h
 refine⟨some ⟨g,0,none⟩,g,0,c,rfl,h1,h2,fun _=>⟨rfl,h3⟩,fun i hi=>⟨[kcb7 (rs[i]'(by omega)) rows[i]], ?_,fun j hj=>?_⟩⟩
 ·have hb:=h8 _ (List.getElem_mem (l:=rs) (n:=i) (by omega))
  exact rdb7 (h6 i (by omega) hi) (Nat.le_refl _) (hw _ (List.getElem_mem hi)).1 hb (hw _ (List.getElem_mem hi)).2
 ·have hj1:j<1:=hj
  have hj0:j=0:=by omega
  subst hj0
  show w.cell? ⟨g,0+i*1+0,none⟩=some (kcb7 (rs[i]'(by omega)) rows[i])
  rw[show 0+i*1+0=i by omega]
  exact h4.get (by rw[List.getElem?_zipWith,List.getElem?_eq_getElem (by omega:i<rs.length),List.getElem?_eq_getElem hi])
theorem pc7.rep {TS TC TR TI B:Nat}{w:World}{x:cm7}{cs:List Value}(h:pc7 TS TC TR TI w B x cs) (hw:flb7 x):krb7.rep w (fun b=>B≤b) x cs:=by
 obtain⟨gs,cs1,gc,cc1,vco,vti,gco,rco,gti,rti,rfl,⟨k1,k2,k3,k4⟩,h2,h3,h4,h5,h6,h7,-,-⟩:=h
 exact⟨_,_,_,_,rfl,hw.1,vdb7 h4 k1 k2 h2 hw.2.1,jz7 h5 k3 k4 h3 hw.2.2.1,h6.rep hw.2.2.2.1,h7.rep hw.2.2.2.2⟩
theorem pc7.lit {TS TC TR TI B:Nat}{w:World}{x:cm7}{cs:List Value}(h:pc7 TS TC TR TI w B x cs):∃gs cs1 gc cc1 gco cco gti cti,
  cs=[.int .i64 x.fin,.int .i64 x.tmany,.int .i64 x.troom,.int .i64 x.bmany,.int .i64 x.broom,.slice (some ⟨gs,0,none⟩) x.sats.length cs1,.slice (some ⟨gc,0,none⟩) x.custs.length cc1,.slice (some ⟨gco,0,none⟩) x.cost.length cco,.slice (some ⟨gti,0,none⟩) x.time.length cti]:=by
 obtain⟨gs,cs1,gc,cc1,vco,vti,gco,rco,gti,rti,rfl,-,-,-,-,-,⟨c,rfl,_⟩,⟨c',rfl,_⟩,-,-⟩:=h
 exact⟨_,_,_,_,_,_,_,_,rfl⟩
end Go.Proofs.YtabadfkikdefeaaGreat

namespace Go.Proofs.YtabadfkikdefeaaGreat
open Go.RowKit
def rtb7 (n l:Int):Bool:=decide (l≤n)&&decide (n≤1000000000)
def manyB (n m:Int):Bool:=decide (1≤n)&&decide (n≤m)
def nodes (x:cm7):Nat:=1+x.sats.length+x.custs.length
end Go.Proofs.YtabadfkikdefeaaGreat

namespace Go.Proofs.YtabadfkikdefeaaGreat
open Go.RowKit
def jpb7 (i k:Nat) (n:Int):Bool:=rtb7 n 0&&(((i:Int) != (k:Int)) || n==0)
def xpb7 (i:Nat) (r:List Int) (m:Nat):Bool:=(List.range m).all fun k=>jpb7 i k (r.getD k 0)
structure Ext (W:World) where
 val:World
 ok:Below W.heap.size W val
instance (W:World):Nonempty (Ext W):=⟨⟨W,Below.refl _ _⟩⟩
theorem Calls.ext {P:Program}{f:FuncId}{args:Array Value}{W:World}{x:Ext W}{v:Value}
  (h:Calls P f args x.val fun e w'=>e = .returned v∧Below x.val.heap.size x.val w'):Calls P f args x.val fun e w''=>e = .returned v∧∃y:Ext W,w''=y.val :=
 h.mono fun _ w' ⟨he,hb⟩=>⟨he,⟨w',x.ok.trans (hb.mono x.ok.size)⟩,rfl⟩
theorem Ext.cell {W:World}(x:Ext W) {a:Addr}{v:Value}(h:W.cell? a=some v):x.val.cell? a=some v:=ai7 x.ok h
end Go.Proofs.YtabadfkikdefeaaGreat

namespace Go.Proofs.YtabadfkikdefeaaGreat
open Go.RowKit
def ig7 (out:List Int) (cnt:Nat):Prop:=∀v∈out,0≤v∧v≤1000000000*(cnt:Int)
theorem ig7.mono {out:List Int}{a b:Nat}(h:ig7 out a) (hab:a≤b):ig7 out b:=fun v hv=>⟨(h v hv).1,Int.le_trans (h v hv).2 (by omega)⟩
theorem ig7.zero (n:Nat):ig7 (List.replicate n 0) 0:=fun v hv=>by rw[List.eq_of_mem_replicate hv];decide
theorem ig7.get {out:List Int}{cnt:Nat}(h:ig7 out cnt) {i:Nat}(hi:i<out.length):0≤out[i]∧out[i]≤1000000000*(cnt:Int):=h _ (List.getElem_mem hi)
theorem ig7.add {out:List Int}{cnt:Nat}(h:ig7 out cnt) {i:Nat}{a b:Int}(ha:0≤a∧a≤1000000000*(cnt:Int)) (hb:0≤b∧b≤1000000000):ig7 (out.set i (a+b)) (cnt+1):=fun v hv=>by
 rcases List.mem_or_eq_of_mem_set hv with hv | rfl
 ·have:=h v hv;exact⟨this.1,by push_cast;omega⟩
 ·exact⟨by omega,by push_cast;omega⟩
def qbb7 (w wr:World) (t b t' b':Value):Prop :=
 Below w.heap.size w wr∧wr.cell? ⟨w.heap.size,0,none⟩=some t∧wr.cell? ⟨w.heap.size,1,none⟩=some b∧wr.cell? ⟨w.heap.size+1,0,none⟩=some t'∧wr.cell? ⟨w.heap.size+1,1,none⟩=some b'
theorem qbb7.drewN {w wr:World}{t b t' b':Value}(h:qbb7 w wr t b t' b') (n:Nat):qbb7 w (wr.drewN n) t b t' b':=⟨below_drewN h.1 n,h.2⟩
end Go.Proofs.YtabadfkikdefeaaGreat







namespace Go.Proofs.YtabadfkikdefeaaGreat
open Go.RowKit
theorem xlb7 {α β:Type}(f:α→β):∀xs:List α,xs.flatMap (fun x=>[f x])=xs.map f
 | []=>rfl
 | x::xs=>by rw[List.flatMap_cons,List.map_cons,xlb7 f xs];rfl
theorem nw7 {α:Type}{S:Shape α}{h0:0<S.sz}{w:World}{B:Nat}{T:TypeId}{v:Value}{xs:List α}(enc:α→List Value) (hl:∀x,(enc x).length=S.sz) (hs:∀x∈xs,S.rep w (fun b=>B≤b) x (enc x))
  (h:w.ownsRow B T S.sz v xs.length (xs.flatMap enc)):(ua7 S h0).rep w (fun b=>B≤b) xs [v]:=by
 obtain⟨h1,h2⟩:=h
 rcases h2 with ⟨rfl,hn⟩ | ⟨g,cap,cur,rfl,hg,hh,hn1,hc,hsz,ht⟩
 ·have:xs=[]:=List.eq_nil_of_length_eq_zero hn
  subst this
  exact⟨none,0,0,0,rfl,Nat.le_refl _,Nat.zero_le _,fun h=>absurd h (Nat.not_lt_zero _),fun i h=>absurd h (Nat.not_lt_zero _)⟩
 ·have hR:Row w g T (xs.flatMap enc):=⟨cur,cur.toList.drop (xs.length*S.sz),hh,by rw[← ht,List.take_append_drop]⟩
  refine⟨some ⟨g,0,none⟩,g,0,cap,rfl,hn1,hc,fun _=>⟨rfl,hg⟩,fun i hi=>⟨enc xs[i],hs _ (List.getElem_mem hi),fun j hj=>?_⟩⟩
  have e:=he7 enc S.sz hl xs i j hi hj
  have hj':j<(enc xs[i]).length:=by rw[hl];exact hj
  rw[List.getElem?_eq_getElem hj']at e ⊢
  rw[Nat.zero_add]
  exact hR.get e
theorem yy7 {w:World}{B:Nat}{T:TypeId}{v:Value}{xs:List Int}(h:w.ownsRow B T 1 v xs.length (xs.map se7)) (hw:∀x∈xs,nb7 x):(ua7 kw7).rep w (fun b=>B≤b) xs [v] :=
 nw7 (S:=kw7) (fun x=>[se7 x]) (fun _=>rfl) (fun x hx=>⟨rfl,hw x hx⟩) (by rw[xlb7];exact h)
theorem Row.grown {w w':World}{g:Nat}{e:TypeId}{cs:List Value}{B T n k:Nat}{v:Value}{xs:List Value}(h:Row w g e cs) (hown:w.ownsRow B T k v n xs) (he:e≠T) (hg:w.grownBy w' v.ownBlock):Row w' g e cs :=
 h.keep (hg.block g h.lt fun e=>by obtain⟨cs',hc'⟩:=sd7 hown e.symm;exact h.ne hc' he rfl)
theorem al7 {B B' T n k:Nat}{a w w':World}{v:Value}{xs:List Value}(h:Below B a w) (hown:w.ownsRow B' T k v n xs) (hB:B≤w.heap.size) (hB':B≤B') (hg:w.grownBy w' v.ownBlock):Below B a w' :=
 h.grown hg hB fun k hk=>Nat.le_trans hB' (hown.lt k hk).1
theorem aeb7:(Tryz.prog.info? 3).map (fun i=>(i.zero,i.size,i.bytes))=some (some (.int .i64 0),1,8):=by kernel_rfl
theorem gy7 {α:Type}{S:Shape α}{h0:0<S.sz}{w:World}{F:Nat→Prop}{xs:List α}{g c:Nat}{T:TypeId}(vs:List (List Value)) (hl:vs.length=xs.length) (hv:∀v∈vs,v.length=S.sz)
  (hr:∀i (h:i<xs.length) (h':i<vs.length),S.rep w F xs[i] vs[i]) (h:Row w g T vs.flatten) (hc:xs.length≤c) (hm:c≤maxLen) (hF:F g):(ua7 S h0).rep w F xs [.slice (some ⟨g,0,none⟩) xs.length c]:=by
 refine⟨some ⟨g,0,none⟩,g,0,c,rfl,hc,hm,fun _=>⟨rfl,hF⟩,fun i hi=>⟨vs[i]'(by omega),hr i hi (by omega),fun j hj=>?_⟩⟩
 have hget:∀(l:List (List Value)) (i:Nat) (hi:i<l.length),(∀v∈l,v.length=S.sz)→l.flatten[i*S.sz+j]? = (l[i])[j]? := by
  intro l
  induction l with
  | nil=>intro i hi;simp at hi
  | cons a l ih =>
   intro i hi hl
   have ha:=hl a (List.mem_cons_self ..)
   rw[List.flatten_cons]
   cases i with
   | zero=>rw[Nat.zero_mul,Nat.zero_add,List.getElem?_append_left (by rw[ha];exact hj)];rfl
   | succ i =>
    rw[List.getElem?_append_right (by rw[ha,Nat.succ_mul];omega),ha,show (i+1)*S.sz+j-S.sz=i*S.sz+j by rw[Nat.succ_mul];omega]
    exact ih i (by simpa using hi) fun v hv=>hl v (List.mem_cons_of_mem _ hv)
 have e:=hget vs i (by omega) hv
 have hj':j<(vs[i]'(by omega)).length:=by rw[hv _ (List.getElem_mem _)];exact hj
 rw[List.getElem?_eq_getElem hj']at e ⊢
 rw[Nat.zero_add]
 exact h.get e
theorem Row.setApart {w:World}{g g':Nat}{e e':TypeId}{cs cs':List Value}(h:Row w g e cs) (h':Row w g' e' cs') (he:e≠e') (j:Nat) (u:Value):Row (w.setCell ⟨g',j,none⟩ u) g e cs:=h.setOther (a:=⟨g',j,none⟩) (h.ne h' he) u
theorem wa7.set {TR TI B:Nat}{w:World}{v:Value}{rows:List (List Int)}{g:Nat}{rs:List Nat}(h:wa7 w B TR TI v rows g rs) (hne:TR≠TI) {i j:Nat}(hi:i<rows.length) (hi':i<rs.length) (hj:j<rows[i].length) (u:Int) :
  wa7 (w.setCell ⟨rs[i],j,none⟩ (se7 u)) B TR TI v (rows.set i (rows[i].set j u)) g rs:=by
 obtain⟨c,k0,k1,k2,k3,k4,k5,k6,k7,k8⟩:=h
 have hz:List.zipWith kcb7 rs (rows.set i (rows[i].set j u))=List.zipWith kcb7 rs rows:=by
  apply List.ext_getElem
  ·simp
  ·intro n h1 h2
   simp only[List.getElem_zipWith,List.getElem_set]
   split
   ·rename_i e;subst e;unfold kcb7;simp
   ·rfl
 refine⟨c,by rw[k0];simp,by simpa using k1,k2,k3, ?_,by simpa using k5,fun n h1 h2=>?_,k7,k8⟩
 ·rw[hz]
  exact k4.setApart (k6 i hi' hi) hne _ _
 ·simp only[List.getElem_set]
  split
  ·rename_i e;subst e
   have:=(k6 i hi' hi).set (j:=j) (by rw[List.length_map];exact hj) (se7 u)
   rwa [← List.map_set]at this
  ·rename_i e
   have hn:n<rows.length:=by simpa using h2
   refine (k6 n h1 hn).setOther (fun e2=>e ?_) _
   exact ((List.getElem_inj k7).1 e2).symm
theorem wa7.keepAll {w w':World}{B TR TI:Nat}{v:Value}{rows:List (List Int)}{g:Nat}{rs:List Nat}(h:wa7 w B TR TI v rows g rs) (h1:w'.heap[g]? = w.heap[g]?) (h2:∀b∈rs,w'.heap[b]? = w.heap[b]?):wa7 w' B TR TI v rows g rs:=by
 obtain⟨c,k0,k1,k2,k3,k4,k5,k6,k7,k8⟩:=h
 exact⟨c,k0,k1,k2,k3,k4.keep h1,k5,fun i h h'=>(k6 i h h').keep (h2 _ (List.getElem_mem h)),k7,k8⟩
theorem wa7.open {TR TI B:Nat}{w:World}{v:Value}{rows:List (List Int)}{g:Nat}{rs:List Nat}(h:wa7 w B TR TI v rows g rs):∃c,v = .slice (some ⟨g,0,none⟩) rows.length c∧rs.length=rows.length ∧
  (∀i (h:i<rows.length) (h':i<rs.length),w.cell? ⟨g,i,none⟩=some (.slice (some ⟨rs[i],0,none⟩) rows[i].length rows[i].length)) ∧
  (∀i (h:i<rows.length) (h':i<rs.length),Row w rs[i] TI (rows[i].map se7)∧B≤rs[i]):=by
 obtain⟨c,k0,k1,k2,k3,k4,k5,k6,k7,k8⟩:=h
 refine⟨c,k0,k5,fun i h h'=>?_,fun i h h'=>⟨k6 i h' h,k8 _ (List.getElem_mem h')⟩⟩
 have:=k4.get (j:=i) (v:=kcb7 rs[i] rows[i]) (by rw[List.getElem?_zipWith,List.getElem?_eq_getElem h',List.getElem?_eq_getElem h])
 exact this
structure ih7 (TS TC TR TI:Nat) (w:World) (B:Nat) (x:cm7) (cs:List Value) (gs cs1 gc cc1 gco cco:Nat) (rco:List Nat) (gti cti:Nat) (rti:List Nat):Prop where
 lit:cs=[.int .i64 x.fin,.int .i64 x.tmany,.int .i64 x.troom,.int .i64 x.bmany,.int .i64 x.broom,.slice (some ⟨gs,0,none⟩) x.sats.length cs1,.slice (some ⟨gc,0,none⟩) x.custs.length cc1,.slice (some ⟨gco,0,none⟩) x.cost.length cco,.slice (some ⟨gti,0,none⟩) x.time.length cti]
 caps:x.sats.length≤cs1∧cs1≤maxLen∧x.custs.length≤cc1∧cc1≤maxLen
 leS:B≤gs
 leC:B≤gc
 sats:Row w gs TS (x.sats.flatMap jgb7)
 custs:Row w gc TC (x.custs.flatMap jt7)
 costs:wa7 w B TR TI (.slice (some ⟨gco,0,none⟩) x.cost.length cco) x.cost gco rco
 times:wa7 w B TR TI (.slice (some ⟨gti,0,none⟩) x.time.length cti) x.time gti rti
 apart:gco≠gti
 apart2:∀a∈rco,∀b∈rti,a≠b
section
variable {TS TC TR TI B gs cs1 gc cc1 gco cco gti cti:Nat} {w:World} {x:cm7} {cs:List Value} {rco rti:List Nat}
theorem pc7.at (h:pc7 TS TC TR TI w B x cs):∃gs cs1 gc cc1 gco cco rco gti cti rti,ih7 TS TC TR TI w B x cs gs cs1 gc cc1 gco cco rco gti cti rti:=by
 obtain⟨gs,cs1,gc,cc1,vco,vti,gco,rco,gti,rti,k0,k1,k2,k3,k4,k5,k6,k7,k8,k9⟩:=h
 obtain⟨c,hv,-⟩:=k6.open
 obtain⟨c',hv',-⟩:=k7.open
 subst hv;subst hv'
 exact⟨gs,cs1,gc,cc1,gco,c,rco,gti,c',rti,k0,k1,k2,k3,k4,k5,k6,k7,k8,k9⟩
theorem ih7.own (h:ih7 TS TC TR TI w B x cs gs cs1 gc cc1 gco cco rco gti cti rti):pc7 TS TC TR TI w B x cs :=
 ⟨gs,cs1,gc,cc1,_,_,gco,rco,gti,rti,h.lit,h.caps,h.leS,h.leC,h.sats,h.custs,h.costs,h.times,h.apart,h.apart2⟩
theorem ih7.drew (h:ih7 TS TC TR TI w B x cs gs cs1 gc cc1 gco cco rco gti cti rti):ih7 TS TC TR TI w.drew B x cs gs cs1 gc cc1 gco cco rco gti cti rti:=⟨h.lit,h.caps,h.leS,h.leC,h.sats.drew,h.custs.drew,h.costs.keepAll rfl fun _ _=>rfl,h.times.keepAll rfl fun _ _=>rfl,h.apart,h.apart2⟩
theorem ih7.below {w':World}(h:ih7 TS TC TR TI w B x cs gs cs1 gc cc1 gco cco rco gti cti rti) (hb:Below w.heap.size w w'):ih7 TS TC TR TI w' B x cs gs cs1 gc cc1 gco cco rco gti cti rti :=
 ⟨h.lit,h.caps,h.leS,h.leC,h.sats.below hb,h.custs.below hb,h.costs.below hb,h.times.below hb,h.apart,h.apart2⟩
theorem wa7.row {TR TI B:Nat}{w:World}{v:Value}{rows:List (List Int)}{g:Nat}{rs:List Nat}(h:wa7 w B TR TI v rows g rs) {i:Nat}(hi:i<rows.length) :
  w.cell? ⟨g,i,none⟩=some (.slice (some ⟨rs.getD i 0,0,none⟩) (rows.getD i []).length (rows.getD i []).length)∧Row w (rs.getD i 0) TI ((rows.getD i []).map se7)∧B≤rs.getD i 0∧rs.getD i 0∈rs:=by
 obtain⟨c,hv,hrl,hg,hr⟩:=h.open
 have hi':i<rs.length:=by omega
 have e1:rows.getD i []=rows[i]:=by rw[List.getD_eq_getElem?_getD,List.getElem?_eq_getElem hi];rfl
 have e2:rs.getD i 0=rs[i]:=by rw[List.getD_eq_getElem?_getD,List.getElem?_eq_getElem hi'];rfl
 rw[e1,e2]
 exact⟨hg i hi hi',(hr i hi hi').1,(hr i hi hi').2,List.getElem_mem _⟩
theorem wa7.apart {TR TI B:Nat}{w:World}{v:Value}{rows:List (List Int)}{g:Nat}{rs:List Nat}(h:wa7 w B TR TI v rows g rs) {i i':Nat}(hi:i<rows.length) (hi':i'<rows.length) (hne:i≠i'):rs.getD i 0≠rs.getD i' 0:=by
 obtain⟨c,k0,k1,k2,k3,k4,k5,k6,k7,k8⟩:=h
 rw[List.getD_eq_getElem?_getD,List.getD_eq_getElem?_getD,List.getElem?_eq_getElem (by omega),List.getElem?_eq_getElem (by omega)]
 intro e
 exact hne ((List.getElem_inj k7).1 e)
end
def qd7 (row:Option Nat) (W w':World):Prop:=W.heap.size≤w'.heap.size∧∀b,b<W.heap.size→some b≠row→w'.heap[b]? = W.heap[b]?
instance (row:Option Nat) (W:World):Nonempty (At (qd7 row W)):=⟨⟨W,Nat.le_refl _,fun _ _ _=>rfl⟩⟩
theorem qd7.cell {row:Option Nat}{W w':World}(h:qd7 row W w') {a:Addr}{v:Value}(hc:W.cell? a=some v) (hne:some a.block≠row):w'.cell? a=some v:=by
 rw[World.cell?_of_block (h.2 _ (as7 hc) hne)];exact hc
theorem qd7.refl (row:Option Nat) (W:World):qd7 row W W:=⟨Nat.le_refl _,fun _ _ _=>rfl⟩
theorem qd7.drew {row:Option Nat}{W w':World}(h:qd7 row W w'):qd7 row W w'.drew:=h
theorem qd7.below {row:Option Nat}{W w1 w2:World}(h:qd7 row W w1) (hb:Below w1.heap.size w1 w2):qd7 row W w2:=⟨Nat.le_trans h.1 hb.size,fun b hb' hne=>(hb.block b (Nat.lt_of_lt_of_le hb' h.1)).trans (h.2 b hb' hne)⟩
theorem qd7.grown {row:Option Nat}{W w1 w2:World}(h:qd7 row W w1) (hg:w1.grownBy w2 row):qd7 row W w2:=⟨Nat.le_trans h.1 hg.size,fun b hb' hne=>(hg.block b (Nat.lt_of_lt_of_le hb' h.1) hne).trans (h.2 b hb' hne)⟩
theorem ow7 {w:World}{B T n k g:Nat}{v:Value}{xs:List Value}{e:TypeId}{cs:List Value}(h:w.ownsRow B T k v n xs) (hr:Row w g e cs) (he:e≠T):some g≠v.ownBlock:=fun e'=>by obtain⟨cs',hc'⟩:=sd7 h e'.symm;exact hr.ne hc' he rfl
theorem jcb7 {α:Type}(S:Shape α) {h0:0<S.sz}(w:World) (F:Nat→Prop):(ua7 S h0).rep w F [] [.slice none 0 0] :=
 ⟨none,0,0,0,rfl,Nat.le_refl _,Nat.zero_le _,fun h=>absurd h (Nat.not_lt_zero _),fun i h=>absurd h (Nat.not_lt_zero _)⟩
def cc7 (out:List (List ra7)) (s:ra7):List (List ra7):=out.set (out.length-1) (out.getD (out.length-1) []++[s])
def dx7 (s:ra7):List Value:=[.int .i64 s.sat,.int .i64 s.load]
structure oo7 (TT TS:Nat) (w:World) (B:Nat) (v:Value) (out:List (List ra7)) (vs:List Value):Prop where
 own:w.ownsRow B TT 1 v out.length vs
 len:vs.length=out.length
 rows:∀i (h:i<out.length) (h':i<vs.length),w.ownsRow B TS 2 vs[i] out[i].length (out[i].flatMap dx7)
 apart:∀i j (hi:i<vs.length) (hj:j<vs.length),i≠j→vs[i].ownBlock=none∨vs[i].ownBlock≠vs[j].ownBlock
theorem oo7.nil (TT TS:Nat) (w:World) (B:Nat):oo7 TT TS w B (.slice none 0 0) [] [] :=
 ⟨World.ownsRow_nil _ _ _ _,rfl,fun _ h=>absurd h (Nat.not_lt_zero _),fun _ _ h=>absurd h (Nat.not_lt_zero _)⟩
theorem oo7.below {TT TS:Nat}{w w':World}{B:Nat}{v:Value}{out:List (List ra7)}{vs:List Value}(h:oo7 TT TS w B v out vs) (hb:Below w.heap.size w w'):oo7 TT TS w' B v out vs :=
 ⟨vf7 h.own hb,h.len,fun i h1 h2=>vf7 (h.rows i h1 h2) hb,h.apart⟩
theorem qc7 {w:World}{B B' T T' n n' k k':Nat}{v v':Value}{xs xs':List Value}(h:w.ownsRow B T k v n xs) (h':w.ownsRow B' T' k' v' n' xs') (hne:T≠T'):v.ownBlock=none∨v.ownBlock≠v'.ownBlock:=by
 cases e:v.ownBlock with
 | none=>exact .inl rfl
 | some g =>
  obtain⟨cs,hc⟩:=sd7 h e
  exact .inr fun e'=>(ow7 h' hc hne) e'
theorem oo7.push {TT TS:Nat}{w w':World}{B:Nat}{v v':Value}{out:List (List ra7)}{vs:List Value}(h:oo7 TT TS w B v out vs) (hne:TS≠TT) (hg:w.grownBy w' v.ownBlock)
  (ho:w'.ownsRow B TT 1 v' (out.length+1) (vs++[.slice none 0 0])):oo7 TT TS w' B v' (out++[[]]) (vs++[.slice none 0 0]):=by
 refine⟨by rw[List.length_append];exact ho,by simp[h.len],fun i h1 h2=>?_,fun i j hi hj hij=>?_⟩
 ·by_cases hl:i<out.length
  ·have hl':i<vs.length:=by rw[h.len];exact hl
   rw[List.getElem_append_left hl',List.getElem_append_left hl]
   exact (h.rows i hl hl').kept hg (qc7 (h.rows i hl hl') h.own hne)
  ·have:i=out.length:=by simp at h1;omega
   subst this
   have e1:(vs++[Value.slice none 0 0])[out.length]'h2 = .slice none 0 0:=by rw[List.getElem_append_right (by rw[h.len];exact Nat.le_refl _)];simp[h.len]
   have e2:(out++[[]])[out.length]'h1=[]:=by rw[List.getElem_append_right (Nat.le_refl _)];simp
   rw[e1,e2]
   exact World.ownsRow_nil _ _ _ _
 ·have key:∀i (hi:i<(vs++[Value.slice none 0 0]).length),((vs++[Value.slice none 0 0])[i]).ownBlock=none∨∃hi':i<vs.length,(vs++[Value.slice none 0 0])[i]=vs[i]:=fun i hi=>by
   by_cases hl:i<vs.length
   ·exact .inr ⟨hl,List.getElem_append_left hl⟩
   ·refine .inl ?_
    rw[List.getElem_append_right (by omega)]
    simp only[List.getElem_singleton];rfl
  rcases key i hi with h1 | ⟨h1,e1⟩
  ·exact .inl h1
  ·rcases key j hj with h2 | ⟨h2,e2⟩
   ·rw[e1,h2]
    cases e:vs[i].ownBlock with
    | none=>exact .inl rfl
    | some g=>exact .inr (by simp)
   ·rw[e1,e2];exact h.apart i j h1 h2 hij
theorem yr7 {w:World}{B T n g cap:Nat}{xs:List Value}(h:w.ownsRow B T 1 (.slice (some ⟨g,0,none⟩) n cap) n xs) (j:Nat) (u:Value):(w.setCell ⟨g,j,none⟩ u).ownsRow B T 1 (.slice (some ⟨g,0,none⟩) n cap) n (xs.set j u)∧w.grownBy (w.setCell ⟨g,j,none⟩ u) (some g) :=
 h.stored j u
theorem oo7.stop {TT TS:Nat}{w w1:World}{B g cap:Nat}{out:List (List ra7)}{vs:List Value}{u:Value}{s:ra7}(h:oo7 TT TS w B (.slice (some ⟨g,0,none⟩) out.length cap) out vs) (hne:TS≠TT) (hpos:0<out.length)
  (hg:w.grownBy w1 (vs.getD (out.length-1) undef).ownBlock) (hu:w1.ownsRow B TS 2 u ((out.getD (out.length-1) []).length+1) ((out.getD (out.length-1) []).flatMap dx7++dx7 s))
  (hat:u.ownBlock=(vs.getD (out.length-1) undef).ownBlock∨∃b,u.ownBlock=some b∧w.heap.size≤b) :
  oo7 TT TS (w1.setCell ⟨g,out.length-1,none⟩ u) B (.slice (some ⟨g,0,none⟩) (cc7 out s).length cap) (cc7 out s) (vs.set (out.length-1) u):=by
 have hl:out.length-1<out.length:=by omega
 have hl':out.length-1<vs.length:=by rw[h.len];exact hl
 have ev:vs.getD (out.length-1) undef=vs[out.length-1]:=by rw[List.getD_eq_getElem?_getD,List.getElem?_eq_getElem hl'];rfl
 have eo:out.getD (out.length-1) []=out[out.length-1]:=by rw[List.getD_eq_getElem?_getD,List.getElem?_eq_getElem hl];rfl
 rw[ev]at hg hat
 have hrow:=h.rows _ hl hl'
 have howngrow:w1.ownsRow B TT 1 (.slice (some ⟨g,0,none⟩) out.length cap) out.length vs:=h.own.kept hg (qc7 h.own hrow (Ne.symm hne))
 have hst:=yr7 howngrow (out.length-1) u
 have hlen:(cc7 out s).length=out.length:=by unfold cc7;simp
 have hug:u.ownBlock=none∨u.ownBlock≠some g:=by
  have:=qc7 hu howngrow hne
  exact this
 refine⟨by rw[hlen];exact hst.1,by rw[List.length_set,h.len,hlen],fun i h1 h2=>?_,fun i j hi hj hij=>?_⟩
 ·have hi:i<out.length:=by rw[hlen]at h1;exact h1
  have hi':i<vs.length:=by rw[h.len];exact hi
  by_cases e:out.length-1=i
  ·subst e
   have e1:(vs.set (out.length-1) u)[out.length-1]'h2=u:=by simp
   have e2:(cc7 out s)[out.length-1]'h1=out.getD (out.length-1) []++[s]:=by simp[cc7]
   rw[e1,e2,List.flatMap_append,List.length_append]
   have:=hu.kept hst.2 hug
   simpa using this
  ·have e1:(vs.set (out.length-1) u)[i]'h2=vs[i]:=by rw[List.getElem_set_ne e]
   have e2:(cc7 out s)[i]'h1=out[i]:=by simp only[cc7,List.getElem_set,if_neg e]
   rw[e1,e2]
   have k1:=(h.rows i hi hi').kept hg (h.apart i _ hi' hl' (Ne.symm e))
   exact k1.kept hst.2 (qc7 k1 howngrow hne)
 ·have hlt:∀i (hi:i<vs.length) b,vs[i].ownBlock=some b→b<w.heap.size:=fun i hi b hb=>((h.rows i (by rw[← h.len];exact hi) hi).lt b hb).2
  simp only[List.length_set]at hi hj
  simp only[List.getElem_set]
  split
  ·rename_i ei
   split
   ·omega
   ·rename_i ej
    rcases hat with e | ⟨b,e,hb⟩
    ·rw[e];exact h.apart _ j hl' hj ej
    ·refine .inr fun e'=>?_
     have:=hlt j hj b (by rw[← e',e]);omega
  ·rename_i ei
   split
   ·rename_i ej
    rcases hat with e | ⟨b,e,hb⟩
    ·rw[e];exact h.apart i _ hi hl' (by omega)
    ·refine .inr fun e'=>?_
     have:=hlt i hi b (by rw[e',e]);omega
   ·exact h.apart i j hi hj hij
theorem oo7.rep {TT TS:Nat}{w:World}{B:Nat}{v:Value}{out:List (List ra7)}{vs:List Value}(h:oo7 TT TS w B v out vs) (hw:∀t∈out,∀s∈t,nb7 s.sat∧nb7 s.load):qhb7.rep w (fun b=>B≤b) out [v]:=by
 have hr:∀i (h1:i<out.length) (h2:i<vs.length),(ua7 em7).rep w (fun b=>B≤b) out[i] [vs[i]]:=fun i h1 h2 =>
  nw7 (S:=em7) dx7 (fun _=>rfl) (fun s hs=>⟨rfl,hw _ (List.getElem_mem h1) s hs⟩) (h.rows i h1 h2)
 rcases h.own.2 with ⟨rfl,hn⟩ | ⟨g,cap,cur,rfl,hg,hh,hn1,hc,hsz,ht⟩
 ·have:out=[]:=List.eq_nil_of_length_eq_zero hn
  subst this
  exact jcb7 _ _ _
 ·have hR:Row w g TT vs:=⟨cur,cur.toList.drop (out.length*1),hh,by rw[← ht,List.take_append_drop]⟩
  refine gy7 (S:=ua7 em7) (T:=TT) (vs.map fun v=>[v]) (by simp[h.len]) (fun v hv=>by obtain⟨u,_,rfl⟩:=List.mem_map.1 hv;rfl) (fun i h1 h2=>?_) ?_ hn1 hc hg
  ·rw[List.getElem_map];exact hr i h1 _
  ·have:(vs.map fun v=>[v]).flatten=vs:=by
    clear hR ht hr h
    induction vs with
    | nil=>rfl
    | cons a l ih=>rw[List.map_cons,List.flatten_cons,ih];rfl
   rw[this];exact hR
def tb7:List cb7→List Value→List Value
 | b::out,u::vs=>.int .i64 b.sat::u::tb7 out vs
 | _,_=>[]
theorem zf7:∀(out:List cb7) (vs:List Value),vs.length=out.length→(tb7 out vs).length=out.length*2
 | [],[],_=>rfl
 | b::out,u::vs,h=>by
  have:=zf7 out vs (by simpa using h)
  simp only[tb7,List.length_cons,this];omega
 | [],_::_,h=>by cases h
 | _::_,[],h=>by cases h
theorem wj7:∀(out:List cb7) (vs:List Value) (b:cb7) (u:Value),vs.length=out.length→tb7 (out++[b]) (vs++[u])=tb7 out vs++[.int .i64 b.sat,u]
 | [],[],_,_,_=>rfl
 | a::out,v::vs,b,u,h=>by
  have:=wj7 out vs b u (by simpa using h)
  simp only[List.cons_append,tb7,this]
 | [],_::_,_,_,h=>by cases h
 | _::_,[],_,_,h=>by cases h
theorem hi7:∀(out:List cb7) (vs:List Value) (k:Nat) (h:k<out.length) (h':k<vs.length),(tb7 out vs)[2*k]? = some (.int .i64 out[k].sat)∧(tb7 out vs)[2*k+1]? = some vs[k]
 | a::out,v::vs,0,_,_=>⟨rfl,rfl⟩
 | a::out,v::vs,k+1,h,h'=>by
  have:=hi7 out vs k (by simpa using h) (by simpa using h')
  simp only[tb7,show 2*(k+1)=2*k+1+1 by omega,List.getElem?_cons_succ,List.getElem_cons_succ]
  exact this
 | [],_,_,h,_=>absurd h (Nat.not_lt_zero _)
 | _::_,[],_,_,h=>absurd h (Nat.not_lt_zero _)
theorem xm7:∀(out:List cb7) (vs:List Value) (k:Nat) (_:k<out.length) (_:vs.length=out.length) (b:cb7) (u:Value),tb7 (out.set k b) (vs.set k u)=((tb7 out vs).set (2*k) (.int .i64 b.sat)).set (2*k+1) u
 | a::out,v::vs,0,_,_,b,u=>rfl
 | a::out,v::vs,k+1,h,h',b,u=>by
  have:=xm7 out vs k (by simpa using h) (by simpa using h') b u
  simp only[tb7,List.set_cons_succ,this,show 2*(k+1)=2*k+1+1 by omega]
 | [],_,_,h,_,_,_=>absurd h (Nat.not_lt_zero _)
 | _::_,[],_,_,h,_,_=>by cases h
theorem zdb7 {α:Type}{l:List α}{k:Nat}{v:α}(h:l[k]? = some v):l.set k v=l:=by
 apply List.ext_getElem?
 intro i
 rw[List.getElem?_set]
 split
 ·rename_i e;subst e
  split
  ·exact h.symm
  ·rename_i hl;rw[List.getElem?_eq_none (by omega)]
 ·rfl
structure vi7 (TB TI:Nat) (w:World) (B:Nat) (v:Value) (out:List cb7) (vs:List Value):Prop where
 own:w.ownsRow B TB 2 v out.length (tb7 out vs)
 len:vs.length=out.length
 rows:∀i (h:i<out.length) (h':i<vs.length),w.ownsRow B TI 1 vs[i] out[i].stops.length (out[i].stops.map se7)
 apart:∀i j (hi:i<vs.length) (hj:j<vs.length),i≠j→vs[i].ownBlock=none∨vs[i].ownBlock≠vs[j].ownBlock
theorem vi7.nil (TB TI:Nat) (w:World) (B:Nat):vi7 TB TI w B (.slice none 0 0) [] [] :=
 ⟨World.ownsRow_nil _ _ _ _,rfl,fun _ h=>absurd h (Nat.not_lt_zero _),fun _ _ h=>absurd h (Nat.not_lt_zero _)⟩
theorem vi7.below {TB TI:Nat}{w w':World}{B:Nat}{v:Value}{out:List cb7}{vs:List Value}(h:vi7 TB TI w B v out vs) (hb:Below w.heap.size w w'):vi7 TB TI w' B v out vs :=
 ⟨vf7 h.own hb,h.len,fun i h1 h2=>vf7 (h.rows i h1 h2) hb,h.apart⟩
theorem vi7.blockLt {TB TI:Nat}{w:World}{B:Nat}{v:Value}{out:List cb7}{vs:List Value}(h:vi7 TB TI w B v out vs):∀i (hi:i<vs.length) b,vs[i].ownBlock=some b→b<w.heap.size:=fun i hi b hb =>
 ((h.rows i (by rw[← h.len];exact hi) hi).lt b hb).2
theorem vi7.kept {TB TI:Nat}{w w':World}{B:Nat}{v:Value}{out:List cb7}{vs:List Value}{row:Option Nat}(h:vi7 TB TI w B v out vs) (hg:w.grownBy w' row) (h1:v.ownBlock=none∨v.ownBlock≠row) (h2:∀i (hi:i<vs.length),vs[i].ownBlock=none∨vs[i].ownBlock≠row):vi7 TB TI w' B v out vs :=
 ⟨h.own.kept hg h1,h.len,fun i k1 k2=>(h.rows i k1 k2).kept hg (h2 i k2),h.apart⟩
theorem vi7.push {TB TI:Nat}{w w':World}{B:Nat}{v v' u:Value}{out:List cb7}{vs:List Value}{b:cb7}(h:vi7 TB TI w B v out vs) (hne:TI≠TB) (hg:w.grownBy w' v.ownBlock)
  (ho:w'.ownsRow B TB 2 v' (out.length+1) (tb7 out vs++[.int .i64 b.sat,u])) (hu:w.ownsRow B TI 1 u b.stops.length (b.stops.map se7))
  (ha:∀i (hi:i<vs.length),(vs[i].ownBlock=none∨vs[i].ownBlock≠u.ownBlock)∧(u.ownBlock=none∨u.ownBlock≠vs[i].ownBlock)):vi7 TB TI w' B v' (out++[b]) (vs++[u]):=by
 refine⟨by rw[wj7 _ _ _ _ h.len,List.length_append];exact ho,by simp[h.len],fun i h1 h2=>?_,fun i j hi hj hij=>?_⟩
 ·by_cases hl:i<out.length
  ·have hl':i<vs.length:=by rw[h.len];exact hl
   rw[List.getElem_append_left hl',List.getElem_append_left hl]
   exact (h.rows i hl hl').kept hg (qc7 (h.rows i hl hl') h.own hne)
  ·have:i=out.length:=by simp at h1;omega
   subst this
   have e1:(vs++[u])[out.length]'h2=u:=by rw[List.getElem_append_right (by rw[h.len];exact Nat.le_refl _)];simp[h.len]
   have e2:(out++[b])[out.length]'h1=b:=by rw[List.getElem_append_right (Nat.le_refl _)];simp
   rw[e1,e2]
   exact hu.kept hg (qc7 hu h.own hne)
 ·simp only[List.length_append,List.length_cons,List.length_nil]at hi hj
  by_cases h1:i<vs.length
  ·by_cases h2:j<vs.length
   ·rw[List.getElem_append_left h1,List.getElem_append_left h2];exact h.apart i j h1 h2 hij
   ·have:j=vs.length:=by omega
    subst this
    rw[List.getElem_append_left h1,List.getElem_append_right (Nat.le_refl _)]
    simp only[Nat.sub_self,List.getElem_cons_zero]
    exact (ha i h1).1
  ·have:i=vs.length:=by omega
   subst this
   have h2:j<vs.length:=by omega
   rw[List.getElem_append_left h2,List.getElem_append_right (Nat.le_refl _)]
   simp only[Nat.sub_self,List.getElem_cons_zero]
   exact (ha j h2).2
theorem vi7.stops {TB TI:Nat}{w w1:World}{B g cap k:Nat}{out:List cb7}{vs:List Value}{u:Value}{sp:List Int}(h:vi7 TB TI w B (.slice (some ⟨g,0,none⟩) out.length cap) out vs) (hne:TI≠TB) (hk:k<out.length)
  (hg:w.grownBy w1 (vs.getD k undef).ownBlock) (hu:w1.ownsRow B TI 1 u sp.length (sp.map se7)) (hat:u.ownBlock=(vs.getD k undef).ownBlock∨(∃b,u.ownBlock=some b∧w.heap.size≤b)∨u.ownBlock=none) :
  vi7 TB TI (w1.setCell ⟨g,2*k+1,none⟩ u) B (.slice (some ⟨g,0,none⟩) out.length cap) (out.set k ⟨(out.getD k ⟨0,[]⟩).sat,sp⟩) (vs.set k u):=by
 have hk':k<vs.length:=by rw[h.len];exact hk
 have ev:vs.getD k undef=vs[k]:=by rw[List.getD_eq_getElem?_getD,List.getElem?_eq_getElem hk'];rfl
 have eo:out.getD k ⟨0,[]⟩=out[k]:=by rw[List.getD_eq_getElem?_getD,List.getElem?_eq_getElem hk];rfl
 rw[ev]at hg hat
 rw[eo]
 have hrow:=h.rows k hk hk'
 have howngrow:w1.ownsRow B TB 2 (.slice (some ⟨g,0,none⟩) out.length cap) out.length (tb7 out vs):=h.own.kept hg (qc7 h.own hrow (Ne.symm hne))
 have hst:=howngrow.stored (2*k+1) u
 have hlen:(out.set k ⟨out[k].sat,sp⟩).length=out.length:=by simp
 have hcell:tb7 (out.set k ⟨out[k].sat,sp⟩) (vs.set k u)=(tb7 out vs).set (2*k+1) u:=by
  rw[xm7 _ _ _ hk h.len,zdb7 (hi7 out vs k hk hk').1]
 have hug:u.ownBlock=none∨u.ownBlock≠some g:=qc7 hu howngrow hne
 refine⟨by rw[hlen,hcell];exact hst.1,by simp[h.len],fun i h1 h2=>?_,fun i j hi hj hij=>?_⟩
 ·have hi:i<out.length:=by simpa using h1
  have hi':i<vs.length:=by rw[h.len];exact hi
  by_cases e:k=i
  ·subst e
   have e1:(vs.set k u)[k]'h2=u:=by simp
   have e2:(out.set k ⟨out[k].sat,sp⟩)[k]'h1=⟨out[k].sat,sp⟩:=by simp
   rw[e1,e2]
   exact hu.kept hst.2 hug
  ·have e1:(vs.set k u)[i]'h2=vs[i]:=by rw[List.getElem_set_ne e]
   have e2:(out.set k ⟨out[k].sat,sp⟩)[i]'h1=out[i]:=by simp only[List.getElem_set,if_neg e]
   rw[e1,e2]
   have k1:=(h.rows i hi hi').kept hg (h.apart i _ hi' hk' (Ne.symm e))
   exact k1.kept hst.2 (qc7 k1 howngrow hne)
 ·have hlt:=h.blockLt
  simp only[List.length_set]at hi hj
  simp only[List.getElem_set]
  split
  ·rename_i ei
   split
   ·omega
   ·rename_i ej
    rcases hat with e | ⟨b,e,hb⟩ | e
    ·rw[e];exact h.apart _ j hk' hj ej
    ·refine .inr fun e'=>?_
     have:=hlt j hj b (by rw[← e',e]);omega
    ·exact .inl e
  ·rename_i ei
   split
   ·rename_i ej
    rcases hat with e | ⟨b,e,hb⟩ | e
    ·rw[e];exact h.apart i _ hi hk' (by omega)
    ·refine .inr fun e'=>?_
     have:=hlt i hi b (by rw[e',e]);omega
    ·rw[e]
     cases hv:vs[i].ownBlock with
     | none=>exact .inl rfl
     | some g=>exact .inr (by simp)
   ·exact h.apart i j hi hj hij
theorem vi7.rep {TB TI:Nat}{w:World}{B:Nat}{v:Value}{out:List cb7}{vs:List Value}(h:vi7 TB TI w B v out vs) (hw:∀b∈out,nb7 b.sat∧∀s∈b.stops,nb7 s):ufb7.rep w (fun b=>B≤b) out [v]:=by
 have hr:∀i (h1:i<out.length) (h2:i<vs.length),peb7.rep w (fun b=>B≤b) out[i] [.int .i64 out[i].sat,vs[i]]:=fun i h1 h2 =>
  ⟨vs[i],rfl,(hw _ (List.getElem_mem h1)).1,yy7 (h.rows i h1 h2) (hw _ (List.getElem_mem h1)).2⟩
 rcases h.own.2 with ⟨rfl,hn⟩ | ⟨g,cap,cur,rfl,hg,hh,hn1,hc,hsz,ht⟩
 ·have:out=[]:=List.eq_nil_of_length_eq_zero hn
  subst this
  exact jcb7 _ _ _
 ·have hR:Row w g TB (tb7 out vs):=⟨cur,cur.toList.drop (out.length*2),hh,by rw[← ht,List.take_append_drop]⟩
  refine gy7 (S:=peb7) (T:=TB) (List.zipWith (fun (b:cb7) u=>[.int .i64 b.sat,u]) out vs) (by simp[h.len]) (fun v hv=>?_) (fun i h1 h2=>?_) ?_ hn1 hc hg
  ·obtain⟨i,hi,rfl⟩:=List.getElem_of_mem hv
   simp only[List.getElem_zipWith];rfl
  ·rw[List.getElem_zipWith];exact hr i h1 _
  ·have:∀(out:List cb7) (vs:List Value),(List.zipWith (fun (b:cb7) u=>[Value.int .i64 b.sat,u]) out vs).flatten=tb7 out vs:=by
    intro out
    induction out with
    | nil=>intro vs;simp[tb7]
    | cons a l ih =>
     intro vs
     cases vs with
     | nil=>simp[tb7]
     | cons v vs=>simp[tb7,ih]
   rw[this];exact hR
structure pi7 (many room:Int) (out:List (List ra7)) (left:Int):Prop where
 leftB:0≤left∧left≤room
 manyB:(out.length:Int)≤many
 lastB:((out.getD (out.length-1) []).length:Int)+left≤room∨out=[]
 someB:0<left→0<out.length
 wfB:∀t∈out,∀s∈t,nb7 s.sat∧nb7 s.load
theorem pi7.nil {many room:Int}(h1:0≤many) (h2:0≤room):pi7 many room [] 0 :=
 ⟨by omega,by simpa using h1,.inr rfl,fun h=>by omega,fun _ h=>by cases h⟩
theorem pi7.push {many room left:Int}{out:List (List ra7)}(h:pi7 many room out left) (h1:(out.length:Int)≠many) (h2:room≠0):pi7 many room (out++[[]]) room:=by
 have hl:=h.leftB
 have hm:=h.manyB
 refine⟨by omega,by rw[List.length_append];simp;omega,.inl ?_,fun _=>by simp,fun t ht s hs=>?_⟩
 ·rw[List.length_append,List.length_singleton,Nat.add_sub_cancel,List.getD_eq_getElem?_getD,List.getElem?_append_right (Nat.le_refl _),Nat.sub_self];simp
 ·rcases List.mem_append.1 ht with ht | ht
  ·exact h.wfB t ht s hs
  ·simp at ht;subst ht;cases hs
theorem pi7.stop {many room left much:Int}{out:List (List ra7)}{s:ra7}(h:pi7 many room out left) (hr:room≤1000000000) (h0:0<left) (h1:1≤much) (h2:much≤left) (hs:nb7 s.sat∧nb7 s.load):pi7 many room (cc7 out s) (left-much):=by
 have hl:=h.leftB
 have hp:=h.someB h0
 have hlen:(cc7 out s).length=out.length:=by unfold cc7;simp
 refine⟨by omega,by rw[hlen];exact h.manyB,.inl ?_,fun _=>by omega,fun t ht u hu=>?_⟩
 ·rcases h.lastB with h3 | h3
  ·have e:(cc7 out s).getD ((cc7 out s).length-1) []=out.getD (out.length-1) []++[s]:=by
    rw[hlen,List.getD_eq_getElem?_getD]
    unfold cc7
    rw[List.getElem?_set_self (by omega)];rfl
   rw[e,List.length_append];simp only[List.length_singleton];push_cast;omega
  ·rw[h3]at hp;cases hp
 ·unfold cc7 at ht
  rcases List.mem_or_eq_of_mem_set ht with ht | rfl
  ·exact h.wfB t ht u hu
  ·rcases List.mem_append.1 hu with hu | hu
   ·have hlt:out.length-1<out.length:=by omega
    rw[List.getD_eq_getElem?_getD,List.getElem?_eq_getElem hlt]at hu
    exact h.wfB _ (List.getElem_mem hlt) u hu
   ·simp at hu;subst hu;exact hs
end Go.Proofs.YtabadfkikdefeaaGreat


namespace Go.Proofs.YtabadfkikdefeaaGreat
open Go.RowKit
def lastT (out:List (List ra7)):List ra7:=out.getD (out.length-1) []
def scb7 (t:List ra7):ra7:=t.getD (t.length-1) ⟨0,0⟩
def gtb7 (s:Int) (t:List ra7):Bool:=t.length==0 || (scb7 t).sat != s
def bz7 (s:Int) (t:List ra7):List ra7:=if gtb7 s t then t++[⟨s,1⟩] else t.set (t.length-1) ⟨s,(scb7 t).load+1⟩
def setLast (out:List (List ra7)) (t:List ra7):List (List ra7):=out.set (out.length-1) t
def yd7 (room:Int) (st:List (List ra7)×Int):List (List ra7)×Int:=if st.2=0 then (st.1++[[]],room) else st
def qeb7 (room:Int) (s:Nat) (st:List (List ra7)×Int):List (List ra7)×Int:=(setLast (yd7 room st).1 (bz7 s (lastT (yd7 room st).1)),(yd7 room st).2-1)
theorem ld7 (out:List (List ra7)) (t:List ra7):(setLast out t).length=out.length:=by unfold setLast;simp
end Go.Proofs.YtabadfkikdefeaaGreat



namespace Go.Proofs.YtabadfkikdefeaaGreat
open Go.RowKit
structure te7 (room:Int) (cnt:Nat) (out:List (List ra7)) (left:Int):Prop where
 leftB:0≤left∧left≤room
 lenB:out.length≤cnt
 someB:0<left→0<out.length
 stB:∀t∈out,t.length≤cnt∧∀s∈t,(0≤s.sat∧s.sat≤1000)∧0≤s.load∧s.load≤cnt
theorem py7 {out:List (List ra7)}(h:0<out.length):lastT out∈out:=by
 unfold lastT
 rw[List.getD_eq_getElem?_getD,List.getElem?_eq_getElem (by omega)];exact List.getElem_mem _
theorem icb7 {t:List ra7}(h:0<t.length):scb7 t∈t:=by
 unfold scb7
 rw[List.getD_eq_getElem?_getD,List.getElem?_eq_getElem (by omega)];exact List.getElem_mem _
theorem te7.nil {room:Int}(h:0≤room):te7 room 0 [] 0:=⟨by omega,Nat.le_refl _,fun h=>absurd h (by decide),fun _ h=>by cases h⟩
theorem te7.ready {room left:Int}{cnt:Nat}{out:List (List ra7)}(h:te7 room cnt out left) (hr:1≤room):te7 room (cnt+1) (yd7 room (out,left)).1 (yd7 room (out,left)).2∧0<(yd7 room (out,left)).2:=by
 have hl:=h.leftB
 unfold yd7
 by_cases hz:left=0
 ·rw[if_pos hz]
  refine⟨⟨⟨by show 0≤room;omega,Int.le_refl _⟩,by have:=h.lenB;simp;omega,fun _=>by simp,fun t ht=>?_⟩,by show 0<room;omega⟩
  rcases List.mem_append.1 ht with ht | ht
  ·have:=h.stB t ht;exact⟨by omega,fun s hs=>by have:=this.2 s hs;push_cast;omega⟩
  ·simp at ht;subst ht;exact⟨by simp,fun s hs=>by cases hs⟩
 ·rw[if_neg hz]
  refine⟨⟨hl,by have:=h.lenB;show out.length≤_;omega,h.someB,fun t ht=>?_⟩,by show 0<left;omega⟩
  have:=h.stB t ht;exact⟨by omega,fun s hs=>by have:=this.2 s hs;push_cast;omega⟩
theorem te7.step {room left:Int}{cnt s:Nat}{out:List (List ra7)}(h:te7 room cnt out left) (hr:1≤room) (hs:s≤1000):te7 room (cnt+1) (qeb7 room s (out,left)).1 (qeb7 room s (out,left)).2:=by
 have hl:=h.leftB
 have hrd:=h.ready hr
 have hst:∀t∈(yd7 room (out,left)).1,t.length≤cnt∧∀u∈t,(0≤u.sat∧u.sat≤1000)∧0≤u.load∧u.load≤cnt:=by
  unfold yd7
  split
  ·intro t ht
   rcases List.mem_append.1 ht with ht | ht
   ·exact h.stB t ht
   ·simp at ht;subst ht;exact⟨Nat.zero_le _,fun s hs=>by cases hs⟩
  ·exact h.stB
 unfold qeb7
 generalize yd7 room (out,left)=st at *
 have hp:=hrd.1.someB hrd.2
 have hlm:=hst _ (py7 hp)
 have hlr:=hrd.1.leftB
 have hlen:=hrd.1.lenB
 refine⟨⟨by show 0≤st.2-1;omega,by show st.2-1≤room;omega⟩,by show (setLast st.1 _).length≤_;rw[ld7];exact hlen,fun _=>by show 0<(setLast st.1 _).length;rw[ld7];exact hp,fun t ht=>?_⟩
 have ht':t∈setLast st.1 (bz7 s (lastT st.1)):=ht
 unfold setLast at ht'
 rcases List.mem_or_eq_of_mem_set ht' with hm | rfl
 ·have:=hst t hm;exact⟨by omega,fun u hu=>by have:=this.2 u hu;push_cast;omega⟩
 ·generalize lastT st.1=t at hlm
  unfold bz7
  split
  ·refine⟨by rw[List.length_append];simp;omega,fun u hu=>?_⟩
   rcases List.mem_append.1 hu with hu | hu
   ·have:=hlm.2 u hu;push_cast;omega
   ·obtain rfl:=List.mem_singleton.1 hu
    show (0≤(s:Int)∧(s:Int)≤1000)∧(0:Int)≤1∧(1:Int)≤((cnt+1:Nat):Int)
    omega
  ·rename_i hn
   refine⟨by rw[List.length_set];omega,fun u hu=>?_⟩
   rcases List.mem_or_eq_of_mem_set hu with hu | rfl
   ·have:=hlm.2 u hu;push_cast;omega
   ·have h0:0<t.length:=by
     unfold gtb7 at hn
     simp only[Bool.or_eq_true,beq_iff_eq,not_or]at hn
     omega
    have:=hlm.2 _ (icb7 h0)
    simp only[];push_cast;omega
theorem ku7:∀(t:List ra7) (k:Nat) (h:k<t.length) (v:Int),(t.set k ⟨t[k].sat,v⟩).flatMap dx7=(t.flatMap dx7).set (2*k+1) (.int .i64 v)
 | [],k,h,_=>absurd h (Nat.not_lt_zero _)
 | a::t,0,_,v=>rfl
 | a::t,k+1,h,v=>by
  have:=ku7 t k (by simpa using h) v
  simp only[List.set_cons_succ,List.getElem_cons_succ,List.flatMap_cons,this]
  rw[show 2*(k+1)+1=(2*k+1)+1+1 by omega]
  rfl
theorem oo7.load {TT TS:Nat}{w:World}{B gs c:Nat}{v:Value}{out:List (List ra7)}{vs:List Value}(h:oo7 TT TS w B v out vs) (hne:TS≠TT) (hpos:0<out.length)
  (hv:vs.getD (out.length-1) undef = .slice (some ⟨gs,0,none⟩) (lastT out).length c) {k:Nat} (hk:k<(lastT out).length) (x:Int) :
  oo7 TT TS (w.setCell ⟨gs,2*k+1,none⟩ (.int .i64 x)) B v (setLast out ((lastT out).set k ⟨(lastT out)[k].sat,x⟩)) vs∧w.grownBy (w.setCell ⟨gs,2*k+1,none⟩ (.int .i64 x)) (some gs):=by
 have hl:out.length-1<out.length:=by omega
 have hl':out.length-1<vs.length:=by rw[h.len];exact hl
 have ev:vs.getD (out.length-1) undef=vs[out.length-1]:=by rw[List.getD_eq_getElem?_getD,List.getElem?_eq_getElem hl'];rfl
 have eo:lastT out=out[out.length-1]:=by unfold lastT;rw[List.getD_eq_getElem?_getD,List.getElem?_eq_getElem hl];rfl
 have hrow:=h.rows _ hl hl'
 rw[← ev,hv,← eo]at hrow
 have hst:=hrow.stored (2*k+1) (.int .i64 x)
 have hblk:(vs[out.length-1]).ownBlock=some gs:=by rw[← ev,hv];rfl
 refine⟨⟨?_,by rw[ld7];exact h.len,fun i h1 h2=>?_,h.apart⟩,hst.2⟩
 ·rw[ld7]
  refine h.own.kept hst.2 ?_
  rw[← hblk]
  exact qc7 h.own (h.rows _ hl hl') (Ne.symm hne)
 ·have hi:i<out.length:=by rw[ld7]at h1;exact h1
  have hi':i<vs.length:=by rw[h.len];exact hi
  by_cases e:out.length-1=i
  ·subst e
   have e2:(setLast out ((lastT out).set k ⟨(lastT out)[k].sat,x⟩))[out.length-1]'h1=(lastT out).set k ⟨(lastT out)[k].sat,x⟩:=by simp[setLast]
   rw[e2,ku7 _ _ hk,List.length_set,← ev,hv]
   exact hst.1
  ·have e2:(setLast out ((lastT out).set k ⟨(lastT out)[k].sat,x⟩))[i]'h1=out[i]:=by simp only[setLast,List.getElem_set,if_neg e]
   rw[e2]
   refine (h.rows i hi hi').kept hst.2 ?_
   rw[← hblk]
   exact h.apart i _ hi' hl' (Ne.symm e)
theorem te7.one {room left:Int}{cnt s:Nat}{out:List (List ra7)}(h:te7 room cnt out left) (hr:1≤room) (hs:s≤1000) :
  ∃o l,yd7 room (out,left)=(o,l)∧te7 room (cnt+1) o l∧0<l∧0<o.length∧(∀t∈o,t.length≤cnt∧∀u∈t,(0≤u.sat∧u.sat≤1000)∧0≤u.load∧u.load≤cnt)∧qeb7 room s (out,left)=(setLast o (bz7 s (lastT o)),l-1)∧te7 room (cnt+1) (setLast o (bz7 s (lastT o))) (l-1):=by
 have h1:=h.ready hr
 have h2:=h.step hr hs
 have hst:∀t∈(yd7 room (out,left)).1,t.length≤cnt∧∀u∈t,(0≤u.sat∧u.sat≤1000)∧0≤u.load∧u.load≤cnt:=by
  unfold yd7
  split
  ·intro t ht
   rcases List.mem_append.1 ht with ht | ht
   ·exact h.stB t ht
   ·obtain rfl:=List.mem_singleton.1 ht
    exact⟨Nat.zero_le _,fun s hs=>by cases hs⟩
  ·exact h.stB
 exact⟨_,_,rfl,h1.1,h1.2,h1.1.someB h1.2,hst,rfl,h2⟩
theorem oh7 {w:World}{B B' T n k:Nat}{v:Value}{xs:List Value}(h:w.ownsRow B T k v n xs) (hb:B'≤B):w.ownsRow B' T k v n xs :=
 ⟨h.1,h.2.imp id fun ⟨g,cap,cur,hv,hg,r⟩=>⟨g,cap,cur,hv,Nat.le_trans hb hg,r⟩⟩
theorem oo7.mono {TT TS:Nat}{w:World}{B B':Nat}{v:Value}{out:List (List ra7)}{vs:List Value}(h:oo7 TT TS w B v out vs) (hb:B'≤B):oo7 TT TS w B' v out vs :=
 ⟨oh7 h.own hb,h.len,fun i h1 h2=>oh7 (h.rows i h1 h2) hb,h.apart⟩
theorem vi7.mono {TT TS:Nat}{w:World}{B B':Nat}{v:Value}{out:List cb7}{vs:List Value}(h:vi7 TT TS w B v out vs) (hb:B'≤B):vi7 TT TS w B' v out vs :=
 ⟨oh7 h.own hb,h.len,fun i h1 h2=>oh7 (h.rows i h1 h2) hb,h.apart⟩
theorem pab7:(Tryz.prog.info? 70).map (fun i=>(i.zero,i.size,i.bytes))=some (some (.agg #[.int .i64 0,.slice none 0 0]),2,32):=by kernel_rfl
end Go.Proofs.YtabadfkikdefeaaGreat

namespace Go.Proofs.YtabadfkikdefeaaGreat
open Go.RowKit
def mp7 (l:List Int) (k:Nat) (bs:List cb7):List cb7 :=
 if 200<l.getD k 0 then bs++[⟨l.getD k 0 % 3,[]⟩] else bs.set (bs.length-1) ⟨(bs.getD (bs.length-1) ⟨0,[]⟩).sat,(bs.getD (bs.length-1) ⟨0,[]⟩).stops++[(k:Int)]⟩
def oc7 (l:List Int):Nat→List cb7
 | 0=>[⟨0,[]⟩]
 | k+1=>mp7 l k (oc7 l k)
theorem bh7 (l:List Int):∀k,1≤(oc7 l k).length∧(oc7 l k).length≤k+1
 | 0=>⟨Nat.le_refl _,Nat.le_refl _⟩
 | k+1=>by
  have h:=bh7 l k
  simp only[oc7,mp7]
  split
  ·rw[List.length_append,List.length_singleton];omega
  ·rw[List.length_set];omega
theorem ek7 (l:List Int):∀k,∀b∈oc7 l k,(0≤b.sat∧b.sat≤2)∧b.stops.length≤k∧∀s∈b.stops,0≤s∧s≤k
 | 0,b,hb=>by
  obtain rfl:b=⟨0,[]⟩:=by simpa[oc7]using hb
  exact⟨by simp,by simp,fun s hs=>by cases hs⟩
 | k+1,b,hb=>by
  have up:∀b∈oc7 l k,(0≤b.sat∧b.sat≤2)∧b.stops.length≤k+1∧∀s∈b.stops,0≤s∧s≤(k+1:Nat):=fun b hb=>by
   obtain⟨h1,h2,h3⟩:=ek7 l k b hb
   exact⟨h1,by omega,fun s hs=>by have:=h3 s hs;push_cast;omega⟩
  simp only[oc7,mp7]at hb
  split at hb
  ·rcases List.mem_append.1 hb with hb | hb
   ·exact up b hb
   ·obtain rfl:b=_:=by simpa using hb
    exact⟨by simp only;omega,by simp,fun s hs=>by cases hs⟩
  ·rcases List.mem_or_eq_of_mem_set hb with hb | rfl
   ·exact up b hb
   ·have hl:=bh7 l k
    have hm:(oc7 l k).getD ((oc7 l k).length-1) ⟨0,[]⟩∈oc7 l k:=by
     rw[List.getD_eq_getElem?_getD,List.getElem?_eq_getElem (by omega)];exact List.getElem_mem _
    obtain⟨h1,h2,h3⟩:=ek7 l k _ hm
    refine⟨h1,by simp only[List.length_append,List.length_singleton];omega,fun s hs=>?_⟩
    rcases List.mem_append.1 hs with hs | hs
    ·have:=h3 s hs;push_cast;omega
    ·obtain rfl:s=k:=by simpa using hs
     push_cast;omega
theorem dz7 {w:World}{F:Nat→Prop}{l:List Int}{v:Value}(h:wv7.rep w F l [v]) (hl:l.length≤40) :
  Calls Tryz.prog 49 #[v] w fun e w'=>∃v' vs,e = .returned v'∧vi7 70 3 w' w.heap.size v' (oc7 l l.length) vs∧Below w.heap.size w w':=by
 obtain⟨a,b,off,c,hs,hlc,hc,ha,-,hcell,hwf⟩:=rm7 h
 obtain rfl:=List.cons.inj hs |>.1
 clear hs h
 go_enter Tryz.func49,Tryz.ntmps49
 go_wp2
 go_loopw [3,11] (fun ov i wr=>∃(k:Nat) (ao:Option Addr) (cp:Nat) (vs:List Value),k≤l.length∧i = .int .i64 k∧ov = .slice ao (oc7 l k).length cp ∧
   vi7 70 3 wr w.heap.size (.slice ao (oc7 l k).length cp) (oc7 l k) vs∧Below w.heap.size w wr) (fun _ i _=>l.length-(intOf i).toNat)
 case atStart =>
  refine⟨0,_,_,[.slice none 0 0],Nat.zero_le _,rfl,rfl,⟨World.ownsRow_lit (base:=w.heap.size) (e:=70) (size:=2) w #[.int .i64 0,.slice none 0 0] 1 (Nat.le_refl _) (by unfold maxLen;omega) rfl,rfl,fun i h1 h2=>?_,fun i j hi hj hij=>?_⟩,(Below.refl _ _).alloc (Nat.le_refl _) _⟩
  ·obtain rfl:i=0:=by simp at h2;omega
   exact World.ownsRow_nil _ _ _ _
  ·simp at hi hj;omega
 case round =>
  obtain⟨k,ao,cp,vs,hk,rfl,rfl,hB,hb⟩:=hrel
  have hsz:=hb.size
  by_cases hkt:k<l.length
  ·have hx:=ut7 (c:=c) Tryz.underlying24 fsb7 (ha (by omega)) hkt
   have g0:=ai7 hb (hcell k hkt)
   have hr:=hwf _ (List.getElem_mem hkt)
   have hgd:l.getD k 0=l[k]:=by rw[List.getD_eq_getElem?_getD,List.getElem?_eq_getElem hkt];rfl
   obtain⟨n,hn⟩:∃n,n=l[k]:=⟨_,rfl⟩
   rw[← hn]at g0 hr hgd
   have HGD:=hid hgd
   clear hn hgd
   have HB:=hid hB
   have hbl:=bh7 l k
   by_cases h2:200<n
   ·have HST:=hid (show oc7 l (k+1)=oc7 l k++[⟨n % 3,[]⟩] from by simp only[oc7,mp7,HGD.out,if_pos h2])
    obtain⟨i1,hi,hi0,hi1,hi2⟩:=info_parts pab7
    have hown1:=hB.own.alloc (.cells #[.int .i64 (n % 3),.slice none 0 0] 70)
    clear hB
    go_wp2_with (at_builtin;refine wpList_append_own_at _ rfl _ _ 35 rfl w.heap.size 70 i1 (.agg #[.int .i64 0,.slice none 0 0]) 2 32 Tryz.underlying35 hi hi0 hi1 hi2 rfl (by decide) _ _ _ rfl hown1 ⟨wr.heap.size,0,none⟩ 1 1 [.int .i64 (n % 3),.slice none 0 0] rfl rfl ?c1 ?c2 ?c3 ?c4 ?c5 ?_)
    case c1=>exact bab7 (cs:=[.int .i64 (n % 3),.slice none 0 0]) (by simp) _
    case c2=>intro u hu;simp at hu;rcases hu with rfl | rfl <;> rfl
    case c3=>unfold maxLen;omega
    case c4=>omega
    case c5=>simp;omega
    intro v' w2 hown' hgrow _ hat
    obtain⟨ao',cp',hv',-,-⟩:=bi7 hown'
    subst hv'
    have hal:Below wr.heap.size wr (wr.alloc (.cells #[.int .i64 (n % 3),.slice none 0 0] 70)):=(Below.refl _ _).alloc (Nat.le_refl _) _
    have hBp:=(HB.out.below hal).push (b:=⟨n % 3,[]⟩) (u:=.slice none 0 0) (by decide) hgrow hown' (World.ownsRow_nil _ _ _ _) (fun i hi=>⟨by
     cases e:vs[i].ownBlock with
     | none=>exact .inl rfl
     | some b=>exact .inr (fun e'=>by cases e'),.inl rfl⟩)
    have HBL:=hid (show (oc7 l (k+1)).length=(oc7 l k).length+1 from by rw[HST.out];simp)
    have HB4:=hid (show vi7 70 3 w2 w.heap.size (.slice ao' (oc7 l (k+1)).length cp') (oc7 l (k+1)) (vs++[.slice none 0 0]) from by
     rw[HBL.out,HST.out];exact hBp)
    have hBb:=al7 (w:=wr.alloc (.cells #[.int .i64 (n % 3),.slice none 0 0] 70)) (hb.alloc hsz _) hown1 (by simp;omega) (Nat.le_refl _) hgrow
    clear hown' hgrow hown1 hi hi0 hi1 hi2 hat hal hBp
    go_wp2
    go_roundw
    case rel=>exact⟨k+1,ao',cp',vs++[.slice none 0 0],by omega,by go_num,by rw[HBL.out],HB4.out,hBb⟩
    case measure=>simp[intOf];omega
   ·have HST:=hid (show oc7 l (k+1)=(oc7 l k).set ((oc7 l k).length-1) ⟨((oc7 l k).getD ((oc7 l k).length-1) ⟨0,[]⟩).sat,((oc7 l k).getD ((oc7 l k).length-1) ⟨0,[]⟩).stops++[(k:Int)]⟩ from by simp only[oc7,mp7,HGD.out,if_neg h2])
    have hok:=ek7 l k
    obtain⟨bs,hbs⟩:∃bs,bs=oc7 l k:=⟨_,rfl⟩
    rw[← hbs]at hB hbl HST hok HB ⊢
    clear hbs
    obtain⟨L,hL⟩:∃L,bs.length=L+1:=⟨bs.length-1,by omega⟩
    have hLb:L<bs.length:=by omega
    have hgB:bs.getD L ⟨0,[]⟩=bs[L]:=by rw[List.getD_eq_getElem?_getD,List.getElem?_eq_getElem hLb];rfl
    obtain⟨g,cap,hv3,-,-,hgB',hRow⟩:=Row.of_owns hB.own (by omega)
    simp only[Value.slice.injEq]at hv3
    obtain⟨rfl,-,rfl⟩:=hv3
    have hjv:L<vs.length:=by rw[hB.len];exact hLb
    have hcl:=zf7 bs vs hB.len
    have hg:=hi7 bs vs L hLb hjv
    have c1':=hRow.cell (j:=2*L+1) (by omega)
    have cf:=hRow.frozen (2*L+1)
    rw[List.getElem?_eq_getElem (by omega),List.getElem?_eq_getElem (by omega)]at hg
    rw[Option.some.inj hg.2]at c1'
    have hro:=hB.rows L hLb hjv
    obtain⟨ua,uc,huv,hu1,hu2⟩:=bi7 hro
    rw[huv]at c1' hro
    have hxb:∀w,(Instr.indexAt 35 (.slice (some ⟨g,0,none⟩) (L+1) cp) (.int .i64 (L:Int))).run Tryz.prog w = .ok (.pointer (some ⟨g,2*L,none⟩)) w:=fun w=>by
     have:=hm7 (c:=cp) Tryz.underlying35 ngb7 (a:=some ⟨g,0,none⟩) rfl (show L<L+1 by omega) w
     rw[Nat.zero_add,Nat.mul_comm]at this
     exact this
    have hbk:=hok _ (List.getElem_mem hLb)
    obtain⟨sp,hsp⟩:∃sp,sp=(bs[L]).stops:=⟨_,rfl⟩
    rw[← hsp]at c1' hro hbk
    rw[hL]
    have e0:((L+1:Nat):Int)-1=(L:Int):=by omega
    have hown1:=hro.alloc (.cells #[.int .i64 k] 3)
    obtain⟨i1,hi,hi0,hi1,hi2⟩:=info_parts aeb7
    have hevs:vs.getD L undef = .slice ua sp.length uc:=by rw[List.getD_eq_getElem?_getD,List.getElem?_eq_getElem hjv,Option.getD_some,huv,hsp]
    have HROW:=hid hRow
    have HHL:=hid hL
    have HSP:=hid hsp
    have HGB:=hid hgB
    have HEV:=hid hevs
    clear hB hg hcl huv hsp hgB hevs
    go_wp2_with (at_builtin;refine wpList_append_own_at _ rfl _ _ 68 rfl w.heap.size 3 i1 (.int .i64 0) 1 8 Tryz.underlying68 hi hi0 hi1 hi2 rfl (by decide) _ _ _ rfl hown1 ⟨wr.heap.size,0,none⟩ 1 1 [.int .i64 k] rfl rfl (cell_one_new _ _ _) ?c2 ?c3 ?c4 ?c5 ?_)
    case c2=>rfl
    case c3=>unfold maxLen;omega
    case c4=>omega
    case c5=>first | omega | (simp;omega)
    intro v' w2 hown' hgrow _ hat
    obtain⟨ao',cp',hv',-,-⟩:=bi7 hown'
    subst hv'
    have hal:Below wr.heap.size wr (wr.alloc (.cells #[.int .i64 k] 3)):=(Below.refl _ _).alloc (Nat.le_refl _) _
    have hBs:=(HB.out.below hal).stops (k:=L) (u:=.slice ao' (sp.length+1) cp') (sp:=sp++[(k:Int)]) (by decide) hLb (by rw[HEV.out];exact hgrow) (by
     rw[List.length_append,List.map_append];exact hown') (by
     rw[HEV.out]
     rcases hat with h | h
     ·exact .inl h
     ·exact .inr (.inl ⟨_,h,by simp⟩))
    have HBS2:=hid (show vi7 70 3 (w2.setCell ⟨g,2*L+1,none⟩ (.slice ao' (sp.length+1) cp')) w.heap.size (.slice (some ⟨g,0,none⟩) (oc7 l (k+1)).length cp) (oc7 l (k+1)) (vs.set L (.slice ao' (sp.length+1) cp')) from by
     have e:oc7 l (k+1)=bs.set L ⟨(bs.getD L ⟨0,[]⟩).sat,sp++[(k:Int)]⟩:=by
      rw[HST.out,HHL.out,Nat.add_sub_cancel,HGB.out,HSP.out]
     rw[e,List.length_set];exact hBs)
    have hR4:=(hRow.alloc (.cells #[.int .i64 k] 3)).grown hown1 (by decide) hgrow
    have hf4:=hR4.frozen (2*L+1)
    have hc4:=hR4.cell (j:=2*L+1) (by rw[zf7 bs vs HB.out.len];omega)
    obtain⟨cv4,hcv4⟩:∃cv4,cv4=(tb7 bs vs)[2*L+1]'(by rw[zf7 bs vs HB.out.len];omega):=⟨_,rfl⟩
    rw[← hcv4]at hc4
    have hBb:=al7 (w:=wr.alloc (.cells #[.int .i64 k] 3)) (hb.alloc hsz _) hown1 (by simp;omega) (Nat.le_refl _) hgrow
    have HX4:=hid (hBb.setCell (p:=⟨g,2*L+1,none⟩) hgB' (.slice ao' (sp.length+1) cp'))
    have HBL:=hid (show (oc7 l (k+1)).length=L+1 from by rw[HST.out,List.length_set,HHL.out])
    clear hown' hgrow hown1 hi hi0 hi1 hi2 hat hal hBs hR4 hBb hcv4
    go_wp2
    go_roundw
    case rel=>exact⟨k+1,some ⟨g,0,none⟩,cp,vs.set L (.slice ao' (sp.length+1) cp'),by omega,by go_num,by rw[HBL.out],HBS2.out,HX4.out⟩
    case measure=>simp[intOf];omega
  ·have hkl:k=l.length:=by omega
   subst hkl
   go_wp2
   go_ret
   exact⟨_,vs,rfl,hB,hb⟩
def os7 {α:Type} (P:Program) (t:TypeId) (S:Shape α):Prop :=
 ∀(H:Type) (enc:TypeId×Value→H) (w:World) (base:Nat) (spare:Nat→Bool) (held:Bool) (fuel:Nat) (cs:List Value) (x:DataW H×List MemPlace),DataW.trod enc P w base spare held fuel t cs=some x→∃y,S.rep w (fun _=>True) y cs
theorem neb7 {P:Program}{t:TypeId}(ht:P.underlying t=some (.int .u8)):os7 P t u8S:=by
 intro H enc w base spare held fuel cs x h
 cases fuel with
 | zero=>simp[DataW.trod]at h
 | succ n =>
  unfold DataW.trod at h
  rw[ht]at h
  split at h <;> simp_all
  rename_i k2 m e
  obtain⟨⟨_,hw⟩,-⟩:=h
  subst e
  refine⟨m,rfl, ?_⟩
  simpa[Lit.wf,IntKind.min,IntKind.max,IntKind.signed,IntKind.bits,nb7]using hw
theorem lab7 {α:Type}{p:Nat→α→Prop}:∀(n:Nat),(∀i,i<n→∃x,p i x)→∃xs:List α,xs.length=n∧∀i (h:i<xs.length),p i xs[i]
 | 0,_=>⟨[],rfl,fun _ h=>absurd h (Nat.not_lt_zero _)⟩
 | n+1,h=>by
  obtain⟨xs,hl,hx⟩:=lab7 n fun i hi=>h i (by omega)
  obtain⟨x,hp⟩:=h n (by omega)
  refine⟨xs++[x],by simp[hl],fun i hi=>?_⟩
  by_cases hlt:i<xs.length
  ·rw[List.getElem_append_left hlt];exact hx i hlt
  ·have:i=n:=by simp at hi;omega
   subst this
   rw[List.getElem_append_right (by omega)]
   simpa[hl]using hp
theorem vbb7 {w:World}{a:Addr}{v:Value}(h:w.cell? a=some v):a.spot=none:=by
 unfold World.cell? at h
 split at h
 ·split at h
  ·cases h
  ·rename_i hs;simpa using hs
 ·cases h
theorem ak7 {α:Type}{P:Program}{t e:TypeId}{S:Shape α}{h0:0<S.sz}(ht:P.underlying t=some (.slice e)) (hc:P.cellsOf e=S.sz) (he:os7 P e S):os7 P t (ua7 S h0):=by
 intro H enc w base spare held fuel cs x h
 rcases Deep.open_slice ht h with ⟨rfl,-⟩ | ⟨a,len,cap,m,n,D,Pl,rfl,-,hl,hm,hmm,-,hx⟩
 ·exact⟨[],none,0,0,0,rfl,Nat.le_refl _,Nat.zero_le _,fun h=>absurd h (Nat.not_lt_zero _),fun i h=>absurd h (Nat.not_lt_zero _)⟩
 ·have hlm:len≤m:=by rw[hmm];split <;> omega
  obtain⟨xs,hxl,hxs⟩:=lab7 (p:=fun i y=>∃es,S.rep w (fun _=>True) y es∧∀j,j<S.sz→w.cell? ((a.add (i*S.sz)).add j)=es[j]?) len (fun i hi=>by
   obtain⟨cs',h1,h2⟩:=hx i (by omega)
   obtain⟨y,hy⟩:=he _ _ _ _ _ _ _ _ _ h2
   rw[hc]at h1
   obtain⟨_,_,h3⟩:=World.cells?_some h1
   exact⟨y,cs',hy,h3⟩)
  obtain⟨b,off,spot⟩:=a
  subst hxl
  have hsp:0<xs.length→spot=none:=fun hpos=>by
   obtain⟨es,hr,hce⟩:=hxs 0 hpos
   have hle:=S.len hr
   have:=hce 0 h0
   rw[List.getElem?_eq_getElem (by omega),Nat.zero_mul]at this
   simpa[Addr.add]using vbb7 this
  refine⟨xs,some ⟨b,off,spot⟩,b,off,cap,rfl,hl,hm,fun hpos=>⟨by rw[hsp hpos],trivial⟩,fun i hi=>?_⟩
  obtain rfl:=hsp (by omega)
  obtain⟨es,hr,hce⟩:=hxs i hi
  refine⟨es,hr,fun j hj=>?_⟩
  rw[← hce j hj]
  congr 1
  by_cases e1:i*S.sz=0 <;> by_cases e2:j=0 <;> simp[Addr.add,e1,e2]
theorem iqb7:Tryz.prog.cellsOf 5=1:=by kernel_rfl
theorem wlb7:os7 Tryz.prog 5 u8S:=neb7 Tryz.underlying5
theorem heb7:os7 Tryz.prog 24 wv7:=ak7 (S:=u8S) Tryz.underlying24 iqb7 wlb7
theorem xq7 {P:Program}{w:World}{r:Reach}{base:Nat}{t e:TypeId}{v:Value}(ht:P.underlying t=some (.slice e)) (h:Value.okWide P w r base t v):v.cells.toList=[v]:=by
 unfold Value.okWide at h
 rw[ht]at h
 simp only[Cell.okWide,ht]at h
 cases v <;> simp_all [Value.cells,Cell.ok]
open Go.RowKit Go.WideShapes Go.ChangeShapes
theorem Tryz.own:ownKnob Tryz.prog.godebug=none:=by kernel_rfl
theorem Tryz.laid:laidOutB Tryz.prog=true:=by kernel_rfl
section
variable {H:Type} {enc:TypeId×Value→H} {P:Program}
theorem jh7 (hl:laidOutB P=true) {W W':World}(hb:Below W.heap.size W W') {sp:Nat→Bool}:∀(ts:List TypeId) (vs:List Value) (ds:List (DataW H)) (ps:List MemPlace),DataW.TrodAll enc P W 0 (fun _=>true) true ts vs ds ps →
  (∀t∈ts,P.readableRec t=true∧t<P.types.size)→(∀x∈ps,x.block<W.heap.size)→(∀x∈ps,sp x.block=true)→DataW.TrodAll enc P W' 0 sp true ts vs ds ps
 | [],[],[],_,h,_,_,_=>h
 | t::ts,v::vs,d::ds,ps,h,ht,hlt,hsp=>by
  obtain⟨p,q,h1,h2,rfl⟩:=h
  exact⟨p,q,WideElems.Trod_stays hl (ht t (List.mem_cons_self ..)).1 (ht t (List.mem_cons_self ..)).2 h1 (fun x hx=>hb.same (hlt x (List.mem_append_left _ hx))) (fun x hx=>hsp x (List.mem_append_left _ hx)),
   jh7 hl hb ts vs ds q h2 (fun t h=>ht t (List.mem_cons_of_mem _ h)) (fun x hx=>hlt x (List.mem_append_right _ hx)) (fun x hx=>hsp x (List.mem_append_right _ hx)),rfl⟩
 | [],_::_,_,_,h,_,_,_=>h.elim
 | [],[],_::_,_,h,_,_,_=>h.elim
 | _::_,[],_,_,h,_,_,_=>h.elim
 | _::_,_::_,[],_,h,_,_,_=>h.elim
theorem eeb7 {f:Func}{s:ChangeSpec}{fresh handsOn again:Bool}{W W':World}{args:Array Value}{ds gs:List (DataW H)}{before:List MemPlace}{bt:TypeId}(hl:laidOutB P=true)
  (hW:DataW.Whole enc P f.params.toList s.vars false W args.toList ds gs before) (hv:s.vars=[]) (hs:s.fn H (ds++gs)={ results:=[.lit (.bool true)],args:=ds }) (hr:f.resultTypes = #[bt]) (hbt:P.underlying bt=some .bool)
  (ht:∀t∈f.params.toList,P.readableRec t=true∧t<P.types.size) (hb:Below W.heap.size W W'):s.post enc P f false fresh handsOn again W args (.bool true) W':=by
 have hlt:∀p∈before,p.block<W.heap.size:=fun p hp=>hW.lt p hp
 have hW2:=hW
 obtain⟨pa,pv,hA,hV,rfl,hz,-⟩:=hW2
 have hpv:pv=[]:=by
  rw[hv]at hV
  cases gs with
  | nil=>exact hV
  | cons g gs=>exact hV.elim
 have hgs:gs=[]:=by
  rw[hv]at hV
  cases gs with
  | nil=>rfl
  | cons g gs=>exact hV.elim
 subst hpv
 have hres:∀(b:Nat) (sp:Nat→Bool) (hd:Bool),DataW.TrodAll enc P W' b sp hd f.resultTypes.toList ((Value.bool true).resultList f.resultTypes.size) (s.fn H (ds++gs)).results []:=fun b sp hd=>by
  rw[hs,hr]
  exact trodAll_mk1 (shut_bool hbt _)
 have hargs:∀sp:Nat→Bool,(∀p∈pa++[],sp p.block=true)→DataW.TrodAll enc P W' 0 sp true f.params.toList args.toList (s.fn H (ds++gs)).args pa:=fun sp hsp=>by
  rw[hs]
  exact jh7 hl hb _ _ _ _ hA ht (fun x hx=>hlt x (List.mem_append_left _ hx)) (fun x hx=>hsp x (List.mem_append_left _ hx))
 have hvars:∀sp:Nat→Bool,DataW.TrodVars enc P W' sp s.vars (s.fn H (ds++gs)).vars []:=fun sp=>by
  rw[hs,hv];rfl
 refine⟨ds,gs,pa++[],[],pa,[],hW,hres _ _ _,hargs _ (fun p hp=>by simpa using hlt p hp),hvars _,World.keptBut_mono (fun p hp=>⟨hp, ?_⟩) (hb.frame (· ∈ pa++[])),fun _=>?_⟩
 ·rw[List.append_nil]at hp
  exact Or.inr (.inl hp)
 ·refine⟨ok_one hr rfl (okWide_bool_mk hbt _),_,_,([]++pa)++[],⟨[]++pa,[],trodAll_append (hargs _ (fun _ _=>rfl)) (hres _ _ _),hvars _,rfl, ?_, ?_⟩, ?_⟩
  ·intro b off hp
   have hin:MemPlace.cell b off∈pa++[]:=by simpa using hp
   rw[hb.frozen (hlt _ hin)]
   exact hz b off hin
  ·intro ha;cases ha
  ·intro p hp _
   simpa using hp
end
end Go.Proofs.YtabadfkikdefeaaGreat
