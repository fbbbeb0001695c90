/- Texts of the proof, joined: RideD, Float, Real, Own, Facts, OrdCmp, SortD, Shelf, Square, Small, InstOwn, Stable, InstA, InstB, InstC, Region, InstD, Eq, Loads, Same, Drops, Set. -/
import Derived.Test.YtabadfkikdefeaaGreatProg
import Derived.Laws.BitsAllLaws
import Derived.Lib.BitFns
import Derived.Sort.Defs
import Derived.Shelf.Strings.Builder1
import Derived.Shelf.Small.Wraps
import Derived.Shelf.Strings.BuilderF
import Derived.Shelf.Slices.Reverse
import Derived.Shelf.Slices.Equal
import Derived.Ground.Names2Prog
import Derived.Shelf.Slices.Clone
import Derived.Shelf.Slices.SearchI
import Derived.Shelf.Slices.Delete
import Derived.Shelf.Slices.Cells
import Derived.Shelf.Slices.Empties
import Derived.Shelf.Slices.Empties2
import Derived.Ground.SlgnProg
import Derived.Shelf.SlicesG.Equal
import Derived.Shelf.SlicesG.Clone
import Derived.Shelf.SlicesG.SearchI
import Derived.Shelf.SlicesE.Reverse
import Derived.Shelf.SlicesE.Delete
import Derived.Shelf.SlicesE.Clone
import Derived.Ground.SlsfProg
import Derived.Shelf.SlSortCmp.Insertion
import Derived.Deep.LoopGhost
import Derived.Deep.DeepCutAuto
import Derived.Laws.StructEq
import Derived.Laws.ShiftsVar
import Derived.Test.YtabadfkikdefeaaGreatO1
set_option linter.all false
set_option maxRecDepth 100000
set_option maxHeartbeats 6400000
namespace Go.Proofs.YtabadfkikdefeaaGreat
open Go.RowKit
structure qa7 where
 out:Int
 starts:List Int
 back:Int
 deriving DecidableEq
structure qb7 where
 trucks:List (List Int)
 bikes:List qa7
 deriving DecidableEq
def iy7:Shape qa7 where
 sz:=3
 rep:=fun w F x cs=>∃v,cs=[.int .i64 x.out,v,.int .i64 x.back]∧za7 x.out∧za7 x.back∧(ia7 hf7).rep w F x.starts [v]
 len:=by rintro w F x cs ⟨v,rfl,_⟩;rfl
 keep:=by rintro w w' F x cs ⟨v,rfl,h1,h1',h2⟩ ha;exact⟨v,rfl,h1,h1',(ia7 hf7).keep h2 ha⟩
 weak:=by rintro w F G x cs ⟨v,rfl,h1,h1',h2⟩ ha;exact⟨v,rfl,h1,h1',(ia7 hf7).weak h2 ha⟩
 lt:=by rintro w F x cs ⟨v,rfl,h1,h1',h2⟩;exact⟨v,rfl,h1,h1',(ia7 hf7).lt h2⟩
def iz7:Shape (List qa7):=ia7 iy7
def ng7:Shape qb7 where
 sz:=2
 rep:=fun w F x cs=>∃t b,cs=[t,b]∧sh7.rep w F x.trucks [t]∧iz7.rep w F x.bikes [b]
 len:=by rintro w F x cs ⟨t,b,rfl,_⟩;rfl
 keep:=by rintro w w' F x cs ⟨t,b,rfl,h1,h2⟩ ha;exact⟨t,b,rfl,sh7.keep h1 ha,iz7.keep h2 ha⟩
 weak:=by rintro w F G x cs ⟨t,b,rfl,h1,h2⟩ ha;exact⟨t,b,rfl,sh7.weak h1 ha,iz7.weak h2 ha⟩
 lt:=by rintro w F x cs ⟨t,b,rfl,h1,h2⟩;exact⟨t,b,rfl,sh7.lt h1,iz7.lt h2⟩
structure ld7 where
 plan:ab7
 times:qb7
 cost:Int
def an7:Shape ld7 where
 sz:=5
 rep:=fun w F x cs=>∃a b c d,cs=[a,b,c,d,.int .i64 x.cost]∧za7 x.cost∧wd7.rep w F x.plan [a,b]∧ng7.rep w F x.times [c,d]
 len:=by rintro w F x cs ⟨a,b,c,d,rfl,_⟩;rfl
 keep:=by rintro w w' F x cs ⟨a,b,c,d,rfl,h0,h1,h2⟩ ha;exact⟨a,b,c,d,rfl,h0,wd7.keep h1 ha,ng7.keep h2 ha⟩
 weak:=by rintro w F G x cs ⟨a,b,c,d,rfl,h0,h1,h2⟩ ha;exact⟨a,b,c,d,rfl,h0,wd7.weak h1 ha,ng7.weak h2 ha⟩
 lt:=by rintro w F x cs ⟨a,b,c,d,rfl,h0,h1,h2⟩;exact⟨a,b,c,d,rfl,h0,wd7.lt h1,ng7.lt h2⟩
end Go.Proofs.YtabadfkikdefeaaGreat


namespace Go.Proofs.YtabadfkikdefeaaGreat
open Go.RowKit
def Row (w:World) (g:Nat) (e:TypeId) (cs:List Value):Prop :=
 ∃(cur:Array Value) (rest:List Value),w.heap[g]? = some (.cells cur e (0,0))∧cur.toList=cs++rest
theorem Row.lt {w:World}{g:Nat}{e:TypeId}{cs:List Value}(h:Row w g e cs):g<w.heap.size:=by
 obtain⟨cur,rest,h1,_⟩:=h
 exact (Array.getElem?_eq_some_iff.1 h1).1
theorem Row.keep {w w':World}{g:Nat}{e:TypeId}{cs:List Value}(h:Row w g e cs) (hk:w'.heap[g]? = w.heap[g]?):Row w' g e cs:=by
 obtain⟨cur,rest,h1,h2⟩:=h
 exact⟨cur,rest,hk.trans h1,h2⟩
theorem Row.below {w w':World}{g:Nat}{e:TypeId}{cs:List Value}(h:Row w g e cs) (hb:Below w.heap.size w w'):Row w' g e cs:=h.keep (hb.block g h.lt)
theorem Row.belowB {B:Nat}{w w':World}{g:Nat}{e:TypeId}{cs:List Value}(h:Row w g e cs) (hb:Below B w w') (hg:g<B):Row w' g e cs:=h.keep (hb.block g hg)
theorem Row.alloc {w:World}{g:Nat}{e:TypeId}{cs:List Value}(h:Row w g e cs) (o:Obj):Row (w.alloc o) g e cs:=h.keep (Below.heap_alloc _ _ _ h.lt)
theorem Row.setOther {w:World}{g:Nat}{e:TypeId}{cs:List Value}(h:Row w g e cs) {a:Addr}(ha:g≠a.block) (u:Value):Row (w.setCell a u) g e cs:=h.keep (Below.heap_setCell _ _ _ _ ha)
theorem Row.drew {w:World}{g:Nat}{e:TypeId}{cs:List Value}(h:Row w g e cs):Row w.drew g e cs:=h
theorem Row.drewN {w:World}{g:Nat}{e:TypeId}{cs:List Value}(h:Row w g e cs) (n:Nat):Row (w.drewN n) g e cs:=h.keep rfl
theorem Row.ne {w:World}{g g':Nat}{e e':TypeId}{cs cs':List Value}(h:Row w g e cs) (h':Row w g' e' cs') (he:e≠e'):g≠g':=by
 rintro rfl
 obtain⟨_,_,h1,_⟩:=h
 obtain⟨_,_,h2,_⟩:=h'
 rw[h1]at h2
 simp only[Option.some.injEq,Obj.cells.injEq]at h2
 exact he h2.2.1
theorem Row.cell {w:World}{g:Nat}{e:TypeId}{cs:List Value}(h:Row w g e cs) {j:Nat}(hj:j<cs.length):w.cell? ⟨g,j,none⟩=some cs[j]:=by
 obtain⟨cur,rest,h1,h2⟩:=h
 have:cur[j]? = some cs[j]:=by
  rw[← Array.getElem?_toList,h2,List.getElem?_append_left hj,List.getElem?_eq_getElem hj]
 simp[World.cell?,h1,this]
theorem Row.frozen {w:World}{g:Nat}{e:TypeId}{cs:List Value}(h:Row w g e cs) (j:Nat):w.frozen? ⟨g,j,none⟩=false:=by
 obtain⟨cur,rest,h1,h2⟩:=h
 simp[World.frozen?,h1]
theorem Row.set {w:World}{g:Nat}{e:TypeId}{cs:List Value}(h:Row w g e cs) {j:Nat}(hj:j<cs.length) (u:Value):Row (w.setCell ⟨g,j,none⟩ u) g e (cs.set j u):=by
 obtain⟨cur,rest,h1,h2⟩:=h
 have hg:g<w.heap.size:=(Array.getElem?_eq_some_iff.1 h1).1
 refine⟨cur.setIfInBounds j u,rest, ?_, ?_⟩
 ·simp[World.setCell,Array.getElem?_modify,h1]
 ·rw[Array.toList_setIfInBounds,h2,List.set_append_left _ _ hj]
theorem Row.new {w:World}{g:Nat}{e:TypeId}{cs:List Value}(hg:g=w.heap.size):Row (w.alloc (.cells cs.toArray e)) g e cs:=by
 subst hg
 refine⟨cs.toArray,[], ?_,by simp⟩
 show (w.heap.push _)[w.heap.size]? = _
 simp
theorem Row.of_owns {w:World}{base:Nat}{e:TypeId}{size:Nat}{v:Value}{n:Nat}{xs:List Value}(h:w.ownsRow base e size v n xs) (hn:0<n) :
  ∃g c,v = .slice (some ⟨g,0,none⟩) n c∧n≤c∧c≤maxLen∧base≤g∧Row w g e xs:=by
 obtain⟨h1,h2⟩:=h
 rcases h2 with ⟨_,h2⟩ | h2
 ·omega
 ·obtain⟨g,cap,cur,rfl,hg,hh,hn1,hc,hs,ht⟩:=h2
  exact⟨g,cap,rfl,hn1,hc,hg,cur,cur.toList.drop (n*size),hh,by rw[← ht,List.take_append_drop]⟩
theorem ak7 {w:World}{g:Nat}(hg:g=w.heap.size) (cs:List Value) (e:TypeId):∀j u,cs[j]? = some u→(w.alloc (.cells cs.toArray e)).cell? ((⟨g,0,none⟩:Addr).add j)=some u:=by
 subst hg
 intro j u hj
 have:(⟨w.heap.size,0,none⟩:Addr).add j=⟨w.heap.size,j,none⟩:=by
  unfold Addr.add;split
  ·rename_i h;rw[h]
  ·simp
 rw[this]
 simpa using hj
theorem xa7 {w:World}{base:Nat}{e:TypeId}{size:Nat}{v:Value}{n:Nat}{xs:List Value}(h:w.ownsRow base e size v n xs):∃ao cap,v = .slice ao n cap∧n≤cap∧cap≤maxLen:=by
 obtain⟨h1,h2⟩:=h
 rcases h2 with ⟨rfl,rfl⟩ | ⟨g,cap,cur,rfl,hg,hh,h3,h4,_⟩
 ·exact⟨none,0,rfl,Nat.le_refl _,Nat.zero_le _⟩
 ·exact⟨_,cap,rfl,h3,h4⟩
theorem oa7 {w w':World}{base:Nat}{e:TypeId}{size:Nat}{v:Value}{n:Nat}{xs:List Value}(h:w.ownsRow base e size v n xs) (hb:Below w.heap.size w w'):w'.ownsRow base e size v n xs:=by
 obtain⟨h1,h2⟩:=h
 refine⟨h1, ?_⟩
 rcases h2 with h2 | ⟨g,cap,cur,hv,hg,hh,r⟩
 ·exact .inl h2
 ·exact .inr ⟨g,cap,cur,hv,hg,by rw[hb.block g (Array.getElem?_eq_some_iff.1 hh).1];exact hh,r⟩
theorem wh7 {w:World}{g:Nat}{e:TypeId}{v0 v1 v2 v3 v4 v5 v6 v7 v8:Value}(h:Row w g e [v0,v1,v2,v3,v4,v5,v6,v7,v8]) :
  w.cell? ⟨g,0,none⟩=some v0∧w.cell? ⟨g,1,none⟩=some v1∧w.cell? ⟨g,2,none⟩=some v2∧w.cell? ⟨g,3,none⟩=some v3∧w.cell? ⟨g,4,none⟩=some v4∧w.cell? ⟨g,5,none⟩=some v5 ∧
   w.cell? ⟨g,6,none⟩=some v6∧w.cell? ⟨g,7,none⟩=some v7∧w.cell? ⟨g,8,none⟩=some v8 :=
 ⟨h.cell (j:=0) (by simp),h.cell (j:=1) (by simp),h.cell (j:=2) (by simp),h.cell (j:=3) (by simp),h.cell (j:=4) (by simp),h.cell (j:=5) (by simp),h.cell (j:=6) (by simp),h.cell (j:=7) (by simp),h.cell (j:=8) (by simp)⟩
theorem ndc7 {w:World}{g:Nat}{e:TypeId}{cs:List Value}(h:Row w g e cs) :
  w.frozen? ⟨g,0,none⟩=false∧w.frozen? ⟨g,1,none⟩=false∧w.frozen? ⟨g,2,none⟩=false∧w.frozen? ⟨g,3,none⟩=false∧w.frozen? ⟨g,4,none⟩=false∧w.frozen? ⟨g,5,none⟩=false ∧
   w.frozen? ⟨g,6,none⟩=false∧w.frozen? ⟨g,7,none⟩=false∧w.frozen? ⟨g,8,none⟩=false :=
 ⟨h.frozen _,h.frozen _,h.frozen _,h.frozen _,h.frozen _,h.frozen _,h.frozen _,h.frozen _,h.frozen _⟩
theorem gf7 {w:World}{g:Nat}{e:TypeId}{v0 v1:Value}(h:Row w g e [v0,v1]):w.cell? ⟨g,0,none⟩=some v0∧w.cell? ⟨g,1,none⟩=some v1 :=
 ⟨h.cell (j:=0) (by simp),h.cell (j:=1) (by simp)⟩
def ib7 (x:Int):Value:=.int .i64 x
theorem Row.make {w:World}{n:Nat}{e:TypeId}:Row (w.alloc (.cells (Array.replicate n (ib7 0)) e)) w.heap.size e ((List.replicate n 0).map ib7):=by
 have:=Row.new (w:=w) (e:=e) (cs:=(List.replicate n 0).map ib7) rfl
 simpa using this
def xib7 (r:Nat) (row:List Int):Value:=.slice (some ⟨r,0,none⟩) row.length row.length
def uj7 (w:World) (B TR TI:Nat) (out:Value) (rows:List (List Int)) (rs:List Nat):Prop :=
 w.ownsRow B TR 1 out rows.length (List.zipWith xib7 rs rows)∧rs.length=rows.length∧(∀i (h:i<rs.length) (h':i<rows.length),Row w rs[i] TI (rows[i].map ib7))∧rs.Nodup∧∀b∈rs,B≤b∧b<w.heap.size
theorem uj7.nil (w:World) (B TR TI:Nat):uj7 w B TR TI (.slice none 0 0) [] [] :=
 ⟨World.ownsRow_nil _ _ _ _,rfl,fun _ h=>absurd h (Nat.not_lt_zero _),List.nodup_nil,fun _ h=>by cases h⟩
theorem eg7 {w:World}{B T n k:Nat}{v:Value}{xs:List Value}(h:w.ownsRow B T k v n xs) {g:Nat}(hg:v.ownBlock=some g):∃cs,Row w g T cs:=by
 obtain⟨h1,h2⟩:=h
 rcases h2 with ⟨rfl,_⟩ | ⟨g',cap,cur,rfl,hg',hh,_⟩
 ·cases hg
 ·simp only[Value.ownBlock,Option.some.injEq]at hg
  subst hg
  exact⟨cur.toList,cur,[],hh,by simp⟩
theorem uj7.push {w w1 w2:World}{B TR TI r:Nat}{out v':Value}{rows:List (List Int)}{rs:List Nat}{row:List Int}{o:Obj}(h:uj7 w B TR TI out rows rs) (hne:TR≠TI)
  (hb:Below w.heap.size w w1) (hr:Row w1 r TI (row.map ib7)) (hrw:w.heap.size≤r) (hB:B≤w.heap.size)
  (hown:w2.ownsRow B TR 1 v' (rows.length+1) (List.zipWith xib7 rs rows++[xib7 r row])) (hg:(w1.alloc o).grownBy w2 out.ownBlock):uj7 w2 B TR TI v' (rows++[row]) (rs++[r]):=by
 obtain⟨h1,h2,h3,h4,h5⟩:=h
 have hob:∀{b:Nat} {cs:List Value},Row w1 b TI cs→Row w2 b TI cs:=fun {b cs} hR=>by
  refine (hR.alloc o).keep (hg.block b (hR.alloc o).lt ?_)
  intro e
  obtain⟨cs',hc'⟩:=eg7 h1 e.symm
  exact (hc'.below hb).ne hR hne rfl
 refine⟨?_,by simp[h2], ?_, ?_, ?_⟩
 ·rw[List.length_append,List.length_singleton,List.zipWith_append h2]
  exact hown
 ·intro i hi hi'
  by_cases hl:i<rows.length
  ·rw[List.getElem_append_left (by omega),List.getElem_append_left hl]
   exact hob ((h3 i (by omega) hl).below hb)
  ·have:i=rows.length:=by simp at hi';omega
   subst this
   rw[List.getElem_append_right (by omega),List.getElem_append_right (Nat.le_refl _)]
   simp only[h2,Nat.sub_self,List.getElem_cons_zero]
   exact hob hr
 ·rw[List.nodup_append]
  refine⟨h4,by simp,fun a ha b hb'=>?_⟩
  simp only[List.mem_singleton]at hb'
  have:=(h5 a ha).2
  omega
 ·intro b hb'
  have hs:w.heap.size≤w2.heap.size:=Nat.le_trans hb.size (Nat.le_trans (by simp) hg.size)
  have hr2:r<w2.heap.size:=Nat.lt_of_lt_of_le hr.lt (Nat.le_trans (by simp) hg.size)
  rcases List.mem_append.1 hb' with hb' | hb'
  ·have:=h5 b hb';omega
  ·simp only[List.mem_singleton]at hb';omega
def ob7 (w:World) (B TR TI:Nat) (v:Value) (rows:List (List Int)) (g:Nat) (rs:List Nat):Prop :=
 ∃c,v = .slice (some ⟨g,0,none⟩) rows.length c∧rows.length≤c∧c≤maxLen∧B≤g∧Row w g TR (List.zipWith xib7 rs rows)∧rs.length=rows.length ∧
  (∀i (h:i<rs.length) (h':i<rows.length),Row w rs[i] TI (rows[i].map ib7))∧rs.Nodup∧∀b∈rs,B≤b
theorem uj7.own {w:World}{B TR TI:Nat}{out:Value}{rows:List (List Int)}{rs:List Nat}(h:uj7 w B TR TI out rows rs) (hn:0<rows.length):∃g,ob7 w B TR TI out rows g rs:=by
 obtain⟨h1,h2,h3,h4,h5⟩:=h
 obtain⟨g,c,hv,hc,hm,hg,hr⟩:=Row.of_owns h1 hn
 exact⟨g,c,hv,hc,hm,hg,hr,h2,h3,h4,fun b hb=>(h5 b hb).1⟩
theorem ob7.below {w w':World}{B TR TI:Nat}{v:Value}{rows:List (List Int)}{g:Nat}{rs:List Nat}(h:ob7 w B TR TI v rows g rs) (hb:Below w.heap.size w w'):ob7 w' B TR TI v rows g rs:=by
 obtain⟨c,h0,h1,h2,h3,h4,h5,h6,h7,h8⟩:=h
 exact⟨c,h0,h1,h2,h3,h4.below hb,h5,fun i h h'=>(h6 i h h').below hb,h7,h8⟩
theorem di7:∀w,(sizeOf 3).run Tryz.prog w = .ok 1 w:=fun w=>by kernel_rfl
theorem qc7:∀w,(sizeOf 2).run Tryz.prog w = .ok 1 w:=fun w=>by kernel_rfl
theorem rkc7:∀w,(sizeOf 5).run Tryz.prog w = .ok 1 w:=fun w=>by kernel_rfl
theorem ah7:∀w,(sizeOf 78).run Tryz.prog w = .ok 1 w:=fun w=>by kernel_rfl
theorem xdb7:∀w,(sizeOf 87).run Tryz.prog w = .ok 2 w:=fun w=>by kernel_rfl
theorem cs7:∀w,(sizeOf 167).run Tryz.prog w = .ok 4 w:=fun w=>by kernel_rfl
theorem vo7:∀w,(sizeOf 121).run Tryz.prog w = .ok 2 w:=fun w=>by kernel_rfl
theorem kh7:∀w,(sizeOf 124).run Tryz.prog w = .ok 1 w:=fun w=>by kernel_rfl
theorem vj7:∀w,(sizeOf 70).run Tryz.prog w = .ok 2 w:=fun w=>by kernel_rfl
theorem aac7:∀w,(sizeOf 163).run Tryz.prog w = .ok 2 w:=fun w=>by kernel_rfl
theorem fcc7:∀w,(sizeOf 165).run Tryz.prog w = .ok 4 w:=fun w=>by kernel_rfl
def qkc7 (k:Nat):Value:=.float .f64 k
end Go.Proofs.YtabadfkikdefeaaGreat


namespace Go.Proofs.YtabadfkikdefeaaGreat
open Go.RowKit
def xh7 (l:List Int) (n i:Nat) (k0:Nat):Nat→List Int×Nat
 | 0=>(List.replicate n 0,k0)
 | m+1=>let s:=xh7 l n i k0 m;if i≠m∧l≠[] then (s.1.set m (l.getD (s.2 % l.length) 0 % 30),s.2+1) else s
def zjb7 (l:List Int) (n:Nat):Nat→List (List Int)×Nat
 | 0=>([],0)
 | i+1=>let s:=zjb7 l n i;let r:=xh7 l n i s.2 n;(s.1++[r.1],r.2)
def hi7 (l:List Int) (n:Nat):List (List Int):=(zjb7 l n n).1
theorem zqb7 (l:List Int) (n i k0 m:Nat):(xh7 l n i k0 m).1.length=n:=by
 induction m with
 | zero=>simp[xh7]
 | succ m ih=>simp only[xh7];split <;> simp[ih]
theorem rrb7 (l:List Int) (n i k0 m:Nat):(xh7 l n i k0 m).2≤k0+m:=by
 induction m with
 | zero=>simp[xh7]
 | succ m ih =>
  simp only[xh7]
  split
  ·show (xh7 l n i k0 m).2+1≤_;omega
  ·omega
theorem wt7 (l:List Int) (n i:Nat):(zjb7 l n i).1.length=i:=by
 induction i with
 | zero=>simp[zjb7]
 | succ i ih=>simp[zjb7,ih]
theorem ghc7 (l:List Int) (n i:Nat):(zjb7 l n i).2≤i*n:=by
 induction i with
 | zero=>simp[zjb7]
 | succ i ih =>
  simp only[zjb7]
  have:=rrb7 l n i (zjb7 l n i).2 n
  rw[Nat.succ_mul];omega
theorem ipb7 {l:List Int}{n i k0 m:Nat}(h:i≠m) (hl:l≠[]):xh7 l n i k0 (m+1)=((xh7 l n i k0 m).1.set m (l.getD ((xh7 l n i k0 m).2 % l.length) 0 % 30),(xh7 l n i k0 m).2+1):=by
 simp only[xh7];rw[if_pos ⟨h,hl⟩]
theorem ty7 {l:List Int}{n i k0 m:Nat}(h:¬(i≠m∧l≠[])):xh7 l n i k0 (m+1)=xh7 l n i k0 m:=by
 simp only[xh7];rw[if_neg h]
theorem ck7 {P:Program}{t e:TypeId}{i:TypeInfo}(ht:P.underlying t=some (.slice e)) (hi:P.info? e=some i) (hz:i.zero=some (.int .i64 0)) (hs:i.size=1) (hb:i.bytes=8) {n:Nat}(hn:n≤1000000) :
  ∀w,(Instr.makeSlice t (.int .i64 (n:Int)) (.int .i64 (n:Int))).run P w = .ok (.slice (some ⟨w.heap.size,0,none⟩) n n) (w.alloc (.cells (Array.replicate n (ib7 0)) e)):=by
 intro w
 have h:=run_make (P:=P) w t e i (.int .i64 0) ht hi hz .i64 .i64 n n (by omega) (by omega) (by rw[hb];omega) (by omega)
 rw[h,hs]
 have hm:(madeCells (Value.int .i64 0).cells ((n:Int).toNat*1))=Array.replicate n (ib7 0):=by
  apply Array.ext'
  rw[Nat.mul_one,Int.toNat_natCast,show (Value.int .i64 0).cells = #[.int .i64 0] from rfl,toList_madeCells_one]
  simp[ib7]
 rw[hm,Int.toNat_natCast]
theorem gj7:(Tryz.prog.info? 2).map (fun i=>(i.zero,i.size,i.bytes))=some (some (.int .i64 0),1,8):=by kernel_rfl
theorem tjb7:(Tryz.prog.info? 78).map (fun i=>(i.zero,i.size,i.bytes))=some (some (.slice none 0 0),1,24):=by kernel_rfl
theorem ccc7 {P:Program}{t e:TypeId}(ht:P.underlying t=some (.slice e)) (hsz:∀w,(sizeOf e).run P w = .ok 1 w) {a:Option Addr}{b off n c k:Nat}(ha:a=some ⟨b,off,none⟩) (hn:0<n) :
  ∀w,(Instr.indexAt t (.slice a n c) (.int .i64 ((k:Int) % (n:Int)))).run P w = .ok (.pointer (some ⟨b,off+k % n,none⟩)) w:=by
 intro w
 have:=ka7 ht hsz (c:=c) ha (Nat.mod_lt k hn) w
 rwa [Int.natCast_emod]at this
theorem oy7 {w:World}{F:Nat→Prop}{l:List Int}{v:Value}(h:(ia7 u8S).rep w F l [v]) {n:Nat}(hn:n≤100) :
  Calls Tryz.prog 72 #[v,.int .i64 (n:Int)] w fun e w'=>∃ao cp rs,e = .returned (.slice ao n cp)∧uj7 w' w.heap.size 78 2 (.slice ao n cp) (hi7 l n) rs∧Below w.heap.size w w':=by
 obtain⟨a,b,off,c,hs,hlc,hc,ha,-,hcell,hwf⟩:=job7 h
 obtain rfl:=List.cons.inj hs |>.1
 clear hs h
 obtain⟨i0,hi,hz0,hz1,hz2⟩:=info_parts gj7
 have hmk:=ck7 Tryz.underlying78 hi hz0 hz1 hz2 (n:=n) (by omega)
 clear hi hz0 hz1 hz2 i0
 go_enter Tryz.func72,Tryz.ntmps72
 go_wp2
 go_loopw [5,6,11] (fun out kk ii wr=>∃(i:Nat) (rows:List (List Int)) (K:Nat) (rs:List Nat),i≤n∧zjb7 l n i=(rows,K)∧ii = .int .i64 i∧kk = .int .i64 K∧uj7 wr w.heap.size 78 2 out rows rs∧Below w.heap.size w wr)
  (fun _ _ ii _=>n-(intOf ii).toNat)
 case atStart=>exact⟨0,[],0,[],Nat.zero_le _,rfl,rfl,rfl,uj7.nil _ _ _ _,Below.refl _ _⟩
 case round =>
  obtain⟨i,rows,K,rs,hin,hst,rfl,rfl,hinv,hb⟩:=hrel
  have hK:K≤10000:=by
   have:=ghc7 l n i
   rw[hst]at this
   exact Nat.le_trans this (Nat.le_trans (Nat.mul_le_mul hin hn) (by omega))
  have HST:=hid hst
  have HINV:=hid hinv
  clear hst hinv
  obtain⟨wo,rfl⟩:∃wo:World,wo=wr:=⟨_,rfl⟩
  by_cases hlt:i<n
  ·go_wp2
   go_outline
   go_loopw [6,18] (fun kk jj wx=>∃(j:Nat) (r:List Int) (k:Nat),j≤n∧xh7 l n i K j=(r,k)∧jj = .int .i64 j∧kk = .int .i64 k∧Row wx wo.heap.size 2 (r.map ib7)∧Below wo.heap.size wo wx)
    (fun _ jj _=>n-(intOf jj).toNat)
   case atStart=>exact⟨0,_,_,Nat.zero_le _,rfl,rfl,rfl,Row.make,(Below.refl _ _).alloc (Nat.le_refl _) _⟩
   case round =>
    obtain⟨j,r,k,hj,hst,rfl,rfl,hrow,hbx⟩:=hrel
    have hk:k≤20000:=by
     have:=rrb7 l n i K j
     rw[hst]at this
     show k≤20000
     have h2:k≤K+j:=this
     omega
    have hrl:r.length=n:=by have:=zqb7 l n i K j;rw[hst]at this;exact this
    have HST2:=hid hst
    have HROW:=hid hrow
    have HRL:=hid hrl
    clear hst hrow hrl
    by_cases hlt2:j<n
    ·by_cases hij:i=j
     ·have hd:((i:Int) != (j:Int))=false:=by simp[hij]
      have HN:=hid (show xh7 l n i K (j+1)=(r,k) from by rw[ty7 (by simp[hij])];exact HST2.out)
      clear hij
      go_wp2
      go_roundw
      case rel=>exact⟨j+1,r,k,by omega,HN.out,by go_num,rfl,HROW.out,hbx⟩
      case measure=>simp[intOf];omega
     ·have hd:((i:Int) != (j:Int))=true:=by simp;omega
      by_cases hl0:0<l.length
      ·have hl0':(0:Int)<(l.length:Int):=by omega
       have HN:=hid (show xh7 l n i K (j+1)=(r.set j (l.getD (k % l.length) 0 % 30),k+1) from by
        rw[ipb7 hij (by intro e;simp[e]at hl0)]
        rw[HST2.out])
       clear hij
       have hkl:k % l.length<l.length:=Nat.mod_lt _ hl0
       have hx:=ccc7 (k:=k) (c:=c) Tryz.underlying24 rkc7 (ha hl0) hl0
       have hx2:=ka7 (c:=n) (a:=some ⟨wo.heap.size,0,none⟩) (off:=0) Tryz.underlying78 qc7 rfl hlt2
       have hval:l[k % l.length]=l.getD (k % l.length) 0:=by simp[List.getD,List.getElem?_eq_getElem hkl]
       have hr:=hwf _ (List.getElem_mem hkl)
       have g0:=hcell (k % l.length) hkl
       rw[hval]at g0 hr
       have g1:=aa7 (hb.trans (hbx.mono hb.size)) g0
       obtain⟨y,hy⟩:∃y,y=l.getD (k % l.length) 0:=⟨_,rfl⟩
       rw[← hy]at g1 hr HN
       have hw0:=HROW.out.cell (j:=j) (by simp;have:=HRL.out;omega)
       have hf0:=HROW.out.frozen j
       obtain⟨y0,hy0⟩:∃y0,y0=(r.map ib7)[j]'(by simp;have:=HRL.out;omega):=⟨_,rfl⟩
       rw[← hy0]at hw0
       clear hcell hwf ha hval g0 hy hy0
       go_wp2
       go_roundw
       case rel=>exact⟨j+1,_,k+1,by omega,HN.out,by go_num,by go_num,by
        rw[List.map_set]
        exact HROW.out.set (by simp;have:=HRL.out;omega) _,hbx.setCell (Nat.le_refl _) _⟩
       case measure=>simp[intOf];omega
      ·have hl0':¬(0:Int)<(l.length:Int):=by omega
       have HN:=hid (show xh7 l n i K (j+1)=(r,k) from by
        rw[ty7 (by rintro⟨_,h2⟩;exact h2 (List.eq_nil_of_length_eq_zero (by omega)))];exact HST2.out)
       clear hij
       go_wp2
       go_roundw
       case rel=>exact⟨j+1,r,k,by omega,HN.out,by go_num,rfl,HROW.out,hbx⟩
       case measure=>simp[intOf];omega
    ·have hjn:j=n:=by omega
     subst hjn
     have hown:=oa7 HINV.out.1 hbx
     have hz:=hbx.size
     have hin2:rows.length=i:=by have:=wt7 l j i;rw[HST.out]at this;exact this
     have HIN:=hid hin2
     rw[hin2]at hown
     obtain⟨i1,hi,hz0,hz1,hz2⟩:=info_parts tjb7
     clear hin2
     go_wp2_with (at_builtin;refine wpList_append_own _ rfl _ _ 38 rfl w.heap.size 78 i1 (.slice none 0 0) 1 24 Tryz.underlying38 hi hz0 hz1 hz2 rfl (by decide) _ _ _ rfl (hown.alloc _) ⟨wr.heap.size,0,none⟩ 1 1 [.slice (some ⟨wo.heap.size,0,none⟩) j j] rfl rfl ?c1 ?c2 ?c3 ?c4 ?c5 ?_)
     case c1=>exact cell_one_new _ _ _
     case c2=>intro u hu;simp at hu;subst hu;rfl
     case c3=>unfold maxLen;omega
     case c4=>omega
     case c5=>have h1:=hb.size;have h2:=hbx.size;simp;omega
     intro v' w1 hown' hgrow _
     have hR:xib7 wo.heap.size r = .slice (some ⟨wo.heap.size,0,none⟩) j j:=by unfold xib7;rw[HRL.out]
     rw[← hR]at hown'
     have HI:=hid (HINV.out.push (by decide) hbx HROW.out (Nat.le_refl _) hb.size (by rw[HIN.out];exact hown') hgrow)
     have HS:=hid (show zjb7 l j (i+1)=(rows++[r],k) from by
      show ((zjb7 l j i).1++[(xh7 l j i (zjb7 l j i).2 j).1],(xh7 l j i (zjb7 l j i).2 j).2)=_
      rw[HST.out]
      show (rows++[(xh7 l j i K j).1],(xh7 l j i K j).2)=_
      rw[HST2.out])
     have hb1:Below w.heap.size w w1:=((hb.trans (hbx.mono hb.size)).alloc (Nat.le_trans hb.size hbx.size) _).grown hgrow (Nat.le_trans hb.size (Nat.le_trans hbx.size (by simp))) (fun b hbk=>(HINV.out.1.lt b hbk).1)
     clear hown' hgrow hown hR hz hi hz0 hz1 hz2
     go_wp2
     go_roundw
     case rel=>exact⟨i+1,_,_,_,by omega,HS.out,by go_num,rfl,HI.out,hb1⟩
     case measure=>simp[intOf];omega
  ·have hin2:i=n:=by omega
   subst hin2
   have HF:=hid (show hi7 l i=rows from by unfold hi7;rw[HST.out])
   go_wp2
   go_ret
   have hl:=wt7 l i i
   rw[HST.out]at hl
   have hl:rows.length=i:=hl
   obtain⟨ao,cp,hv,-,-⟩:=xa7 HINV.out.1
   rw[hl]at hv
   subst hv
   exact⟨ao,cp,rs,rfl,by rw[HF.out];exact HINV.out,hb⟩
structure qec7 where
 room:Int
 hold:Int
structure dec7 where
 load:Int
 opn:Int
 wide:Int
 stay:Int
structure ze7 where
 fin:Int
 trucks:Int
 troom:Int
 bikes:Int
 broom:Int
 sats:List qec7
 custs:List dec7
 cost:List Int
 time:List Int
 tight:Bool
 loose:Bool
def wf8 (x:Int):Prop:=0≤x∧x≤255
def bdc7:Shape qec7:=xc7 2 (fun x cs=>cs=[.int .u8 x.room,.int .u8 x.hold]∧wf8 x.room∧wf8 x.hold) (by rintro x cs ⟨rfl,_⟩;rfl)
def gtb7:Shape dec7:=xc7 4 (fun x cs=>cs=[.int .u8 x.load,.int .u8 x.opn,.int .u8 x.wide,.int .u8 x.stay]∧wf8 x.load∧wf8 x.opn∧wf8 x.wide∧wf8 x.stay) (by rintro x cs ⟨rfl,_⟩;rfl)
def qo7:Shape (List Int):=ia7 u8S
def jfb7:Shape (List qec7):=ia7 bdc7
def ncb7:Shape (List dec7):=ia7 gtb7
def ezb7:Shape ze7 where
 sz:=11
 rep:=fun w F x cs=>∃s c co ti,cs=[.int .u8 x.fin,.int .u8 x.trucks,.int .u8 x.troom,.int .u8 x.bikes,.int .u8 x.broom,s,c,co,ti,.bool x.tight,.bool x.loose] ∧
  (wf8 x.fin∧wf8 x.trucks∧wf8 x.troom∧wf8 x.bikes∧wf8 x.broom)∧jfb7.rep w F x.sats [s]∧ncb7.rep w F x.custs [c]∧qo7.rep w F x.cost [co]∧qo7.rep w F x.time [ti]
 len:=by rintro w F x cs ⟨_,_,_,_,rfl,_⟩;rfl
 keep:=by rintro w w' F x cs ⟨_,_,_,_,rfl,h0,h1,h2,h3,h4⟩ ha;exact⟨_,_,_,_,rfl,h0,jfb7.keep h1 ha,ncb7.keep h2 ha,qo7.keep h3 ha,qo7.keep h4 ha⟩
 weak:=by rintro w F G x cs ⟨_,_,_,_,rfl,h0,h1,h2,h3,h4⟩ ha;exact⟨_,_,_,_,rfl,h0,jfb7.weak h1 ha,ncb7.weak h2 ha,qo7.weak h3 ha,qo7.weak h4 ha⟩
 lt:=by rintro w F x cs ⟨_,_,_,_,rfl,h0,h1,h2,h3,h4⟩;exact⟨_,_,_,_,rfl,h0,jfb7.lt h1,ncb7.lt h2,qo7.lt h3,qo7.lt h4⟩
theorem bnb7 {w:World}{F:Nat→Prop}{xs:List qec7}{cs:List Value}(h:jfb7.rep w F xs cs) :
  ∃(a:Option Addr) (b off c:Nat),cs=[.slice a xs.length c]∧xs.length≤c∧c≤9223372036854775807∧(0<xs.length→a=some ⟨b,off,none⟩)∧(0<xs.length→F b) ∧
   (∀k (h:k<xs.length),w.cell? ⟨b,off+k*2,none⟩=some (.int .u8 xs[k].room)∧w.cell? ⟨b,off+k*2+1,none⟩=some (.int .u8 xs[k].hold))∧∀x∈xs,wf8 x.room∧wf8 x.hold:=by
 obtain⟨a,b,off,c,rfl,h1,h2,h3,h4⟩:=h
 refine⟨a,b,off,c,rfl,h1,h2,fun h=>(h3 h).1,fun h=>(h3 h).2,fun k hk=>?_,fun x hx=>?_⟩
 ·obtain⟨es,⟨rfl,_⟩,hc⟩:=h4 k hk
  have e0:=hc 0 (by decide)
  have e1:=hc 1 (by decide)
  exact⟨by simpa[bdc7,xc7]using e0,by simpa[bdc7,xc7]using e1⟩
 ·obtain⟨k,hk,rfl⟩:=List.getElem_of_mem hx
  obtain⟨es,he,_⟩:=h4 k hk
  exact he.2
theorem imb7 {w:World}{F:Nat→Prop}{xs:List dec7}{cs:List Value}(h:ncb7.rep w F xs cs) :
  ∃(a:Option Addr) (b off c:Nat),cs=[.slice a xs.length c]∧xs.length≤c∧c≤9223372036854775807∧(0<xs.length→a=some ⟨b,off,none⟩)∧(0<xs.length→F b) ∧
   (∀k (h:k<xs.length),w.cell? ⟨b,off+k*4,none⟩=some (.int .u8 xs[k].load)∧w.cell? ⟨b,off+k*4+1,none⟩=some (.int .u8 xs[k].opn) ∧
    w.cell? ⟨b,off+k*4+2,none⟩=some (.int .u8 xs[k].wide)∧w.cell? ⟨b,off+k*4+3,none⟩=some (.int .u8 xs[k].stay)) ∧
   ∀x∈xs,wf8 x.load∧wf8 x.opn∧wf8 x.wide∧wf8 x.stay:=by
 obtain⟨a,b,off,c,rfl,h1,h2,h3,h4⟩:=h
 refine⟨a,b,off,c,rfl,h1,h2,fun h=>(h3 h).1,fun h=>(h3 h).2,fun k hk=>?_,fun x hx=>?_⟩
 ·obtain⟨es,⟨rfl,_⟩,hc⟩:=h4 k hk
  have e0:=hc 0 (by decide)
  have e1:=hc 1 (by decide)
  have e2:=hc 2 (by decide)
  have e3:=hc 3 (by decide)
  exact⟨by simpa[gtb7,xc7]using e0,by simpa[gtb7,xc7]using e1,by simpa[gtb7,xc7]using e2,by simpa[gtb7,xc7]using e3⟩
 ·obtain⟨k,hk,rfl⟩:=List.getElem_of_mem hx
  obtain⟨es,he,_⟩:=h4 k hk
  exact he.2
def pf7 (x:ze7):Int:=if x.loose then 9 else 1
def fyb7 (x:ze7) (s:qec7):uob7:=⟨4+pf7 x*(s.room % 40),s.hold % 12⟩
def skb7 (x:ze7) (c:dec7):Int:=if x.tight then 1+c.load % 6+c.load / 32 else 1+c.load % 6
def qkb7 (x:ze7) (c:dec7):ar7:=⟨skb7 x c,c.opn % 50,c.opn % 50+pf7 x*c.wide,c.stay % 8⟩
def xd7 (x:ze7) (k:Nat):List uob7:=((x.sats.take k).take 3).map (fyb7 x)
def kc7 (x:ze7) (k:Nat):List ar7:=((x.custs.take k).take 6).map (qkb7 x)
def af7 (x:ze7):List uob7:=if x.sats=[] then [⟨60,2⟩] else xd7 x x.sats.length
def qe7 (x:ze7):List ar7:=if x.custs=[] then [⟨2,5,90,1⟩] else kc7 x x.custs.length
def gh7 (x:ze7):Nat:=1+(af7 x).length+(qe7 x).length
def st7 (x:ze7):ba7 where
 fin:=40+x.fin*pf7 x
 tmany:=1+x.trucks % 4
 troom:=5+pf7 x*(x.troom % 40)
 bmany:=1+x.bikes % 6
 broom:=3+pf7 x*(x.broom % 20)
 sats:=af7 x
 custs:=qe7 x
 cost:=hi7 x.cost (gh7 x)
 time:=hi7 x.time (gh7 x)
def pab7 (s:uob7):List Value:=[ib7 s.room,ib7 s.hold]
def co7 (c:ar7):List Value:=[ib7 c.load,ib7 c.opn,ib7 c.cls,ib7 c.stay]
theorem zsb7 {x:ze7}{k:Nat}(h:k<x.sats.length) (h3:k<3):xd7 x (k+1)=xd7 x k++[fyb7 x x.sats[k]]:=by
 unfold xd7
 rw[List.take_take,List.take_take,show min 3 (k+1)=k+1 by omega,show min 3 k=k by omega,List.take_succ_eq_append_getElem h,List.map_append]
 rfl
theorem xtb7 {x:ze7}{k:Nat}(h3:3≤k):xd7 x (k+1)=xd7 x k:=by
 unfold xd7
 rw[List.take_take,List.take_take,show min 3 (k+1)=3 by omega,show min 3 k=3 by omega]
theorem jmb7 {x:ze7}{k:Nat}(h:k<x.custs.length) (h3:k<6):kc7 x (k+1)=kc7 x k++[qkb7 x x.custs[k]]:=by
 unfold kc7
 rw[List.take_take,List.take_take,show min 6 (k+1)=k+1 by omega,show min 6 k=k by omega,List.take_succ_eq_append_getElem h,List.map_append]
 rfl
theorem lob7 {x:ze7}{k:Nat}(h3:6≤k):kc7 x (k+1)=kc7 x k:=by
 unfold kc7
 rw[List.take_take,List.take_take,show min 6 (k+1)=6 by omega,show min 6 k=6 by omega]
theorem xr7 {x:ze7}{k:Nat}(h:k≤x.sats.length):(xd7 x k).length=min k 3:=by unfold xd7;simp;omega
theorem lp7 {x:ze7}{k:Nat}(h:k≤x.custs.length):(kc7 x k).length=min k 6:=by unfold kc7;simp;omega
theorem ly7 (x:ze7):1≤(af7 x).length∧(af7 x).length≤3:=by
 unfold af7;split
 ·simp
 ·rename_i h
  have:0<x.sats.length:=List.length_pos_iff.2 h
  rw[xr7 (Nat.le_refl _)];omega
theorem vw7 (x:ze7):1≤(qe7 x).length∧(qe7 x).length≤6:=by
 unfold qe7;split
 ·simp
 ·rename_i h
  have:0<x.custs.length:=List.length_pos_iff.2 h
  rw[lp7 (Nat.le_refl _)];omega
theorem cnb7 (x:ze7):3≤gh7 x∧gh7 x≤10:=by
 have:=ly7 x;have:=vw7 x;unfold gh7;omega
def nd7 (TS TC TR TI:Nat) (w:World) (B:Nat) (x:ba7) (cs:List Value):Prop :=
 ∃gs cs1 gc cc1 vco vti gco rco gti rti,cs=[ib7 x.fin,ib7 x.tmany,ib7 x.troom,ib7 x.bmany,ib7 x.broom,.slice (some ⟨gs,0,none⟩) x.sats.length cs1,.slice (some ⟨gc,0,none⟩) x.custs.length cc1,vco,vti] ∧
  (x.sats.length≤cs1∧cs1≤maxLen∧x.custs.length≤cc1∧cc1≤maxLen)∧B≤gs∧B≤gc∧Row w gs TS (x.sats.flatMap pab7)∧Row w gc TC (x.custs.flatMap co7) ∧
  ob7 w B TR TI vco x.cost gco rco∧ob7 w B TR TI vti x.time gti rti∧gco≠gti∧(∀a∈rco,∀b∈rti,a≠b)
theorem ob7.keepOn {w w':World}{B TR TI TX:Nat}{v:Value}{rows:List (List Int)}{g:Nat}{rs:List Nat}(h:ob7 w B TR TI v rows g rs) (hk:∀b e cs,Row w b e cs→e≠TX→w'.heap[b]? = w.heap[b]?) (h1:TR≠TX) (h2:TI≠TX) :
  ob7 w' B TR TI v rows g rs:=by
 obtain⟨c,k0,k1,k2,k3,k4,k5,k6,k7,k8⟩:=h
 exact⟨c,k0,k1,k2,k3,k4.keep (hk _ _ _ k4 h1),k5,fun i h h'=>(k6 i h h').keep (hk _ _ _ (k6 i h h') h2),k7,k8⟩
theorem ob7.mono {w:World}{B B' TR TI:Nat}{v:Value}{rows:List (List Int)}{g:Nat}{rs:List Nat}(h:ob7 w B TR TI v rows g rs) (hB:B'≤B):ob7 w B' TR TI v rows g rs:=by
 obtain⟨c,k0,k1,k2,k3,k4,k5,k6,k7,k8⟩:=h
 exact⟨c,k0,k1,k2,Nat.le_trans hB k3,k4,k5,k6,k7,fun b hb=>Nat.le_trans hB (k8 b hb)⟩
theorem nd7.keepOn {TS TC TR TI TX B:Nat}{w w':World}{x:ba7}{cs:List Value}(h:nd7 TS TC TR TI w B x cs) (hk:∀b e cs,Row w b e cs→e≠TX→w'.heap[b]? = w.heap[b]?)
  (h1:TS≠TX) (h2:TC≠TX) (h3:TR≠TX) (h4:TI≠TX):nd7 TS TC TR TI w' B x cs:=by
 obtain⟨gs,cs1,gc,cc1,vco,vti,gco,rco,gti,rti,k0,k1,k2,k3,k4,k5,k6,k7,k8,k9⟩:=h
 exact⟨gs,cs1,gc,cc1,vco,vti,gco,rco,gti,rti,k0,k1,k2,k3,k4.keep (hk _ _ _ k4 h1),k5.keep (hk _ _ _ k5 h2),k6.keepOn hk h3 h4,k7.keepOn hk h3 h4,k8,k9⟩
theorem nd7.mono {TS TC TR TI B B':Nat}{w:World}{x:ba7}{cs:List Value}(h:nd7 TS TC TR TI w B x cs) (hB:B'≤B):nd7 TS TC TR TI w B' x cs:=by
 obtain⟨gs,cs1,gc,cc1,vco,vti,gco,rco,gti,rti,k0,k1,k2,k3,k4,k5,k6,k7,k8,k9⟩:=h
 exact⟨gs,cs1,gc,cc1,vco,vti,gco,rco,gti,rti,k0,k1,Nat.le_trans hB k2,Nat.le_trans hB k3,k4,k5,k6.mono hB,k7.mono hB,k8,k9⟩
theorem nd7.below {TS TC TR TI B:Nat}{w w':World}{x:ba7}{cs:List Value}(h:nd7 TS TC TR TI w B x cs) (hb:Below w.heap.size w w'):nd7 TS TC TR TI w' B x cs:=by
 obtain⟨gs,cs1,gc,cc1,vco,vti,gco,rco,gti,rti,h0,h1,h2,h3,h4,h5,h6,h7,h8,h9⟩:=h
 exact⟨gs,cs1,gc,cc1,vco,vti,gco,rco,gti,rti,h0,h1,h2,h3,h4.below hb,h5.below hb,h6.below hb,h7.below hb,h8,h9⟩
def qu7 (x:ba7):Prop :=
 (za7 x.fin∧za7 x.tmany∧za7 x.troom∧za7 x.bmany∧za7 x.broom)∧(∀s∈x.sats,za7 s.room∧za7 s.hold)∧(∀c∈x.custs,za7 c.load∧za7 c.opn∧za7 c.cls∧za7 c.stay) ∧
  (∀r∈x.cost,r.length≤maxLen∧∀v∈r,za7 v)∧∀r∈x.time,r.length≤maxLen∧∀v∈r,za7 v
theorem dl7 {α β:Type}(f:α→List β) (k:Nat) (hf:∀x,(f x).length=k):∀(xs:List α) (i j:Nat) (hi:i<xs.length),j<k→(xs.flatMap f)[i*k+j]? = (f xs[i])[j]?
 | x::xs,0,j,_,hj=>by
  rw[List.flatMap_cons,Nat.zero_mul,Nat.zero_add,List.getElem?_append_left (by rw[hf];exact hj)];rfl
 | x::xs,i+1,j,hi,hj=>by
  rw[List.flatMap_cons,List.getElem?_append_right (by rw[hf,Nat.succ_mul];omega),hf,show (i+1)*k+j-k=i*k+j by rw[Nat.succ_mul];omega]
  exact dl7 f k hf xs i j (by simpa using hi) hj
theorem Row.get {w:World}{g:Nat}{e:TypeId}{cs:List Value}(h:Row w g e cs) {j:Nat}{v:Value}(hv:cs[j]? = some v):w.cell? ⟨g,j,none⟩=some v:=by
 obtain⟨hj,rfl⟩:=List.getElem?_eq_some_iff.1 hv
 exact h.cell hj
theorem vwb7 {TS:Nat}{w:World}{F:Nat→Prop}{xs:List uob7}{g c:Nat}(h:Row w g TS (xs.flatMap pab7)) (h1:xs.length≤c) (h2:c≤maxLen) (hF:F g) (hw:∀s∈xs,za7 s.room∧za7 s.hold) :
  smb7.rep w F xs [.slice (some ⟨g,0,none⟩) xs.length c]:=by
 refine⟨some ⟨g,0,none⟩,g,0,c,rfl,h1,h2,fun _=>⟨rfl,hF⟩,fun i hi=>⟨pab7 xs[i],⟨rfl,hw _ (List.getElem_mem hi)⟩,fun j hj=>?_⟩⟩
 have hj2:j<2:=hj
 have e:=dl7 pab7 2 (fun _=>rfl) xs i j hi hj2
 have e2:(pab7 xs[i])[j]? = some ((pab7 xs[i])[j]'hj2):=List.getElem?_eq_getElem hj2
 rw[e2]at e ⊢
 rw[Nat.zero_add]
 exact h.get e
theorem jub7 {TS:Nat}{w:World}{F:Nat→Prop}{xs:List ar7}{g c:Nat}(h:Row w g TS (xs.flatMap co7)) (h1:xs.length≤c) (h2:c≤maxLen) (hF:F g) (hw:∀c∈xs,za7 c.load∧za7 c.opn∧za7 c.cls∧za7 c.stay) :
  hz7.rep w F xs [.slice (some ⟨g,0,none⟩) xs.length c]:=by
 refine⟨some ⟨g,0,none⟩,g,0,c,rfl,h1,h2,fun _=>⟨rfl,hF⟩,fun i hi=>⟨co7 xs[i],⟨rfl,hw _ (List.getElem_mem hi)⟩,fun j hj=>?_⟩⟩
 have hj2:j<4:=hj
 have e:=dl7 co7 4 (fun _=>rfl) xs i j hi hj2
 have e2:(co7 xs[i])[j]? = some ((co7 xs[i])[j]'hj2):=List.getElem?_eq_getElem hj2
 rw[e2]at e ⊢
 rw[Nat.zero_add]
 exact h.get e
theorem cab7 {TI:Nat}{w:World}{F:Nat→Prop}{xs:List Int}{g c:Nat}(h:Row w g TI (xs.map ib7)) (h1:xs.length≤c) (h2:c≤maxLen) (hF:F g) (hw:∀v∈xs,za7 v) :
  (ia7 hf7).rep w F xs [.slice (some ⟨g,0,none⟩) xs.length c]:=by
 refine⟨some ⟨g,0,none⟩,g,0,c,rfl,h1,h2,fun _=>⟨rfl,hF⟩,fun i hi=>⟨[ib7 xs[i]],⟨rfl,hw _ (List.getElem_mem hi)⟩,fun j hj=>?_⟩⟩
 have hj1:j<1:=hj
 have hj0:j=0:=by omega
 subst hj0
 show w.cell? ⟨g,0+i*1+0,none⟩=some (ib7 xs[i])
 rw[show 0+i*1+0=i by omega]
 exact h.get (by simp[List.getElem?_eq_getElem hi])
theorem ob7.rep {TR TI B:Nat}{w:World}{v:Value}{rows:List (List Int)}{g:Nat}{rs:List Nat}(h:ob7 w B TR TI v rows g rs) (hw:∀r∈rows,r.length≤maxLen∧∀v∈r,za7 v) :
  sh7.rep w (fun b=>B≤b) rows [v]:=by
 obtain⟨c,rfl,h1,h2,h3,h4,h5,h6,h7,h8⟩:=h
 refine⟨some ⟨g,0,none⟩,g,0,c,rfl,h1,h2,fun _=>⟨rfl,h3⟩,fun i hi=>⟨[xib7 (rs[i]'(by omega)) rows[i]], ?_,fun j hj=>?_⟩⟩
 ·have hb:=h8 _ (List.getElem_mem (l:=rs) (n:=i) (by omega))
  exact cab7 (h6 i (by omega) hi) (Nat.le_refl _) (hw _ (List.getElem_mem hi)).1 hb (hw _ (List.getElem_mem hi)).2
 ·have hj1:j<1:=hj
  have hj0:j=0:=by omega
  subst hj0
  show w.cell? ⟨g,0+i*1+0,none⟩=some (xib7 (rs[i]'(by omega)) rows[i])
  rw[show 0+i*1+0=i by omega]
  exact h4.get (by rw[List.getElem?_zipWith,List.getElem?_eq_getElem (by omega:i<rs.length),List.getElem?_eq_getElem hi])
theorem nd7.rep {TS TC TR TI B:Nat}{w:World}{x:ba7}{cs:List Value}(h:nd7 TS TC TR TI w B x cs) (hw:qu7 x):kb7.rep w (fun b=>B≤b) x cs:=by
 obtain⟨gs,cs1,gc,cc1,vco,vti,gco,rco,gti,rti,rfl,⟨k1,k2,k3,k4⟩,h2,h3,h4,h5,h6,h7,-,-⟩:=h
 exact⟨_,_,_,_,rfl,hw.1,vwb7 h4 k1 k2 h2 hw.2.1,jub7 h5 k3 k4 h3 hw.2.2.1,h6.rep hw.2.2.2.1,h7.rep hw.2.2.2.2⟩
theorem nd7.lit {TS TC TR TI B:Nat}{w:World}{x:ba7}{cs:List Value}(h:nd7 TS TC TR TI w B x cs):∃gs cs1 gc cc1 gco cco gti cti,
  cs=[.int .i64 x.fin,.int .i64 x.tmany,.int .i64 x.troom,.int .i64 x.bmany,.int .i64 x.broom,.slice (some ⟨gs,0,none⟩) x.sats.length cs1,.slice (some ⟨gc,0,none⟩) x.custs.length cc1,.slice (some ⟨gco,0,none⟩) x.cost.length cco,.slice (some ⟨gti,0,none⟩) x.time.length cti]:=by
 obtain⟨gs,cs1,gc,cc1,vco,vti,gco,rco,gti,rti,rfl,-,-,-,-,-,⟨c,rfl,_⟩,⟨c',rfl,_⟩,-,-⟩:=h
 exact⟨_,_,_,_,_,_,_,_,rfl⟩
end Go.Proofs.YtabadfkikdefeaaGreat

namespace Go.Proofs.YtabadfkikdefeaaGreat
open Go.RowKit
def on7 (n l:Int):Bool:=decide (l≤n)&&decide (n≤1000000000)
theorem dyb7 (n l:Int) (w:World) :
  Calls Tryz.prog 171 #[.int .i64 n,.int .i64 l] w fun e w'=>e = .returned (.bool (on7 n l))∧w'=w:=by
 by_cases h1:l≤n <;> by_cases h2:n≤1000000000
 all_goals
  go_enter Tryz.func171,Tryz.ntmps171
  go_wp2
  go_ret
  exact⟨rb7 (by simp[on7];omega),rfl⟩
def manyB (n m:Int):Bool:=decide (1≤n)&&decide (n≤m)
theorem tec7 (n m:Int) (w:World) :
  Calls Tryz.prog 112 #[.int .i64 n,.int .i64 m] w fun e w'=>e = .returned (.bool (manyB n m))∧w'=w:=by
 by_cases h1:1≤n <;> by_cases h2:n≤m
 all_goals
  go_enter Tryz.func112,Tryz.ntmps112
  go_wp2
  go_ret
  exact⟨rb7 (by simp[manyB];omega),rfl⟩
def nodes (x:ba7):Nat:=1+x.sats.length+x.custs.length
theorem ejb7 {w:World}{F:Nat→Prop}{x:ba7}{cs:List Value}(h:kb7.rep w F x cs) (hl:x.sats.length≤1000000) (hl':x.custs.length≤1000000) :
  Calls Tryz.prog 114 #[.agg cs.toArray] w fun e w'=>e = .returned (.int .i64 (nodes x:Nat))∧Below w.heap.size w w':=by
 obtain⟨s,c,co,ti,rfl,-,h1,h2,-,-⟩:=h
 obtain⟨a,b,off,c1,hs,-,-,-,-,-,-⟩:=td7 h1
 obtain⟨a',b',off',c1',hs',-,-,-,-,-,-⟩:=dh7 h2
 obtain rfl:=List.cons.inj hs |>.1
 obtain rfl:=List.cons.inj hs' |>.1
 clear hs hs' h1 h2
 go_enter Tryz.func114,Tryz.ntmps114
 go_wp2
 go_ret
 exact⟨yb7 (by simp[nodes]),(Below.refl _ _).alloc (Nat.le_refl _) _⟩
theorem pfb7 {w:World}{F:Nat→Prop}{r:List Int}{v:Value}(h:(ia7 hf7).rep w F r [v]) (q:Nat) (n:Int) (hq:w.cell? ⟨q,0,none⟩=some (.int .i64 n)) :
  Calls Tryz.prog 170 #[v,.pointer (some ⟨q,0,none⟩)] w fun e w'=>e = .returned (.bool ((r.length:Int) != n))∧w'=w:=by
 obtain⟨a,b,off,c1,hs,-,-,-,-,-,-⟩:=bb7 h
 obtain rfl:=List.cons.inj hs |>.1
 clear hs h
 go_enter Tryz.func170,Tryz.ntmps170
 go_wp2
 go_ret
 exact⟨rfl,rfl⟩
def idxOf {α:Type} (p:α→Bool) (l:List α):Int:=match l.findIdx? p with | some i=>(i:Int) | none=>-1
theorem gcc7 {α:Type}{p:α→Bool}{l:List α}{k:Nat}(hk:k<l.length) (h0:∀j (h:j<k),p (l[j]'(Nat.lt_trans h hk))=false) (h:p l[k]=true):idxOf p l=k:=by
 unfold idxOf
 have:l.findIdx? p=some k:=List.findIdx?_eq_some_iff_getElem.2 ⟨hk,h,fun j hj=>by simpa using h0 j hj⟩
 rw[this]
theorem bxb7 {α:Type}{p:α→Bool}{l:List α}(h0:∀j (h:j<l.length),p l[j]=false):idxOf p l = -1:=by
 unfold idxOf
 have:l.findIdx? p=none:=List.findIdx?_eq_none_iff.2 fun x hx=>by
  obtain⟨j,hj,rfl⟩:=List.getElem_of_mem hx
  exact h0 j hj
 rw[this]
theorem wic7 {α:Type}(p:α→Bool) (l:List α):decide (0≤idxOf p l)=l.any p:=by
 unfold idxOf
 cases h:l.findIdx? p with
 | none =>
  rw[List.findIdx?_eq_none_iff]at h
  have:l.any p=false:=by
   rw[List.any_eq_false];intro x hx;simp[h x hx]
  rw[this];rfl
 | some i =>
  obtain⟨hi,hp,_⟩:=List.findIdx?_eq_some_iff_getElem.1 h
  have:l.any p=true:=List.any_eq_true.2 ⟨l[i],List.getElem_mem hi,hp⟩
  rw[this];simp
theorem rhb7 {w:World}{F:Nat→Prop}{l:List (List Int)}{v:Value}(h:sh7.rep w F l [v]) (q:Nat) (n:Int) (hq:w.cell? ⟨q,0,none⟩=some (.int .i64 n)) :
  Calls Tryz.prog 205 #[v,.func (.func 170) #[] #[.pointer (some ⟨q,0,none⟩)]] w fun e w'=>e = .returned (.int .i64 (idxOf (fun r:List Int=>(r.length:Int) != n) l))∧w'=w:=by
 obtain⟨a,b,off,c1,hs,hlc,hc,ha,hF,hcell⟩:=cd7 h
 obtain rfl:=List.cons.inj hs |>.1
 clear hs h
 go_enter Tryz.func205,Tryz.ntmps205
 go_wp2
 go_loop [5,8] (fun _ i=>∃k:Nat,k≤l.length∧i = .int .i64 k∧∀j (h:j<l.length),j<k→((l[j].length:Int) != n)=false) (fun _ i=>l.length-(intOf i).toNat)
 case atStart=>exact⟨0,Nat.zero_le _,rfl,fun _ _ h=>absurd h (Nat.not_lt_zero _)⟩
 case round =>
  obtain⟨k,hk,rfl,hp⟩:=hrel
  by_cases hlt:k<l.length
  ·have hx:=ka7 (c:=c1) Tryz.underlying38 ah7 (ha (by omega)) hlt
   obtain⟨v,hv,hr⟩:=hcell k hlt
   have HP:=hid hp
   clear hp hcell ha
   cases hpk:((l[k].length:Int) != n)
   ·go_wp2_with ((with_reducible refine (pfb7 hr q n hq).mono ?_);rintro e w' ⟨rfl,rfl⟩)
    go_round
    case rel=>exact⟨k+1,by omega,by go_num,fun j hj hjk=>by
     by_cases hjk':j=k
     ·subst hjk';exact hpk
     ·exact HP.out j hj (by omega)⟩
    case measure=>simp[intOf];omega
   ·go_wp2_with ((with_reducible refine (pfb7 hr q n hq).mono ?_);rintro e w' ⟨rfl,rfl⟩)
    go_ret
    exact⟨yb7 (gcc7 (p:=fun r:List Int=>(r.length:Int) != n) hlt (fun j hj=>HP.out j (by omega) hj) hpk).symm,rfl⟩
  ·have HP:=hid hp
   clear hp hcell ha
   go_wp2
   go_ret
   exact⟨yb7 (bxb7 (p:=fun r:List Int=>(r.length:Int) != n) (fun j hj=>HP.out j hj (by omega))).symm,rfl⟩
theorem hy7 {w:World}{F:Nat→Prop}{l:List (List Int)}{v:Value}(h:sh7.rep w F l [v]) (q:Nat) (n:Int) (hq:w.cell? ⟨q,0,none⟩=some (.int .i64 n)) :
  Calls Tryz.prog 169 #[v,.func (.func 170) #[] #[.pointer (some ⟨q,0,none⟩)]] w fun e w'=>e = .returned (.bool (l.any (fun r:List Int=>(r.length:Int) != n)))∧w'=w:=by
 go_enter Tryz.func169,Tryz.ntmps169
 go_wp2_with ((with_reducible refine (rhb7 h q n hq).mono ?_);rintro e w' ⟨rfl,rfl⟩)
 go_ret
 exact⟨rb7 (wic7 _ _),rfl⟩
def yh7 (l:List (List Int)) (n:Int):Bool:=((l.length:Int)==n) && !(l.any (fun r:List Int=>(r.length:Int) != n))
theorem jwb7 {w:World}{F:Nat→Prop}{l:List (List Int)}{v:Value}(h:sh7.rep w F l [v]) (n:Int) :
  Calls Tryz.prog 113 #[v,.int .i64 n] w fun e w'=>e = .returned (.bool (yh7 l n))∧Below w.heap.size w w':=by
 obtain⟨a,b,off,c1,hs,-,-,-,-,-⟩:=cd7 h
 obtain rfl:=List.cons.inj hs |>.1
 clear hs
 have hb:Below w.heap.size w (w.alloc (.cells #[.int .i64 n] 3)):=(Below.refl _ _).alloc (Nat.le_refl _) _
 have h':=sh7.below h hb
 have hq:(w.alloc (.cells #[.int .i64 n] 3)).cell? ⟨w.heap.size,0,none⟩=some (.int .i64 n):=by simp
 cases hn:((l.length:Int)==n)
 ·go_enter Tryz.func113,Tryz.ntmps113
  go_wp2
  go_ret
  exact⟨rb7 (by simp[yh7,hn]),hb⟩
 ·go_enter Tryz.func113,Tryz.ntmps113
  go_wp2_with ((with_reducible refine (hy7 h' w.heap.size n hq).mono ?_);rintro e w' ⟨rfl,rfl⟩)
  go_ret
  exact⟨rb7 (by simp[yh7,hn]),hb⟩
theorem ujb7 {w:World}{F:Nat→Prop}{l:List (List Int)}{v:Value}(h:sh7.rep w F l [v]) {n:Int}{b:Bool}(hb:yh7 l n=b) :
  Calls Tryz.prog 113 #[v,.int .i64 n] w fun e w'=>e = .returned (.bool b)∧Below w.heap.size w w':=by
 subst hb;exact jwb7 h n
def wgc7 (s:uob7):Bool:=on7 s.room 0&&on7 s.hold 0
def arb7 (c:ar7):Bool:=on7 c.load 1&&on7 c.opn 0&&on7 c.cls c.opn&&on7 c.stay 0
def csb7 (i k:Nat) (n:Int):Bool:=on7 n 0&&(((i:Int) != (k:Int)) || n==0)
def wub7 (i:Nat) (r:List Int) (m:Nat):Bool:=(List.range m).all fun k=>csb7 i k (r.getD k 0)
def qrb7 (l:List (List Int)) (m:Nat):Bool:=(List.range m).all fun i=>wub7 i (l.getD i []) (l.getD i []).length
def ggb7 (x:ba7):Bool:=on7 x.fin 0&&on7 x.troom 0&&on7 x.broom 0
def xn7 (x:ba7):Bool:=ggb7 x&&x.sats.all wgc7&&x.custs.all arb7&&qrb7 x.cost x.cost.length&&qrb7 x.time x.time.length
theorem yqb7 (i:Nat) (r:List Int) (k:Nat) (h:k<r.length):wub7 i r (k+1)=(wub7 i r k&&csb7 i k r[k]):=by
 unfold wub7;rw[List.range_succ,List.all_append];simp[List.getD,List.getElem?_eq_getElem h]
theorem fsb7 (l:List (List Int)) (k:Nat) (h:k<l.length):qrb7 l (k+1)=(qrb7 l k&&wub7 k l[k] l[k].length):=by
 unfold qrb7;rw[List.range_succ,List.all_append];simp[List.getD,List.getElem?_eq_getElem h]
def pm7 (x:ba7) (k:Nat):Bool:=ggb7 x&&(x.sats.take k).all wgc7
def xj7 (x:ba7) (k:Nat):Bool:=pm7 x x.sats.length&&(x.custs.take k).all arb7
theorem khb7 (x:ba7) (k:Nat) (h:k<x.sats.length):pm7 x (k+1)=(pm7 x k&&wgc7 x.sats[k]):=by
 unfold pm7;rw[vq7 _ _ _ h,Bool.and_assoc]
theorem lcb7 (x:ba7) (k:Nat) (h:k<x.custs.length):xj7 x (k+1)=(xj7 x k&&arb7 x.custs[k]):=by
 unfold xj7;rw[vq7 _ _ _ h,Bool.and_assoc]
def qmb7 (x:ba7) (k:Nat):List (List Int):=if k=0 then x.cost else x.time
def lm7 (x:ba7) (k:Nat):Bool:=xj7 x x.custs.length&&(List.range k).all fun j=>qrb7 (qmb7 x j) (qmb7 x j).length
theorem phb7 (x:ba7) (k:Nat):lm7 x (k+1)=(lm7 x k&&qrb7 (qmb7 x k) (qmb7 x k).length):=by
 unfold lm7;rw[List.range_succ,List.all_append,← Bool.and_assoc];simp
theorem ymb7 (x:ba7):lm7 x 2=xn7 x:=by
 simp[lm7,xj7,pm7,xn7,qmb7,List.range_succ,Bool.and_assoc]
theorem isb7 (p q r s:Bool):p=false∨(p=true∧q=false)∨(p=true∧q=true∧r=true)∨(p=true∧q=true∧r=false∧s=false)∨(p=true∧q=true∧r=false∧s=true):=by
 cases p <;> cases q <;> cases r <;> cases s <;> simp
def yab7 (x:ba7) (j i:Nat) (l:List (List Int)):Bool:=lm7 x j&&qrb7 l i
def aq7 (x:ba7) (j i k:Nat) (l:List (List Int)) (r:List Int):Bool:=yab7 x j i l&&wub7 i r k
theorem nnb7 (x:ba7) (j i:Nat) (l:List (List Int)) (h:i<l.length):yab7 x j (i+1) l=aq7 x j i l[i].length l l[i]:=by
 unfold aq7 yab7;rw[fsb7 _ _ h,Bool.and_assoc]
theorem dhb7 (x:ba7) (j i k:Nat) (l:List (List Int)) (r:List Int) (h:k<r.length):aq7 x j i (k+1) l r=(aq7 x j i k l r&&csb7 i k r[k]):=by
 unfold aq7;rw[yqb7 _ _ _ h,Bool.and_assoc]
theorem xeb7 {w:World}{F:Nat→Prop}{x:ba7}{cs:List Value}(h:kb7.rep w F x cs) :
  Calls Tryz.prog 115 #[.agg cs.toArray] w fun e w'=>e = .returned (.bool (xn7 x))∧Below w.heap.size w w':=by
 obtain⟨s,c,co,ti,rfl,-,h1,h2,h3,h4⟩:=h
 obtain⟨a,b,off,c1,hs,hlc,hc,ha,-,hcell,-⟩:=td7 h1
 obtain⟨a',b',off',c1',hs',hlc',hc',ha',-,hcell',-⟩:=dh7 h2
 obtain rfl:=List.cons.inj hs |>.1
 obtain rfl:=List.cons.inj hs' |>.1
 obtain⟨a3,b3,off3,c3,hs3,hlc3,hc3,ha3,-,hcell3⟩:=cd7 h3
 obtain⟨a4,b4,off4,c4,hs4,hlc4,hc4,ha4,-,hcell4⟩:=cd7 h4
 obtain rfl:=List.cons.inj hs3 |>.1
 obtain rfl:=List.cons.inj hs4 |>.1
 clear hs hs' h1 h2 hs3 hs4 h3 h4
 have hst:pm7 x 0=ggb7 x:=by simp[pm7]
 have HST:=hid hst
 clear hst
 go_enter Tryz.func115,Tryz.ntmps115
 go_upto_region 1 with fail
 go_cut [3] (fun s3 wx=>s3 = .bool (pm7 x 0)∧Below w.heap.size w wx∧w.heap.size<wx.heap.size∧wx.cell? ⟨w.heap.size,5,none⟩=some (.slice a x.sats.length c1) ∧
  wx.cell? ⟨w.heap.size,6,none⟩=some (.slice a' x.custs.length c1')∧wx.cell? ⟨w.heap.size,7,none⟩=some (.slice a3 x.cost.length c3)∧wx.cell? ⟨w.heap.size,8,none⟩=some (.slice a4 x.time.length c4))
 case first =>
  cases e1:on7 x.fin 0 <;> cases e2:on7 x.troom 0 <;> cases e3:on7 x.broom 0
  all_goals
   have HH:Hid (ggb7 x=(on7 x.fin 0&&on7 x.troom 0&&on7 x.broom 0)):=rfl
   go_wp2_with ((with_reducible refine (dyb7 _ _ _).mono ?_);rintro e w' ⟨rfl,rfl⟩)
   go_meet
   exact⟨by rw[HST.out,HH.out,e1,e2,e3];rfl,(Below.refl _ _).alloc (Nat.le_refl _) _,by simp,by simp,by simp,by simp,by simp⟩
 case rest =>
  obtain⟨rfl,hb0,hz,q3,q4,q5,q6⟩:=hcut
  clear HST
  obtain⟨w0,rfl⟩:∃w0:World,w0=wc:=⟨_,rfl⟩
  go_wp2
  go_loopw [3,32] (fun ok i wr=>∃k:Nat,k≤x.sats.length∧i = .int .i64 k∧ok = .bool (pm7 x k)∧Below w0.heap.size w0 wr) (fun _ i _=>x.sats.length-(intOf i).toNat)
  case atStart=>exact⟨0,Nat.zero_le _,rfl,rfl,Below.refl _ _⟩
  case round =>
   obtain⟨k,hk,rfl,rfl,hb⟩:=hrel
   by_cases hlt:k<x.sats.length
   ·have hx:=vb7 (c:=c1) Tryz.underlying54 xdb7 (ha (by omega)) hlt
    have g0:=aa7 (hb0.trans (hb.mono (by omega))) (hcell k hlt).1
    have g1:=aa7 (hb0.trans (hb.mono (by omega))) (hcell k hlt).2
    have HS:=hid (khb7 x k hlt)
    have HB:Hid (wgc7 x.sats[k]=(on7 x.sats[k].room 0&&on7 x.sats[k].hold 0)):=rfl
    clear hcell hcell' ha ha'
    cases e0:pm7 x k <;> cases e1:on7 x.sats[k].room 0 <;> cases e2:on7 x.sats[k].hold 0
    all_goals
     go_wp2_with ((with_reducible refine (dyb7 _ _ _).mono ?_);rintro e w' ⟨rfl,rfl⟩)
     go_roundw
     case rel=>exact⟨k+1,by omega,by go_num,by rw[HS.out,HB.out,e0,e1,e2];rfl,(hb.alloc hb.size _)⟩
     case measure=>simp[intOf];omega
   ·have hks:k=x.sats.length:=by omega
    subst hks
    clear hcell ha
    have hb1:=hb0.trans (hb.mono (by omega))
    have r4:=aa7 hb q4
    have r5:=aa7 hb q5
    have r6:=aa7 hb q6
    have hz1:w.heap.size<wr.heap.size:=Nat.lt_of_lt_of_le hz hb.size
    clear q3 q4 q5 q6 hz hb0 hb
    go_wp2
    obtain⟨w1,rfl⟩:∃w1:World,w1=wr:=⟨_,rfl⟩
    have HC0:pm7 x x.sats.length=xj7 x 0:=by simp[xj7]
    rw[HC0]
    clear HC0
    go_loopw [3,51] (fun ok i wr=>∃k:Nat,k≤x.custs.length∧i = .int .i64 k∧ok = .bool (xj7 x k)∧Below w1.heap.size w1 wr) (fun _ i _=>x.custs.length-(intOf i).toNat)
    case atStart=>exact⟨0,Nat.zero_le _,rfl,rfl,Below.refl _ _⟩
    case round =>
     obtain⟨k,hk,rfl,rfl,hb⟩:=hrel
     by_cases hlt:k<x.custs.length
     ·have hx:=vb7 (c:=c1') Tryz.underlying55 cs7 (ha' (by omega)) hlt
      have g0:=aa7 (hb1.trans (hb.mono (by omega))) (hcell' k hlt).1
      have g1:=aa7 (hb1.trans (hb.mono (by omega))) (hcell' k hlt).2.1
      have g2:=aa7 (hb1.trans (hb.mono (by omega))) (hcell' k hlt).2.2.1
      have g3:=aa7 (hb1.trans (hb.mono (by omega))) (hcell' k hlt).2.2.2
      have HS:=hid (lcb7 x k hlt)
      have HB:Hid (arb7 x.custs[k]=(on7 x.custs[k].load 1&&on7 x.custs[k].opn 0&&on7 x.custs[k].cls x.custs[k].opn&&on7 x.custs[k].stay 0)):=rfl
      clear hcell' ha' r4 r5 r6
      rcases qgc7 (xj7 x k) (on7 x.custs[k].load 1) (on7 x.custs[k].opn 0) (on7 x.custs[k].cls x.custs[k].opn) (on7 x.custs[k].stay 0) with e0 | ⟨e0,e1⟩ | ⟨e0,e1,e2⟩ | ⟨e0,e1,e2,e3⟩ | ⟨e0,e1,e2,e3,e4⟩ | ⟨e0,e1,e2,e3,e4⟩
      all_goals
       go_wp2_with ((with_reducible refine (dyb7 _ _ _).mono ?_);rintro e w' ⟨rfl,rfl⟩)
       go_roundw
       case rel=>exact⟨k+1,by omega,by go_num,by rw[HS.out,HB.out];first | (rw[e0];rfl) | (rw[e0,e1];rfl) | (rw[e0,e1,e2];rfl) | (rw[e0,e1,e2,e3];rfl) | (rw[e0,e1,e2,e3,e4];rfl),(hb.alloc hb.size _)⟩
       case measure=>simp[intOf];omega
     ·have hks:k=x.custs.length:=by omega
      subst hks
      clear hcell' ha' r4
      have hb2:=hb1.trans (hb.mono (by omega))
      have q5:=aa7 hb r5
      have q6:=aa7 hb r6
      have hz2:w.heap.size<wr.heap.size:=Nat.lt_of_lt_of_le hz1 hb.size
      clear r5 r6 hz1 hb1 hb
      go_wp2
      obtain⟨w2,rfl⟩:∃w2:World,w2=wr:=⟨_,rfl⟩
      have HM0:xj7 x x.custs.length=lm7 x 0:=by simp[lm7]
      rw[HM0]
      clear HM0
      go_loop [3,84] (fun ok i=>∃j:Nat,j≤2∧i = .int .i64 j∧ok = .bool (lm7 x j)) (fun _ i=>2-(intOf i).toNat)
      case atStart=>exact⟨0,by omega,rfl,rfl⟩
      case round =>
       obtain⟨j,hj,rfl,rfl⟩:=hrel
       by_cases hlt:j<2
       ·have hm:∃(l:List (List Int)) (am:Option Addr) (bm offm cm:Nat),l=qmb7 x j∧(∀w',(Instr.index 273 (.agg #[.slice a3 x.cost.length c3,.slice a4 x.time.length c4]) (.int .i64 (j:Int))).run Tryz.prog w' = .ok (.slice am l.length cm) w') ∧
          l.length≤cm∧cm≤9223372036854775807∧(0<l.length→am=some ⟨bm,offm,none⟩)∧∀k (h:k<l.length),∃v,w2.cell? ⟨bm,offm+k,none⟩=some v∧(ia7 hf7).rep w2 F l[k] [v]:=by
         have hj2:j=0∨j=1:=by omega
         rcases hj2 with rfl | rfl
         ·exact⟨x.cost,a3,b3,off3,c3,rfl,fun _=>by kernel_rfl,hlc3,hc3,ha3,fun k h=>let ⟨v,h1,h2⟩:=hcell3 k h; ⟨v,aa7 hb2 h1,(ia7 hf7).below h2 hb2⟩⟩
         ·exact⟨x.time,a4,b4,off4,c4,rfl,fun _=>by kernel_rfl,hlc4,hc4,ha4,fun k h=>let ⟨v,h1,h2⟩:=hcell4 k h; ⟨v,aa7 hb2 h1,(ia7 hf7).below h2 hb2⟩⟩
        obtain⟨l,am,bm,offm,cm,hl,hix,hlm,hcm,ham,hcm'⟩:=hm
        have HL:=hid hl
        clear hl ha3 ha4 hcell3 hcell4
        have HR0:lm7 x j=yab7 x j 0 l:=by simp[yab7,qrb7]
        rw[HR0]
        go_wp2
        go_loop [3,89] (fun ok i=>∃k:Nat,k≤l.length∧i = .int .i64 k∧ok = .bool (yab7 x j k l)) (fun _ i=>l.length-(intOf i).toNat)
        case atStart=>exact⟨0,by omega,rfl,rfl⟩
        case round =>
         obtain⟨k,hk,rfl,rfl⟩:=hrel
         by_cases hlt2:k<l.length
         ·have hx:=ka7 (c:=cm) Tryz.underlying38 ah7 (ham (by omega)) hlt2
          obtain⟨v,hv,hr⟩:=hcm' k hlt2
          have HS:=hid (nnb7 x j k l hlt2)
          have HC0:yab7 x j k l=aq7 x j k 0 l l[k]:=by simp[aq7,wub7]
          rw[HC0]
          clear hcm' ham HC0
          obtain⟨r,hr'⟩:∃r,r=l[k]:=⟨_,rfl⟩
          rw[← hr']at hr
          rw[← hr']
          obtain⟨ar,br,offr,cr,hsr,hlr,hcr,har,-,hcr2,-⟩:=bb7 hr
          obtain rfl:=List.cons.inj hsr |>.1
          have HR:=hid hr'
          clear hsr hr hr'
          go_wp2
          go_loop [3,96] (fun ok i=>∃m:Nat,m≤r.length∧i = .int .i64 m∧ok = .bool (aq7 x j k m l r)) (fun _ i=>r.length-(intOf i).toNat)
          case atStart=>exact⟨0,by omega,rfl,rfl⟩
          case round =>
           obtain⟨m,hm,rfl,rfl⟩:=hrel
           by_cases hlt3:m<r.length
           ·have hx3:=ka7 (c:=cr) Tryz.underlying78 qc7 (har (by omega)) hlt3
            have g:=hcr2 m hlt3
            have HS3:=hid (dhb7 x j k m l r hlt3)
            have HB3:Hid (csb7 k m r[m]=(on7 r[m] 0&&(((k:Int) != (m:Int)) || r[m]==0))):=rfl
            clear hcr2 har
            rcases isb7 (aq7 x j k m l r) (on7 r[m] 0) ((k:Int) != (m:Int)) (r[m]==0) with e0 | ⟨e0,e1⟩ | ⟨e0,e1,e2⟩ | ⟨e0,e1,e2,e3⟩ | ⟨e0,e1,e2,e3⟩
            all_goals
             go_wp2_with ((with_reducible refine (dyb7 _ _ _).mono ?_);rintro e w' ⟨rfl,rfl⟩)
             go_round
             case rel=>exact⟨m+1,by omega,by go_num,by rw[HS3.out,HB3.out];first | (rw[e0];rfl) | (rw[e0,e1];rfl) | (rw[e0,e1,e2];rfl) | (rw[e0,e1,e2,e3];rfl)⟩
             case measure=>simp[intOf];omega
           ·have hmr:m=r.length:=by omega
            subst hmr
            clear hcr2 har
            go_wp2
            go_round
            case rel=>exact⟨k+1,by omega,by go_num,by rw[HS.out,← HR.out]⟩
            case measure=>simp[intOf];omega
         ·have hkl:k=l.length:=by omega
          subst hkl
          have HN:Hid (lm7 x (j+1)=yab7 x j l.length l):=by rw[phb7];unfold yab7;rw[HL.out];rfl
          clear hcm' ham
          go_wp2
          go_round
          case rel=>exact⟨j+1,by omega,by go_num,by rw[HN.out]⟩
          case measure=>simp[intOf];omega
       ·have hj2:j=2:=by omega
        subst hj2
        have HE:=hid (ymb7 x)
        go_wp2
        go_ret
        exact⟨rb7 HE.out,hb2⟩
structure Ext (W:World) where
 val:World
 ok:Below W.heap.size W val
instance (W:World):Nonempty (Ext W):=⟨⟨W,Below.refl _ _⟩⟩
theorem tab7 {P:Program}{id:Nat}{Q:Exit→Act→World→Prop}{a:Act}{w:World}{l:List Oper}(hm:P.follows .mixedOrders=true) (hB:Region.lexB .any l.toArray=true)
  (h:wpQuiet P l.toArray (fun w'=>∃e:Ext w,w'=e.val) (fun a'=>∀w',(∃e:Ext w,w'=e.val)→Q .normal a' w') l a):(Code.region id l.toArray true).wp P Q a w :=
 wp_region_quiet (C:=fun w'=>∃e:Ext w,w'=e.val) hm hB ⟨⟨{ w with drawn:=w.drawn+1 },Below.drew (Below.refl _ _)⟩,rfl⟩ (by simpa only[List.toList_toArray]using h)
theorem Calls.ext {P:Program}{f:FuncId}{args:Array Value}{W:World}{x:Ext W}{v:Value}
  (h:Calls P f args x.val fun e w'=>e = .returned v∧Below x.val.heap.size x.val w'):Calls P f args x.val fun e w''=>e = .returned v∧∃y:Ext W,w''=y.val :=
 h.mono fun _ w' ⟨he,hb⟩=>⟨he,⟨w',x.ok.trans (hb.mono x.ok.size)⟩,rfl⟩
theorem Ext.cell {W:World}(x:Ext W) {a:Addr}{v:Value}(h:W.cell? a=some v):x.val.cell? a=some v:=aa7 x.ok h
def countB (x:ba7):Bool:=manyB x.tmany 60&&manyB x.bmany 60&&manyB x.sats.length 12&&manyB x.custs.length 48
def jqb7 (x:ba7):Bool:=yh7 x.cost (nodes x)&&yh7 x.time (nodes x)
def check (x:ba7):Int:=if countB x then (if jqb7 x then (if xn7 x then 0 else 2) else 4) else 9
theorem xgb7 {w:World}{F:Nat→Prop}{x:ba7}{cs:List Value}(h:kb7.rep w F x cs) :
  Calls Tryz.prog 43 #[.agg cs.toArray] w fun e w'=>e = .returned (.int .i64 (check x))∧Below w.heap.size w w':=by
 have hrep:=h
 obtain⟨s,c,co,ti,rfl,-,h1,h2,h3,h4⟩:=h
 obtain⟨a,b,off,c1,hs,hlc,hc,-,-,-,-⟩:=td7 h1
 obtain⟨a',b',off',c1',hs',hlc',hc',-,-,-,-⟩:=dh7 h2
 obtain rfl:=List.cons.inj hs |>.1
 obtain rfl:=List.cons.inj hs' |>.1
 obtain⟨a3,b3,off3,c3,hs3,hlc3,hc3,-,-,-⟩:=cd7 h3
 obtain⟨a4,b4,off4,c4,hs4,hlc4,hc4,-,-,-⟩:=cd7 h4
 obtain rfl:=List.cons.inj hs3 |>.1
 obtain rfl:=List.cons.inj hs4 |>.1
 clear hs hs' h1 h2 hs3 hs4
 go_enter Tryz.func43,Tryz.ntmps43
 go_upto_region 2 with fail
 go_cut [4] (fun s4 wx=>s4 = .bool (!countB x)∧Below w.heap.size w wx∧w.heap.size<wx.heap.size ∧
  wx.cell? ⟨w.heap.size,0,none⟩=some (.int .i64 x.fin)∧wx.cell? ⟨w.heap.size,1,none⟩=some (.int .i64 x.tmany)∧wx.cell? ⟨w.heap.size,2,none⟩=some (.int .i64 x.troom) ∧
  wx.cell? ⟨w.heap.size,3,none⟩=some (.int .i64 x.bmany)∧wx.cell? ⟨w.heap.size,4,none⟩=some (.int .i64 x.broom) ∧
  wx.cell? ⟨w.heap.size,5,none⟩=some (.slice a x.sats.length c1)∧wx.cell? ⟨w.heap.size,6,none⟩=some (.slice a' x.custs.length c1') ∧
  wx.cell? ⟨w.heap.size,7,none⟩=some (.slice a3 x.cost.length c3)∧wx.cell? ⟨w.heap.size,8,none⟩=some (.slice a4 x.time.length c4))
 case first =>
  have HH:Hid (countB x=(manyB x.tmany 60&&manyB x.bmany 60&&manyB x.sats.length 12&&manyB x.custs.length 48)):=rfl
  rcases chc7 (manyB x.tmany 60) (manyB x.bmany 60) (manyB x.sats.length 12) (manyB x.custs.length 48) with e0 | ⟨e0,e1⟩ | ⟨e0,e1,e2⟩ | ⟨e0,e1,e2,e3⟩ | ⟨e0,e1,e2,e3⟩
  all_goals
   go_wp2_with ((with_reducible refine (tec7 _ _ _).mono ?_);rintro e w' ⟨rfl,rfl⟩)
   go_meet
   exact⟨by rw[HH.out];first | (rw[e0];rfl) | (rw[e0,e1];rfl) | (rw[e0,e1,e2];rfl) | (rw[e0,e1,e2,e3];rfl),(Below.refl _ _).alloc (Nat.le_refl _) _,by simp,by simp,by simp,by simp,by simp,by simp,by simp,by simp,by simp,by simp⟩
 case rest =>
  obtain⟨rfl,hb0,hz,q0,q1,q2,q3,q4,q5,q6,q7,q8⟩:=hcut
  cases ec:countB x
  ·have HE:=hid (show check x=9 by unfold check;simp[ec])
   go_wp2
   go_ret
   exact⟨yb7 HE.out.symm,hb0⟩
  ·have hl1:x.sats.length≤1000000∧x.custs.length≤1000000:=by
    simp[countB,manyB]at ec;omega
   go_upto_region 4 with fail
   have hrc:=kb7.below hrep hb0
   have hrc3:=sh7.below h3 hb0
   have hrc4:=sh7.below h4 hb0
   have q:∀e:Ext wc,e.val.cell? ⟨w.heap.size,0,none⟩=some (.int .i64 x.fin)∧e.val.cell? ⟨w.heap.size,1,none⟩=some (.int .i64 x.tmany)∧e.val.cell? ⟨w.heap.size,2,none⟩=some (.int .i64 x.troom) ∧
     e.val.cell? ⟨w.heap.size,3,none⟩=some (.int .i64 x.bmany)∧e.val.cell? ⟨w.heap.size,4,none⟩=some (.int .i64 x.broom)∧e.val.cell? ⟨w.heap.size,5,none⟩=some (.slice a x.sats.length c1) ∧
     e.val.cell? ⟨w.heap.size,6,none⟩=some (.slice a' x.custs.length c1')∧e.val.cell? ⟨w.heap.size,7,none⟩=some (.slice a3 x.cost.length c3)∧e.val.cell? ⟨w.heap.size,8,none⟩=some (.slice a4 x.time.length c4) :=
    fun e=>⟨e.cell q0,e.cell q1,e.cell q2,e.cell q3,e.cell q4,e.cell q5,e.cell q6,e.cell q7,e.cell q8⟩
   obtain⟨p0,p1,p2,p3,p4,p5,p6,p7,p8⟩:(∀e:Ext wc,_)∧(∀e:Ext wc,_)∧(∀e:Ext wc,_)∧(∀e:Ext wc,_)∧(∀e:Ext wc,_)∧(∀e:Ext wc,_)∧(∀e:Ext wc,_)∧(∀e:Ext wc,_)∧(∀e:Ext wc,_) :=
    ⟨fun e=>(q e).1,fun e=>(q e).2.1,fun e=>(q e).2.2.1,fun e=>(q e).2.2.2.1,fun e=>(q e).2.2.2.2.1,fun e=>(q e).2.2.2.2.2.1,fun e=>(q e).2.2.2.2.2.2.1,fun e=>(q e).2.2.2.2.2.2.2.1,fun e=>(q e).2.2.2.2.2.2.2.2⟩
   clear q
   go_cut [35] (fun s35 wx=>s35 = .bool (!jqb7 x)∧Below wc.heap.size wc wx)
   case first =>
    have HH:=hid (show jqb7 x=(yh7 x.cost (nodes x)&&yh7 x.time (nodes x)) from rfl)
    rcases cgc7 (yh7 x.cost (nodes x)) (yh7 x.time (nodes x)) with e0 | ⟨e0,e1⟩ | ⟨e0,e1⟩
    all_goals
     refine tab7 (by kernel_rfl) (by kernel_rfl) ?_
     repeat (go_big_quiet_step (first | (go_at_call 114;exact Calls.ext (ejb7 (kb7.below hrc (Ext.ok _)) hl1.1 hl1.2)) | (go_at_call 113;(with_reducible exact Calls.ext (ujb7 (sh7.below hrc3 (Ext.ok _)) e0))) | (go_at_call 113;(with_reducible exact Calls.ext (ujb7 (sh7.below hrc4 (Ext.ok _)) e1)))))
     refine wpQuiet_nil ?_
     rintro _ ⟨ex,rfl⟩
     go_wp2_with fail
     go_meet
     exact⟨by rw[HH.out];first | (rw[e0];rfl) | (rw[e0,e1];rfl),ex.ok⟩
   case rest =>
    clear p0 p1 p2 p3 p4 p5 p6 p7 p8
    obtain⟨rfl,hb1⟩:=hcut
    cases es:jqb7 x
    ·have HE:=hid (show check x=4 by unfold check;simp[ec,es])
     go_wp2
     go_ret
     exact⟨yb7 HE.out.symm,hb0.trans (hb1.mono hb0.size)⟩
    ·have g0:=aa7 hb1 q0
     have g1:=aa7 hb1 q1
     have g2:=aa7 hb1 q2
     have g3:=aa7 hb1 q3
     have g4:=aa7 hb1 q4
     have g5:=aa7 hb1 q5
     have g6:=aa7 hb1 q6
     have g7:=aa7 hb1 q7
     have g8:=aa7 hb1 q8
     have hb2:=hb0.trans (hb1.mono hb0.size)
     have hr2:=kb7.below hrep hb2
     clear q0 q1 q2 q3 q4 q5 q6 q7 q8 hb0 hb1 hrc hrc3 hrc4 h3 h4 hrep
     cases en:xn7 x
     ·have HE:=hid (show check x=2 by unfold check;simp[ec,es,en])
      have HN:=hid en
      clear en
      go_wp2_with ((with_reducible refine (xeb7 hr2).mono ?_);rintro e w' ⟨rfl,hb3⟩;rw[HN.out])
      go_ret
      exact⟨yb7 HE.out.symm,hb2.trans (hb3.mono hb2.size)⟩
     ·have HE:=hid (show check x=0 by unfold check;simp[ec,es,en])
      have HN:=hid en
      clear en
      go_wp2_with ((with_reducible refine (xeb7 hr2).mono ?_);rintro e w' ⟨rfl,hb3⟩;rw[HN.out])
      go_ret
      exact⟨yb7 HE.out.symm,hb2.trans (hb3.mono hb2.size)⟩
theorem oh7 {α:Type}{xs ys:List α}{k:Nat}(h1:k<xs.length) (h2:k<ys.length) (h:xs.take k=ys.take k) (he:xs[k]=ys[k]):xs.take (k+1)=ys.take (k+1):=by
 rw[List.take_succ_eq_append_getElem h1,List.take_succ_eq_append_getElem h2,h,he]
theorem xu7 {α:Type}{xs ys:List α}{k:Nat}(h1:k<xs.length) (h2:k<ys.length) (he:xs[k]≠ys[k]):xs≠ys:=by
 rintro rfl;exact he rfl
theorem nk7 {α:Type}{xs ys:List α}(hl:xs.length=ys.length) (h:xs.take xs.length=ys.take xs.length):xs=ys:=by
 rw[List.take_length]at h;rw[h,hl,List.take_length]
theorem vjb7 {w:World}{F G:Nat→Prop}{xs ys:List Int}{u v:Value}(h:(ia7 hf7).rep w F xs [u]) (h':(ia7 hf7).rep w G ys [v]) :
  Calls Tryz.prog 33 #[u,v] w fun e w'=>e = .returned (.bool (decide (xs=ys)))∧∃n,w'=w.drewN n:=by
 obtain⟨a,b,off,c,hs,hlc,hc,ha,-,hcell,-⟩:=bb7 h
 obtain⟨a',b',off',c',hs',hlc',hc',ha',-,hcell',-⟩:=bb7 h'
 obtain rfl:=List.cons.inj hs |>.1
 obtain rfl:=List.cons.inj hs' |>.1
 clear hs hs' h h'
 by_cases hl:xs.length=ys.length
 ·have hl2:((xs.length:Int)==(ys.length:Int))=true:=by simp[hl]
  have hl3:((xs.length:Int) != (ys.length:Int))=false:=by simp[hl]
  have HL:=hid hl
  clear hl
  go_enter Tryz.func33,Tryz.ntmps33
  go_wp2
  go_loopw [5,13] (fun t i wr=>∃k:Nat,k≤xs.length∧i = .int .i64 k∧xs.take k=ys.take k∧∃n,wr=w.drewN n)
   (fun _ i _=>xs.length-(intOf i).toNat)
  case atStart=>exact⟨0,Nat.zero_le _,rfl,rfl,0,rfl⟩
  case round =>
   obtain⟨k,hk,rfl,ht,nd,rfl⟩:=hrel
   by_cases hlt:k<xs.length
   ·have hlt':k<ys.length:=by have:=HL.out;omega
    have g0:=hcell k hlt
    have g1:=hcell' k hlt'
    have hx:=ka7 (c:=c) Tryz.underlying68 di7 (ha (by omega)) hlt
    have hx':=ka7 (c:=c') Tryz.underlying68 di7 (ha' (by omega)) hlt'
    have HT:=hid ht
    clear hcell hcell' ha ha' ht
    by_cases he:xs[k]=ys[k]
    ·have he2:(xs[k] != ys[k])=false:=by simp[he]
     have HE:=hid he
     clear he
     go_wp2
     go_quiet (fail)
     go_wp2
     go_roundw
     case rel=>exact⟨k+1,by omega,by go_num,oh7 hlt hlt' HT.out HE.out,_,by first | rfl | exact World.drewN_drewN _ _ _⟩
     case measure=>simp[intOf];omega
    ·have he2:(xs[k] != ys[k])=true:=by simp[he]
     have HE:=hid he
     clear he
     go_wp2
     go_quiet (fail)
     go_wp2
     go_ret
     exact⟨rb7 (decide_eq_false (xu7 hlt hlt' HE.out)).symm,_,by first | rfl | exact World.drewN_drewN _ _ _⟩
   ·have hke:k=xs.length:=by omega
    subst hke
    have HT:=hid ht
    clear hcell hcell' ha ha' ht
    go_wp2
    go_ret
    exact⟨rb7 (decide_eq_true (nk7 HL.out HT.out)).symm,nd,rfl⟩
 ·have hl2:((xs.length:Int)==(ys.length:Int))=false:=by simp;omega
  have hl3:((xs.length:Int) != (ys.length:Int))=true:=by simp;omega
  have HL:=hid hl
  clear hl hcell hcell' ha ha'
  go_enter Tryz.func33,Tryz.ntmps33
  go_wp2
  go_ret
  exact⟨rb7 (decide_eq_false (fun e=>HL.out (by rw[e]))).symm,0,rfl⟩
theorem ubb7 {w:World}{F G:Nat→Prop}{xs ys:List Int}{u v:Value}(h:(ia7 hf7).rep w F xs [u]) (h':(ia7 hf7).rep w G ys [v]) :
  Calls Tryz.prog 77 #[u,v] w fun e w'=>e = .returned (.bool (decide (xs=ys)))∧∃n,w'=w.drewN n:=by
 obtain⟨a,b,off,c,hs,hlc,hc,ha,-,hcell,-⟩:=bb7 h
 obtain⟨a',b',off',c',hs',hlc',hc',ha',-,hcell',-⟩:=bb7 h'
 obtain rfl:=List.cons.inj hs |>.1
 obtain rfl:=List.cons.inj hs' |>.1
 clear hs hs' h h'
 by_cases hl:xs.length=ys.length
 ·have hl2:((xs.length:Int)==(ys.length:Int))=true:=by simp[hl]
  have hl3:((xs.length:Int) != (ys.length:Int))=false:=by simp[hl]
  have HL:=hid hl
  clear hl
  go_enter Tryz.func77,Tryz.ntmps77
  go_wp2
  go_loopw [5,13] (fun t i wr=>∃k:Nat,k≤xs.length∧i = .int .i64 k∧xs.take k=ys.take k∧∃n,wr=w.drewN n)
   (fun _ i _=>xs.length-(intOf i).toNat)
  case atStart=>exact⟨0,Nat.zero_le _,rfl,rfl,0,rfl⟩
  case round =>
   obtain⟨k,hk,rfl,ht,nd,rfl⟩:=hrel
   by_cases hlt:k<xs.length
   ·have hlt':k<ys.length:=by have:=HL.out;omega
    have g0:=hcell k hlt
    have g1:=hcell' k hlt'
    have hx:=ka7 (c:=c) Tryz.underlying78 qc7 (ha (by omega)) hlt
    have hx':=ka7 (c:=c') Tryz.underlying78 qc7 (ha' (by omega)) hlt'
    have HT:=hid ht
    clear hcell hcell' ha ha' ht
    by_cases he:xs[k]=ys[k]
    ·have he2:(xs[k] != ys[k])=false:=by simp[he]
     have HE:=hid he
     clear he
     go_wp2
     go_quiet (fail)
     go_wp2
     go_roundw
     case rel=>exact⟨k+1,by omega,by go_num,oh7 hlt hlt' HT.out HE.out,_,by first | rfl | exact World.drewN_drewN _ _ _⟩
     case measure=>simp[intOf];omega
    ·have he2:(xs[k] != ys[k])=true:=by simp[he]
     have HE:=hid he
     clear he
     go_wp2
     go_quiet (fail)
     go_wp2
     go_ret
     exact⟨rb7 (decide_eq_false (xu7 hlt hlt' HE.out)).symm,_,by first | rfl | exact World.drewN_drewN _ _ _⟩
   ·have hke:k=xs.length:=by omega
    subst hke
    have HT:=hid ht
    clear hcell hcell' ha ha' ht
    go_wp2
    go_ret
    exact⟨rb7 (decide_eq_true (nk7 HL.out HT.out)).symm,nd,rfl⟩
 ·have hl2:((xs.length:Int)==(ys.length:Int))=false:=by simp;omega
  have hl3:((xs.length:Int) != (ys.length:Int))=true:=by simp;omega
  have HL:=hid hl
  clear hl hcell hcell' ha ha'
  go_enter Tryz.func77,Tryz.ntmps77
  go_wp2
  go_ret
  exact⟨rb7 (decide_eq_false (fun e=>HL.out (by rw[e]))).symm,0,rfl⟩
theorem ofb7 {w:World}{F G:Nat→Prop}{xs ys:List ea7}{u v:Value}(h:(ia7 oe7).rep w F xs [u]) (h':(ia7 oe7).rep w G ys [v]) :
  Calls Tryz.prog 84 #[u,v] w fun e w'=>e = .returned (.bool (decide (xs=ys)))∧∃n,w'=w.drewN n:=by
 obtain⟨a,b,off,c,hs,hlc,hc,ha,-,hcell,-⟩:=sd7 h
 obtain⟨a',b',off',c',hs',hlc',hc',ha',-,hcell',-⟩:=sd7 h'
 obtain rfl:=List.cons.inj hs |>.1
 obtain rfl:=List.cons.inj hs' |>.1
 clear hs hs' h h'
 by_cases hl:xs.length=ys.length
 ·have hl2:((xs.length:Int)==(ys.length:Int))=true:=by simp[hl]
  have hl3:((xs.length:Int) != (ys.length:Int))=false:=by simp[hl]
  have HL:=hid hl
  clear hl
  go_enter Tryz.func84,Tryz.ntmps84
  go_wp2
  go_loopw [5,13] (fun t i wr=>∃k:Nat,k≤xs.length∧i = .int .i64 k∧xs.take k=ys.take k∧∃n,wr=w.drewN n)
   (fun _ i _=>xs.length-(intOf i).toNat)
  case atStart=>exact⟨0,Nat.zero_le _,rfl,rfl,0,rfl⟩
  case round =>
   obtain⟨k,hk,rfl,ht,nd,rfl⟩:=hrel
   by_cases hlt:k<xs.length
   ·have hlt':k<ys.length:=by have:=HL.out;omega
    have g0:=(hcell k hlt).1
    have g1:=(hcell k hlt).2
    have g2:=(hcell' k hlt').1
    have g3:=(hcell' k hlt').2
    have hx:=vb7 (c:=c) Tryz.underlying122 vo7 (ha (by omega)) hlt
    have hx':=vb7 (c:=c') Tryz.underlying122 vo7 (ha' (by omega)) hlt'
    have HT:=hid ht
    clear hcell hcell' ha ha' ht
    cases h1:(xs[k].sat==ys[k].sat) <;> cases h2:(xs[k].load==ys[k].load)
    case true.true =>
     have HE:=hid (show xs[k]=ys[k] from by
      have e1:=eq_of_beq h1
      have e2:=eq_of_beq h2
      cases h3:xs[k];cases h4:ys[k];simp_all)
     go_wp2
     go_quiet (fail)
     go_wp2
     go_roundw
     case rel=>exact⟨k+1,by omega,by go_num,oh7 hlt hlt' HT.out HE.out,_,by first | rfl | exact World.drewN_drewN _ _ _⟩
     case measure=>simp[intOf];omega
    all_goals
     have HE:=hid (show ¬xs[k]=ys[k] from by intro e;rw[e]at h1 h2;simp at h1 h2)
     go_wp2
     go_quiet (fail)
     go_wp2
     go_ret
     exact⟨rb7 (decide_eq_false (xu7 hlt hlt' HE.out)).symm,_,by first | rfl | exact World.drewN_drewN _ _ _⟩
   ·have hke:k=xs.length:=by omega
    subst hke
    have HT:=hid ht
    clear hcell hcell' ha ha' ht
    go_wp2
    go_ret
    exact⟨rb7 (decide_eq_true (nk7 HL.out HT.out)).symm,nd,rfl⟩
 ·have hl2:((xs.length:Int)==(ys.length:Int))=false:=by simp;omega
  have hl3:((xs.length:Int) != (ys.length:Int))=true:=by simp;omega
  have HL:=hid hl
  clear hl hcell hcell' ha ha'
  go_enter Tryz.func84,Tryz.ntmps84
  go_wp2
  go_ret
  exact⟨rb7 (decide_eq_false (fun e=>HL.out (by rw[e]))).symm,0,rfl⟩
def jf7 (x:ba7) (sat:Int) (out:List Int) (c:Int):List Int :=
 if 0≤sat∧sat<out.length∧0≤c∧c<x.custs.length then out.set sat.toNat (out.getD sat.toNat 0+(x.custs.getD c.toNat ⟨0,0,0,0⟩).load) else out
def kp7 (x:ba7) (out:List Int) (b:ga7):List Int:=b.stops.foldl (jf7 x b.sat) out
def yl7 (x:ba7) (l:List ga7):List Int:=l.foldl (kp7 x) (List.replicate x.sats.length 0)
theorem iw7 (x:ba7) (sat:Int) (out:List Int) (c:Int):(jf7 x sat out c).length=out.length:=by
 unfold jf7;split <;> simp
theorem wa7 {α β:Type}(f:β→α→β) (b:β) (l:List α) (k:Nat) (h:k<l.length):(l.take (k+1)).foldl f b=f ((l.take k).foldl f b) l[k]:=by
 rw[List.take_succ_eq_append_getElem h,List.foldl_append];rfl
theorem bt7 (x:ba7) (sat:Int) (l:List Int):∀out:List Int,(l.foldl (jf7 x sat) out).length=out.length:=by
 induction l with
 | nil=>intro out;rfl
 | cons c l ih=>intro out;rw[List.foldl_cons,ih,iw7]
theorem rs7 (x:ba7) (l:List ga7):∀out:List Int,(l.foldl (kp7 x) out).length=out.length:=by
 induction l with
 | nil=>intro out;rfl
 | cons b l ih=>intro out;rw[List.foldl_cons,ih];exact bt7 x b.sat b.stops out
def fc7 (out:List Int) (cnt:Nat):Prop:=∀v∈out,0≤v∧v≤1000000000*(cnt:Int)
theorem fc7.mono {out:List Int}{a b:Nat}(h:fc7 out a) (hab:a≤b):fc7 out b:=fun v hv=>⟨(h v hv).1,Int.le_trans (h v hv).2 (by omega)⟩
theorem fc7.zero (n:Nat):fc7 (List.replicate n 0) 0:=fun v hv=>by rw[List.eq_of_mem_replicate hv];decide
theorem fc7.get {out:List Int}{cnt:Nat}(h:fc7 out cnt) {i:Nat}(hi:i<out.length):0≤out[i]∧out[i]≤1000000000*(cnt:Int):=h _ (List.getElem_mem hi)
theorem fc7.add {out:List Int}{cnt:Nat}(h:fc7 out cnt) {i:Nat}{a b:Int}(ha:0≤a∧a≤1000000000*(cnt:Int)) (hb:0≤b∧b≤1000000000):fc7 (out.set i (a+b)) (cnt+1):=fun v hv=>by
 rcases List.mem_or_eq_of_mem_set hv with hv | rfl
 ·have:=h v hv;exact⟨this.1,by push_cast;omega⟩
 ·exact⟨by omega,by push_cast;omega⟩
def pb7 (l:List ga7) (k:Nat):Nat:=((l.take k).map fun b=>b.stops.length).sum
theorem re7 {l:List ga7}{k:Nat}(h:k<l.length):pb7 l (k+1)=pb7 l k+l[k].stops.length:=by
 unfold pb7;rw[List.take_succ_eq_append_getElem h,List.map_append,List.sum_append];simp only[List.map_cons,List.map_nil,List.sum_cons,List.sum_nil,Nat.add_zero]
theorem qn7 {l:List ga7}{k:Nat}:pb7 l k≤pb7 l l.length:=by
 have h:l.map (fun b=>b.stops.length)=(l.take k).map (fun b=>b.stops.length)++(l.drop k).map (fun b=>b.stops.length):=by rw[← List.map_append,List.take_append_drop]
 unfold pb7
 rw[List.take_length,h,List.sum_append]
 exact Nat.le_add_right _ _
theorem zdc7 {w:World}{F G:Nat→Prop}{x:ba7}{cs:List Value}{l:List ga7}{v:Value}(h:kb7.rep w F x cs) (hl:oo7.rep w G l [v]) (hn:x.sats.length≤1000000)
  (hcu:∀c∈x.custs,0≤c.load∧c.load≤1000000000) (ht:pb7 l l.length≤1000000) :
  Calls Tryz.prog 38 #[.agg cs.toArray,v] w fun e w'=>∃g,e = .returned (.slice (some ⟨g,0,none⟩) x.sats.length x.sats.length)∧Row w' g 2 ((yl7 x l).map ib7)∧w.heap.size≤g∧Below w.heap.size w w':=by
 obtain⟨s,c,co,ti,rfl,-,h1,h2,-,-⟩:=h
 obtain⟨a,b,off,c1,hs,-,-,-,-,-,-⟩:=td7 h1
 obtain⟨a',b',off',c1',hs',hlc',hc',ha',-,hcell',-⟩:=dh7 h2
 obtain rfl:=List.cons.inj hs |>.1
 obtain rfl:=List.cons.inj hs' |>.1
 obtain⟨a2,b2,off2,c2,hs2,hl2,hc2,ha2,-,hcell2⟩:=zc7 hl
 obtain rfl:=List.cons.inj hs2 |>.1
 clear hs hs' hs2 h1 h2 hl
 obtain⟨i0,hi,hz0,hz1,hz2⟩:=info_parts gj7
 have hmk:=ck7 Tryz.underlying78 hi hz0 hz1 hz2 (n:=x.sats.length) hn
 clear hi hz0 hz1 hz2 i0
 go_enter Tryz.func38,Tryz.ntmps38
 go_wp2
 go_loopw [16] (fun i wr=>∃(k:Nat) (out:List Int),k≤l.length∧i = .int .i64 k∧out=(l.take k).foldl (kp7 x) (List.replicate x.sats.length 0)∧fc7 out (pb7 l k)∧Row wr (w.heap.size+1) 2 (out.map ib7) ∧
   Below w.heap.size w wr∧wr.cell? ⟨w.heap.size,6,none⟩=some (.slice a' x.custs.length c1')) (fun i _=>l.length-(intOf i).toNat)
 case atStart=>exact⟨0,_,Nat.zero_le _,rfl,rfl,fc7.zero _,by have:=Row.make (w:=w.alloc (.cells #[.int .i64 x.fin,.int .i64 x.tmany,.int .i64 x.troom,.int .i64 x.bmany,.int .i64 x.broom,.slice a x.sats.length c1,.slice a' x.custs.length c1',co,ti] 57)) (n:=x.sats.length) (e:=2);simpa using this,((Below.refl _ _).alloc (Nat.le_refl _) _).alloc (by simp) _,by simp⟩
 case round =>
  obtain⟨k,out,hk,rfl,hout,hsm,hrow,hb,q6⟩:=hrel
  obtain⟨wo,rfl⟩:∃wo:World,wo=wr:=⟨_,rfl⟩
  have HOUT:=hid hout
  have HSM:=hid hsm
  have HROW:=hid hrow
  have hol:out.length=x.sats.length:=by rw[hout,rs7];simp
  have hz:w.heap.size+1<wo.heap.size:=hrow.lt
  have hz0:w.heap.size<wo.heap.size:=by omega
  clear hout hsm hrow
  by_cases hlt:k<l.length
  ·have hx:=vb7 (c:=c2) Tryz.underlying35 vj7 (ha2 (by omega)) hlt
   obtain⟨sv,g0,g1,hwf,hr⟩:=hcell2 k hlt
   obtain⟨st,hst⟩:∃st,st=l[k].sat:=⟨_,rfl⟩
   obtain⟨sp,hsp⟩:∃sp,sp=l[k].stops:=⟨_,rfl⟩
   rw[← hst]at g0 hwf
   rw[← hsp]at hr
   obtain⟨a3,b3,off3,c3,hs3,hl3,hc3,ha3,-,hcell3,hwf3⟩:=bb7 hr
   obtain rfl:=List.cons.inj hs3 |>.1
   have p0:=aa7 hb g0
   have p1:=aa7 hb g1
   have hcnt:=re7 hlt
   rw[← hsp]at hcnt
   have hcl:=qn7 (l:=l) (k:=k+1)
   have HCNT:=hid hcnt
   have HB:=hid (show l[k]=⟨st,sp⟩ from by rw[hst,hsp])
   have HF:=hid (wa7 (kp7 x) (List.replicate x.sats.length 0) l k hlt)
   clear hcell2 ha2 hs3 hr g0 g1 hst hsp
   have hsl:(sp.length:Int)≤1000000:=by omega
   go_wp2
   go_loopw [9,23] (fun cc jj wx=>∃(j:Nat) (o2:List Int),j≤sp.length∧jj = .int .i64 j∧o2=(sp.take j).foldl (jf7 x st) out∧fc7 o2 (pb7 l k+j)∧Row wx (w.heap.size+1) 2 (o2.map ib7) ∧
     Below w.heap.size w wx∧wx.cell? ⟨w.heap.size,6,none⟩=some (.slice a' x.custs.length c1')∧wx.cell? ⟨wo.heap.size,0,none⟩=some (.int .i64 st)∧wo.heap.size<wx.heap.size) (fun _ jj _=>sp.length-(intOf jj).toNat)
   case atStart =>
    refine⟨0,_,Nat.zero_le _,rfl,rfl,HSM.out,HROW.out.alloc _,hb.alloc hb.size _, ?_,by simp,by simp⟩
    exact aa7 ((Below.refl _ _).alloc (Nat.le_refl _) _) q6
   case round =>
    obtain⟨j,o2,hj,rfl,ho2,hs2,hr2,hb2,q6',q0,hzx⟩:=hrel
    clear q6
    obtain⟨wi,rfl⟩:∃wi:World,wi=wr:=⟨_,rfl⟩
    by_cases hjt:j<sp.length
    ·have hy:=ka7 (c:=c3) Tryz.underlying68 di7 (ha3 (by omega)) hjt
     have g3:=aa7 hb2 (hcell3 j hjt)
     obtain⟨c,hc⟩:∃c,c=sp[j]:=⟨_,rfl⟩
     rw[← hc]at g3
     have HC:=hid hc
     have HTS:=hid (wa7 (jf7 x st) out sp j hjt)
     have HO2:=hid ho2
     have HS2:=hid hs2
     have HR2:=hid hr2
     have h2l:o2.length=x.sats.length:=by rw[ho2,bt7,hol]
     clear hc ho2 hs2 hr2
     by_cases ee:(0≤st∧st<x.sats.length)∧0≤c∧c<x.custs.length
     ·obtain⟨⟨e1,e2⟩,e3,e4⟩:=ee
      have hic:=vb7 (c:=c1') Tryz.underlying55 cs7 (ha' (by omega)) (k:=c.toNat) (n:=x.custs.length) (by omega)
      have his:=ka7 (c:=x.sats.length) Tryz.underlying78 qc7 (a:=some ⟨w.heap.size+1,0,none⟩) rfl (k:=st.toNat) (n:=x.sats.length) (by omega)
      rw[Int.toNat_of_nonneg e3]at hic
      rw[Int.toNat_of_nonneg e1,Nat.zero_add]at his
      have hcl0:=(hcell' c.toNat (by omega)).1
      have hld:=hcu _ (List.getElem_mem (l:=x.custs) (n:=c.toNat) (by omega))
      obtain⟨ld,hlde⟩:∃ld,ld=(x.custs[c.toNat]'(by omega)).load:=⟨_,rfl⟩
      rw[← hlde]at hcl0 hld
      have hov:=HS2.out.get (i:=st.toNat) (by omega)
      have hoc:=HR2.out.cell (j:=st.toNat) (by rw[List.length_map];omega)
      rw[List.getElem_map]at hoc
      have hof:=HR2.out.frozen st.toNat
      obtain⟨ov,hove⟩:∃ov,ov=o2[st.toNat]'(by omega):=⟨_,rfl⟩
      rw[← hove]at hov hoc
      unfold ib7 at hoc
      have HN:=hid (show jf7 x st o2 c=o2.set st.toNat (ov+ld) from by
       unfold jf7;rw[if_pos (by rw[h2l];omega),hove,hlde,List.getD_eq_getElem?_getD,List.getD_eq_getElem?_getD,List.getElem?_eq_getElem (by omega),List.getElem?_eq_getElem (by omega)];rfl)
      have hcl1:=aa7 hb2 hcl0
      have HSM2:=hid (HS2.out.add (i:=st.toNat) hov hld)
      clear hove hlde hcl0
      have hbd:1000000000*((pb7 l k+j:Nat):Int)≤1000000000*1000000:=by omega
      go_wp2
      have z0:∀e:At (Old wi),_:=fun e=>e.cell q0
      have z1:∀e:At (Old wi),_:=fun e=>e.cell hoc
      have z2:∀e:At (Old wi),_:=fun e=>e.cell q6'
      have z3:∀e:At (Old wi),_:=fun e=>e.cell hcl1
      refine ma7 (Old wi) [13] [([0,1,2,3,4,5,6,7,8,9,10,11],12,false),([],13,true)] (by kernel_rfl) (by kernel_rfl) (fun _ _ d _ _ h=>by cases d <;> exact h) (Old.drew _) ?_
      simp only[gd7,List.map_cons,List.map_nil,Array.getD_eq_getD_getElem?,List.getElem?_toArray,List.getElem?_cons_succ,List.getElem?_cons_zero,Option.getD_some,me7]
      repeat (go_big_quiet_step (fail))
      refine wpQuiet_nil ?_
      go_wp2
      refine⟨Old.drew _,wpQuiet_nil ?_⟩
      go_wp2
      go_roundw
      case rel =>
       have hr3:=HR2.out.drew.set (j:=st.toNat) (by rw[List.length_map];omega) (ib7 (ov+ld))
       rw[← List.map_set]at hr3
       refine⟨j+1,o2.set st.toNat (ov+ld),by omega,by go_num,by rw[HTS.out,← HO2.out,← HC.out,HN.out],HSM2.out,hr3, ?_, ?_, ?_, ?_⟩
       ·exact (hb2.drew).setCell (by simp) _
       ·exact (World.cell?_of_block (w:=wi) (Below.heap_setCell _ _ _ _ (by show w.heap.size≠w.heap.size+1;omega))).trans q6'
       ·exact (World.cell?_of_block (w:=wi) (Below.heap_setCell _ _ _ _ (by show wo.heap.size≠w.heap.size+1;omega))).trans q0
       ·simpa using hzx
      case measure=>simp[intOf];omega
     ·have HN:=hid (show jf7 x st o2 c=o2 from by unfold jf7;rw[if_neg (by rw[h2l];omega)])
      by_cases e1:0≤st
      ·by_cases e2:st<x.sats.length
       ·by_cases e3:0≤c
        ·have e4:¬c<x.custs.length:=by omega
         clear ee
         go_wp2
         go_roundw
         case rel=>exact⟨j+1,o2,by omega,by go_num,by rw[HTS.out,← HO2.out,← HC.out,HN.out],HS2.out.mono (by omega),HR2.out,hb2,q6',q0,hzx⟩
         case measure=>simp[intOf];omega
        ·clear ee
         go_wp2
         go_roundw
         case rel=>exact⟨j+1,o2,by omega,by go_num,by rw[HTS.out,← HO2.out,← HC.out,HN.out],HS2.out.mono (by omega),HR2.out,hb2,q6',q0,hzx⟩
         case measure=>simp[intOf];omega
       ·clear ee
        go_wp2
        go_roundw
        case rel=>exact⟨j+1,o2,by omega,by go_num,by rw[HTS.out,← HO2.out,← HC.out,HN.out],HS2.out.mono (by omega),HR2.out,hb2,q6',q0,hzx⟩
        case measure=>simp[intOf];omega
      ·clear ee
       go_wp2
       go_roundw
       case rel=>exact⟨j+1,o2,by omega,by go_num,by rw[HTS.out,← HO2.out,← HC.out,HN.out],HS2.out.mono (by omega),HR2.out,hb2,q6',q0,hzx⟩
       case measure=>simp[intOf];omega
    ·have hjl:j=sp.length:=by omega
     subst hjl
     go_wp2
     go_roundw
     case rel=>exact⟨k+1,o2,by omega,by go_num,by rw[HF.out,HB.out,← HOUT.out,ho2,List.take_length];rfl,by rw[HCNT.out];exact hs2,hr2,hb2,q6'⟩
     case measure=>simp[intOf];omega
  ·have hkl:k=l.length:=by omega
   subst hkl
   have HL:=hid (show yl7 x l=out from by rw[HOUT.out,List.take_length];rfl)
   clear hcell2 ha2
   go_wp2
   go_ret
   exact⟨_,rfl,by rw[HL.out];exact HROW.out,by omega,hb⟩
theorem lc7 {w:World}{F:Nat→Prop}{xs:List (List ea7)}{cs:List Value}(h:mm7.rep w F xs cs) :
  ∃(a:Option Addr) (b off c:Nat),cs=[.slice a xs.length c]∧xs.length≤c∧c≤9223372036854775807∧(0<xs.length→a=some ⟨b,off,none⟩)∧(0<xs.length→F b) ∧
   ∀k (h:k<xs.length),∃v,w.cell? ⟨b,off+k,none⟩=some v∧(ia7 oe7).rep w F xs[k] [v]:=cd7 h
theorem dac7 {a b:ga7}(h1:a.sat=b.sat) (h2:a.stops=b.stops):a=b:=by cases a;cases b;simp_all
def oeb7 (w wr:World) (t b t' b':Value):Prop :=
 Below w.heap.size w wr∧wr.cell? ⟨w.heap.size,0,none⟩=some t∧wr.cell? ⟨w.heap.size,1,none⟩=some b∧wr.cell? ⟨w.heap.size+1,0,none⟩=some t'∧wr.cell? ⟨w.heap.size+1,1,none⟩=some b'
theorem oeb7.drewN {w wr:World}{t b t' b':Value}(h:oeb7 w wr t b t' b') (n:Nat):oeb7 w (wr.drewN n) t b t' b':=⟨below_drewN h.1 n,h.2⟩
theorem twb7 {w:World}{F G:Nat→Prop}{p q:ab7}{cs ds:List Value}(h:wd7.rep w F p cs) (h':wd7.rep w G q ds) :
  Calls Tryz.prog 27 #[.agg cs.toArray,.agg ds.toArray] w fun e w'=>e = .returned (.bool (decide (p=q)))∧Below w.heap.size w w':=by
 obtain⟨t,b,rfl,h1,h2⟩:=h
 obtain⟨t',b',rfl,h3,h4⟩:=h'
 obtain⟨a1,b1,off1,c1,hs,hl1,hc1,ha1,-,hcell1⟩:=lc7 h1
 obtain⟨a2,b2,off2,c2,hs2,hl2,hc2,ha2,-,hcell2⟩:=zc7 h2
 obtain⟨a3,b3,off3,c3,hs3,hl3,hc3,ha3,-,hcell3⟩:=lc7 h3
 obtain⟨a4,b4,off4,c4,hs4,hl4,hc4,ha4,-,hcell4⟩:=zc7 h4
 obtain rfl:=List.cons.inj hs |>.1
 obtain rfl:=List.cons.inj hs2 |>.1
 obtain rfl:=List.cons.inj hs3 |>.1
 obtain rfl:=List.cons.inj hs4 |>.1
 clear hs hs2 hs3 hs4 h1 h2 h3 h4
 by_cases e1:p.trucks.length=q.trucks.length
 case neg =>
  have hn:((p.trucks.length:Int) != (q.trucks.length:Int))=true:=by simp;omega
  have HE:=hid (show ¬p=q from by rintro rfl;exact e1 rfl)
  clear e1 hcell1 hcell2 hcell3 hcell4 ha1 ha2 ha3 ha4
  go_enter Tryz.func27,Tryz.ntmps27
  go_wp2
  go_ret
  exact⟨rb7 (decide_eq_false HE.out).symm,((Below.refl _ _).alloc (Nat.le_refl _) _).alloc (by simp) _⟩
 by_cases e2:p.bikes.length=q.bikes.length
 case neg =>
  have hn0:((p.trucks.length:Int) != (q.trucks.length:Int))=false:=by simp[e1]
  have hn:((p.bikes.length:Int) != (q.bikes.length:Int))=true:=by simp;omega
  have HE:=hid (show ¬p=q from by rintro rfl;exact e2 rfl)
  clear e1 e2 hcell1 hcell2 hcell3 hcell4 ha1 ha2 ha3 ha4
  go_enter Tryz.func27,Tryz.ntmps27
  go_wp2
  go_ret
  exact⟨rb7 (decide_eq_false HE.out).symm,((Below.refl _ _).alloc (Nat.le_refl _) _).alloc (by simp) _⟩
 have hn0:((p.trucks.length:Int) != (q.trucks.length:Int))=false:=by simp[e1]
 have hn1:((p.bikes.length:Int) != (q.bikes.length:Int))=false:=by simp[e2]
 have E1:=hid e1
 have E2:=hid e2
 clear e1 e2
 go_enter Tryz.func27,Tryz.ntmps27
 go_wp2
 go_loopw [5,26] (fun _ i wr=>∃k:Nat,k≤p.trucks.length∧i = .int .i64 k∧p.trucks.take k=q.trucks.take k∧oeb7 w wr (.slice a1 p.trucks.length c1) (.slice a2 p.bikes.length c2) (.slice a3 q.trucks.length c3) (.slice a4 q.bikes.length c4))
  (fun _ i _=>p.trucks.length-(intOf i).toNat)
 case atStart=>exact⟨0,Nat.zero_le _,rfl,rfl,((Below.refl _ _).alloc (Nat.le_refl _) _).alloc (by simp) _,by simp,by simp,by simp,by simp⟩
 case round =>
  obtain⟨k,hk,rfl,ht,hat⟩:=hrel
  have HT:=hid ht
  have HA:=hid hat
  obtain⟨hb,q0,q1,q2,q3⟩:=hat
  clear ht
  by_cases hlt:k<p.trucks.length
  ·have hlt':k<q.trucks.length:=by have:=E1.out;omega
   have hx:=ka7 (c:=c1) Tryz.underlying34 kh7 (ha1 (by omega)) hlt
   have hx':=ka7 (c:=c3) Tryz.underlying34 kh7 (ha3 (by omega)) hlt'
   obtain⟨v1,g1,r1⟩:=hcell1 k hlt
   obtain⟨v2,g2,r2⟩:=hcell3 k hlt'
   have g1':=aa7 hb g1
   have g2':=aa7 hb g2
   have r1':=(ia7 oe7).below r1 hb
   have r2':=(ia7 oe7).below r2 hb
   clear hcell1 hcell2 hcell3 hcell4 ha1 ha2 ha3 ha4 g1 g2 r1 r2
   by_cases he:p.trucks[k]=q.trucks[k]
   ·have HD:=hid (decide_eq_true he)
    have HE:=hid he
    clear he
    go_wp2
    go_quiet ((go_at_call 84;exact Calls.quiet_of (Calls.bool (ofb7 ((ia7 oe7).keep r1' (fun _ _=>rfl)) ((ia7 oe7).keep r2' (fun _ _=>rfl))) HD.out)))
    go_wp2
    go_roundw
    case rel=>exact⟨k+1,by omega,by go_num,oh7 hlt hlt' HT.out HE.out,HA.out.drewN _⟩
    case measure=>simp[intOf];omega
   ·have HD:=hid (decide_eq_false he)
    have HE:=hid (show ¬p=q from by rintro rfl;exact he rfl)
    clear he
    go_wp2
    go_quiet ((go_at_call 84;exact Calls.quiet_of (Calls.bool (ofb7 ((ia7 oe7).keep r1' (fun _ _=>rfl)) ((ia7 oe7).keep r2' (fun _ _=>rfl))) HD.out)))
    go_wp2
    go_ret
    exact⟨rb7 (decide_eq_false HE.out).symm,(HA.out.drewN _).1⟩
  ·have hke:k=p.trucks.length:=by omega
   subst hke
   have HT1:=hid (nk7 E1.out HT.out)
   clear hcell1 hcell3 ha1 ha3 HT
   go_wp2
   obtain⟨w1,hw1⟩:∃w1:World,w1=wr:=⟨_,rfl⟩
   go_loopw [6,47] (fun _ i wr=>∃k:Nat,k≤p.bikes.length∧i = .int .i64 k∧p.bikes.take k=q.bikes.take k∧oeb7 w wr (.slice a1 p.trucks.length c1) (.slice a2 p.bikes.length c2) (.slice a3 q.trucks.length c3) (.slice a4 q.bikes.length c4))
    (fun _ i _=>p.bikes.length-(intOf i).toNat)
   case atStart=>exact⟨0,Nat.zero_le _,rfl,rfl,HA.out⟩
   case round =>
    clear hb q0 q1 q2 q3 HA hw1 w1
    obtain⟨k,hk,rfl,ht,hat⟩:=hrel
    have HT:=hid ht
    have HA:=hid hat
    obtain⟨hb,q0,q1,q2,q3⟩:=hat
    clear ht
    by_cases hlt:k<p.bikes.length
    ·have hlt':k<q.bikes.length:=by have:=E2.out;omega
     have hx:=vb7 (c:=c2) Tryz.underlying35 vj7 (ha2 (by omega)) hlt
     have hx':=vb7 (c:=c4) Tryz.underlying35 vj7 (ha4 (by omega)) hlt'
     obtain⟨v1,g1,f1,-,r1⟩:=hcell2 k hlt
     obtain⟨v2,g2,f2,-,r2⟩:=hcell4 k hlt'
     have g1':=aa7 hb g1
     have g2':=aa7 hb g2
     have f1':=aa7 hb f1
     have f2':=aa7 hb f2
     have r1':=(ia7 hf7).below r1 hb
     have r2':=(ia7 hf7).below r2 hb
     clear hcell2 hcell4 ha2 ha4 g1 g2 f1 f2 r1 r2
     by_cases hs:p.bikes[k].sat=q.bikes[k].sat
     ·have hs2:(p.bikes[k].sat != q.bikes[k].sat)=false:=by simp[hs]
      by_cases he:p.bikes[k].stops=q.bikes[k].stops
      ·have HD:=hid (decide_eq_true he)
       have HE:=hid (dac7 hs he)
       clear he hs
       go_wp2
       go_quiet ((go_at_call 33;exact Calls.quiet_of (Calls.bool (vjb7 ((ia7 hf7).keep r1' (fun _ _=>rfl)) ((ia7 hf7).keep r2' (fun _ _=>rfl))) HD.out)))
       go_wp2
       go_roundw
       case rel=>exact⟨k+1,by omega,by go_num,oh7 hlt hlt' HT.out HE.out,HA.out.drewN _⟩
       case measure=>simp[intOf];omega
      ·have HD:=hid (decide_eq_false he)
       have HE:=hid (show ¬p=q from by rintro rfl;exact he rfl)
       clear he hs
       go_wp2
       go_quiet ((go_at_call 33;exact Calls.quiet_of (Calls.bool (vjb7 ((ia7 hf7).keep r1' (fun _ _=>rfl)) ((ia7 hf7).keep r2' (fun _ _=>rfl))) HD.out)))
       go_wp2
       go_ret
       exact⟨rb7 (decide_eq_false HE.out).symm,(HA.out.drewN _).1⟩
     ·have hs2:(p.bikes[k].sat != q.bikes[k].sat)=true:=by simp[hs]
      have HE:=hid (show ¬p=q from by rintro rfl;exact hs rfl)
      clear hs
      go_wp2
      go_quiet (fail)
      go_wp2
      go_ret
      exact⟨rb7 (decide_eq_false HE.out).symm,(HA.out.drewN _).1⟩
    ·have hke:k=p.bikes.length:=by omega
     subst hke
     have HT2:=hid (nk7 E2.out HT.out)
     clear hcell2 hcell4 ha2 ha4 HT
     go_wp2
     go_ret
     exact⟨rb7 (decide_eq_true (show p=q from by have e1:=HT1.out;have e2:=HT2.out;cases p;cases q;simp_all)).symm,hb⟩
def ai7 (out:List Int) (s:ea7):List Int:=out.set s.sat.toNat (out.getD s.sat.toNat 0+s.load)
def mh7 (out:List Int) (t:List ea7):List Int:=t.foldl ai7 out
def oj7 (x:ba7) (l:List (List ea7)):List Int:=l.foldl mh7 (List.replicate x.sats.length 0)
theorem xo7 (out:List Int) (s:ea7):(ai7 out s).length=out.length:=by unfold ai7;simp
theorem jm7 (l:List ea7):∀out:List Int,(l.foldl ai7 out).length=out.length:=by
 induction l with
 | nil=>intro out;rfl
 | cons c l ih=>intro out;rw[List.foldl_cons,ih,xo7]
theorem rl7 (l:List (List ea7)):∀out:List Int,(l.foldl mh7 out).length=out.length:=by
 induction l with
 | nil=>intro out;rfl
 | cons b l ih=>intro out;rw[List.foldl_cons,ih];exact jm7 b out
def gb7 (l:List (List ea7)) (k:Nat):Nat:=((l.take k).map List.length).sum
theorem df7 {l:List (List ea7)}{k:Nat}(h:k<l.length):gb7 l (k+1)=gb7 l k+l[k].length:=by
 unfold gb7;rw[List.take_succ_eq_append_getElem h,List.map_append,List.sum_append];simp only[List.map_cons,List.map_nil,List.sum_cons,List.sum_nil,Nat.add_zero]
theorem ip7 {l:List (List ea7)}{k:Nat}:gb7 l k≤gb7 l l.length:=by
 have h:l.map List.length=(l.take k).map List.length++(l.drop k).map List.length:=by rw[← List.map_append,List.take_append_drop]
 unfold gb7
 rw[List.take_length,h,List.sum_append]
 exact Nat.le_add_right _ _
def de7 (x:ba7) (s:ea7):Prop:=(0≤s.sat∧s.sat<x.sats.length)∧1≤s.load∧s.load≤1000000000
theorem obc7 {w:World}{F G:Nat→Prop}{x:ba7}{p:ab7}{cs ps:List Value}(h:kb7.rep w F x cs) (hp:wd7.rep w G p ps) (hn:x.sats.length≤1000000)
  (hok:∀t∈p.trucks,∀s∈t,de7 x s) (ht:gb7 p.trucks p.trucks.length≤1000000) :
  Calls Tryz.prog 184 #[.agg ps.toArray,.agg cs.toArray] w fun e w'=>∃g,e = .returned (.slice (some ⟨g,0,none⟩) x.sats.length x.sats.length)∧Row w' g 2 ((oj7 x p.trucks).map ib7)∧w.heap.size≤g∧Below w.heap.size w w':=by
 obtain⟨s,c,co,ti,rfl,-,h1,h2,-,-⟩:=h
 obtain⟨a,b,off,c1,hs,-,-,-,-,-,-⟩:=td7 h1
 obtain rfl:=List.cons.inj hs |>.1
 obtain⟨tv,bv,rfl,h3,-⟩:=hp
 obtain⟨a2,b2,off2,c2,hs2,hl2,hc2,ha2,-,hcell2⟩:=lc7 h3
 obtain rfl:=List.cons.inj hs2 |>.1
 clear hs hs2 h1 h2 h3
 obtain⟨i0,hi,hz0,hz1,hz2⟩:=info_parts gj7
 have hmk:=ck7 Tryz.underlying78 hi hz0 hz1 hz2 (n:=x.sats.length) hn
 clear hi hz0 hz1 hz2 i0
 go_enter Tryz.func184,Tryz.ntmps184
 go_wp2
 go_loopw [17] (fun i wr=>∃(k:Nat) (out:List Int),k≤p.trucks.length∧i = .int .i64 k∧out=(p.trucks.take k).foldl mh7 (List.replicate x.sats.length 0)∧fc7 out (gb7 p.trucks k)∧Row wr (w.heap.size+2) 2 (out.map ib7) ∧
   Below w.heap.size w wr) (fun i _=>p.trucks.length-(intOf i).toNat)
 case atStart=>exact⟨0,_,Nat.zero_le _,rfl,rfl,fc7.zero _,by have:=Row.make (w:=(w.alloc (.cells #[.slice a2 p.trucks.length c2,bv] 37)).alloc (.cells #[.int .i64 x.fin,.int .i64 x.tmany,.int .i64 x.troom,.int .i64 x.bmany,.int .i64 x.broom,.slice a x.sats.length c1,c,co,ti] 57)) (n:=x.sats.length) (e:=2);simpa using this,(((Below.refl _ _).alloc (Nat.le_refl _) _).alloc (by simp) _).alloc (by simp;omega) _⟩
 case round =>
  obtain⟨k,out,hk,rfl,hout,hsm,hrow,hb⟩:=hrel
  obtain⟨wo,rfl⟩:∃wo:World,wo=wr:=⟨_,rfl⟩
  have HOUT:=hid hout
  have HSM:=hid hsm
  have HROW:=hid hrow
  have hol:out.length=x.sats.length:=by rw[hout,rl7];simp
  have hz:w.heap.size+2<wo.heap.size:=hrow.lt
  have hz0:w.heap.size<wo.heap.size:=by omega
  clear hout hsm hrow
  by_cases hlt:k<p.trucks.length
  ·have hx:=ka7 (c:=c2) Tryz.underlying34 kh7 (ha2 (by omega)) hlt
   obtain⟨sv,g0,hr⟩:=hcell2 k hlt
   obtain⟨sp,hsp⟩:∃sp,sp=p.trucks[k]:=⟨_,rfl⟩
   have hokk:=hok _ (List.getElem_mem hlt)
   rw[← hsp]at hr hokk
   obtain⟨a3,b3,off3,c3,hs3,hl3,hc3,ha3,-,hcell3,hwf3⟩:=sd7 hr
   obtain rfl:=List.cons.inj hs3 |>.1
   have p0:=aa7 hb g0
   have hcnt:=df7 hlt
   rw[← hsp]at hcnt
   have hcl:=ip7 (l:=p.trucks) (k:=k+1)
   have HCNT:=hid hcnt
   have HB:=hid (show p.trucks[k]=sp from hsp.symm)
   have HF:=hid (wa7 mh7 (List.replicate x.sats.length 0) p.trucks k hlt)
   clear hcell2 ha2 hs3 hr g0 hsp hok
   have hsl:(sp.length:Int)≤1000000:=by omega
   go_wp2
   go_loopw [24] (fun jj wx=>∃(j:Nat) (o2:List Int),j≤sp.length∧jj = .int .i64 j∧o2=(sp.take j).foldl ai7 out∧fc7 o2 (gb7 p.trucks k+j)∧Row wx (w.heap.size+2) 2 (o2.map ib7) ∧
     Below w.heap.size w wx∧wo.heap.size<wx.heap.size) (fun jj _=>sp.length-(intOf jj).toNat)
   case atStart=>exact⟨0,_,Nat.zero_le _,rfl,rfl,HSM.out,HROW.out.alloc _,hb.alloc hb.size _,by simp⟩
   case round =>
    obtain⟨j,o2,hj,rfl,ho2,hs2,hr2,hb2,hzx⟩:=hrel
    obtain⟨wi,rfl⟩:∃wi:World,wi=wr:=⟨_,rfl⟩
    by_cases hjt:j<sp.length
    ·have hy:=vb7 (c:=c3) Tryz.underlying122 vo7 (ha3 (by omega)) hjt
     have g3:=aa7 hb2 (hcell3 j hjt).1
     have g4:=aa7 hb2 (hcell3 j hjt).2
     have hst:=hokk _ (List.getElem_mem hjt)
     obtain⟨c,hc⟩:∃c,c=sp[j]:=⟨_,rfl⟩
     rw[← hc]at g3 g4 hst
     obtain⟨st,ld⟩:=c
     simp only[]at g3 g4
     have HC:=hid hc
     have HTS:=hid (wa7 ai7 out sp j hjt)
     have HO2:=hid ho2
     have HS2:=hid hs2
     have HR2:=hid hr2
     have h2l:o2.length=x.sats.length:=by rw[ho2,jm7,hol]
     obtain⟨⟨e1,e2⟩,hld⟩:=hst
     simp only[]at e1 e2 hld
     clear hc ho2 hs2 hr2
     have his:=ka7 (c:=x.sats.length) Tryz.underlying78 qc7 (a:=some ⟨w.heap.size+2,0,none⟩) rfl (k:=st.toNat) (n:=x.sats.length) (by omega)
     rw[Int.toNat_of_nonneg e1,Nat.zero_add]at his
     have hov:=HS2.out.get (i:=st.toNat) (by omega)
     have hoc:=HR2.out.cell (j:=st.toNat) (by rw[List.length_map];omega)
     rw[List.getElem_map]at hoc
     have hof:=HR2.out.frozen st.toNat
     obtain⟨ov,hove⟩:∃ov,ov=o2[st.toNat]'(by omega):=⟨_,rfl⟩
     rw[← hove]at hov hoc
     unfold ib7 at hoc
     have HN:=hid (show ai7 o2 ⟨st,ld⟩=o2.set st.toNat (ov+ld) from by
      show o2.set st.toNat (o2.getD st.toNat 0+ld)=_
      rw[hove,List.getD_eq_getElem?_getD,List.getElem?_eq_getElem (by omega)];rfl)
     have HSM2:=hid (HS2.out.add (i:=st.toNat) hov (b:=ld) ⟨by omega,by omega⟩)
     clear hove
     have hbd:1000000000*((gb7 p.trucks k+j:Nat):Int)≤1000000000*1000000:=by omega
     have hzi:w.heap.size+2<wi.heap.size:=by omega
     go_wp2
     generalize hwq:wi.alloc (.cells #[.int .i64 st,.int .i64 ld] 121)=wq
     have HWQ:=hid hwq
     have hob:Old wi wq:=by rw[← hwq];exact (Below.refl _ _).alloc (Nat.le_refl _) _
     have k0:wq.cell? ⟨wi.heap.size,0,none⟩=some (.int .i64 st):=by rw[← hwq];simp
     have k1:wq.cell? ⟨wi.heap.size,1,none⟩=some (.int .i64 ld):=by rw[← hwq];simp
     have k2:=hob.cell' hoc
     have k3:=(HR2.out.below hob).frozen st.toNat
     have k4:=hb2.trans (hob.mono hb2.size)
     have HR3:=hid (HR2.out.below hob)
     have hsz:wi.heap.size<wq.heap.size:=by rw[← hwq];simp
     clear hwq hob hoc hof
     have z0:∀e:At (Old wq),_:=fun e=>e.cell k0
     have z1:∀e:At (Old wq),_:=fun e=>e.cell k1
     have z2:∀e:At (Old wq),_:=fun e=>e.cell k2
     refine ma7 (Old wq) [9] [([0,1,2,3,4,5,6,7],8,false),([],9,true)] (by kernel_rfl) (by kernel_rfl) (fun _ _ d _ _ h=>by cases d <;> exact h) (Old.drew _) ?_
     simp only[gd7,List.map_cons,List.map_nil,Array.getD_eq_getD_getElem?,List.getElem?_toArray,List.getElem?_cons_succ,List.getElem?_cons_zero,Option.getD_some,me7]
     repeat (go_big_quiet_step (fail))
     refine wpQuiet_nil ?_
     go_wp2
     refine⟨Old.drew _,wpQuiet_nil ?_⟩
     go_wp2
     go_roundw
     case rel =>
      have hr3:=HR3.out.drew.set (j:=st.toNat) (by rw[List.length_map];omega) (ib7 (ov+ld))
      rw[← List.map_set]at hr3
      refine⟨j+1,o2.set st.toNat (ov+ld),by omega,by go_num,by rw[HTS.out,← HO2.out,← HC.out,HN.out],HSM2.out,hr3, ?_, ?_⟩
      ·exact (k4.drew).setCell (by simp) _
      ·simp;omega
     case measure=>simp[intOf];omega
    ·have hjl:j=sp.length:=by omega
     subst hjl
     go_wp2
     go_roundw
     case rel=>exact⟨k+1,o2,by omega,by go_num,by rw[HF.out,HB.out,← HOUT.out,ho2,List.take_length];rfl,by rw[HCNT.out];exact hs2,hr2,hb2⟩
     case measure=>simp[intOf];omega
  ·have hkl:k=p.trucks.length:=by omega
   subst hkl
   have HL:=hid (show oj7 x p.trucks=out from by rw[HOUT.out,List.take_length];rfl)
   clear hcell2 ha2
   go_wp2
   go_ret
   exact⟨_,rfl,by rw[HL.out];exact HROW.out,by omega,hb⟩
def setIn (i:Int):Bool:=decide (0≤i)&&decide (i<64)
theorem bnc7 (i:Int) (w:World):Calls Tryz.prog 159 #[.int .i64 i] w fun e w'=>e = .returned (.bool (setIn i))∧w'=w:=by
 by_cases h1:0≤i <;> by_cases h2:i<64
 all_goals
  go_enter Tryz.func159,Tryz.ntmps159
  go_wp2
  go_ret
  exact⟨rb7 (by simp[setIn];omega),rfl⟩
theorem vac7 (m i:Nat) (hm:m<18446744073709551616):(bits BinOp.and IntKind.u64 ((m:Int) / 2 ^ i) 1==1)=m.testBit i:=by
 have h1:((m:Int) / 2 ^ i)=((m / 2 ^ i:Nat):Int):=by simp
 have h2:m / 2 ^ i<18446744073709551616:=Nat.lt_of_le_of_lt (Nat.div_le_self _ _) hm
 rw[h1,show (1:Int)=((1:Nat):Int) from rfl,u64_and_nat _ _ h2 (by decide),nat_mask1,Nat.testBit_eq_decide_div_mod_eq]
 have h3:m / 2 ^ i % 2=0∨m / 2 ^ i % 2=1:=by omega
 rcases h3 with h3 | h3 <;> rw[h3] <;> rfl
theorem hwb7 (m i:Nat) (hi:i<64) (hm:m<18446744073709551616):bits BinOp.or IntKind.u64 (m:Int) (IntKind.u64.wrap (2 ^ i))=((m ||| 2 ^ i:Nat):Int):=by
 have h2:2 ^ i<18446744073709551616:=by
  have:=Nat.pow_lt_pow_right (a:=2) (by decide) hi
  exact this
 have h1:IntKind.u64.wrap (2 ^ i)=((2 ^ i:Nat):Int):=by
  rw[IntKind.wrap_u64,show ((2:Int) ^ i)=((2 ^ i:Nat):Int) by simp]
  exact Int.emod_eq_of_lt (Int.natCast_nonneg _) (Int.ofNat_lt.2 h2)
 rw[h1,u64_or_nat _ _ hm h2]
theorem qr7 (m i:Nat) (hi:i<64) (hm:m<18446744073709551616) (w:World):Calls Tryz.prog 95 #[.int .u64 (m:Int),.int .i64 (i:Int)] w fun e w'=>e = .returned (.bool (m.testBit i))∧w'=w:=by
 have h1:=hid (show setIn (i:Int)=true from by simp[setIn];omega)
 have h2:=hid (vac7 m i hm)
 clear hm
 go_enter Tryz.func95,Tryz.ntmps95
 go_wp2_with (go_at_call 159;refine (bnc7 _ _).mono ?_;rintro e w' ⟨rfl,rfl⟩;rw[h1.out])
 go_ret
 exact⟨rb7 h2.out,rfl⟩
theorem flb7 (m i:Nat) (hi:i<64) (hm:m<18446744073709551616) (w:World):Calls Tryz.prog 155 #[.int .u64 (m:Int),.int .i64 (i:Int)] w fun e w'=>e = .returned (.int .u64 ((m ||| 2 ^ i:Nat):Int))∧w'=w:=by
 have h1:=hid (show setIn (i:Int)=true from by simp[setIn];omega)
 have h2:=hid (hwb7 m i hi hm)
 clear hm
 go_enter Tryz.func155,Tryz.ntmps155
 go_wp2_with (go_at_call 159;refine (bnc7 _ _).mono ?_;rintro e w' ⟨rfl,rfl⟩;rw[h1.out])
 go_ret
 exact⟨yb7 h2.out,rfl⟩
theorem zec7 (m:Nat) (hm:m<64) (w:World):Calls Tryz.prog 228 #[.int .u64 (m:Int)] w fun e w'=>e = .returned (.int .i64 (Lib.onesCount m:Nat))∧w'=w:=by
 go_enter Tryz.func228,Tryz.ntmps228
 go_wp2
 go_ret
 refine⟨yb7 ?_,rfl⟩
 revert m
 decide +kernel
theorem plc7 (m:Nat) (hm:m<64) (w:World):Calls Tryz.prog 210 #[.int .u64 (m:Int)] w fun e w'=>e = .returned (.int .i64 (Lib.onesCount m:Nat))∧w'=w:=by
 go_enter Tryz.func210,Tryz.ntmps210
 go_wp2_with (go_at_call 228;refine (zec7 m hm _).mono ?_;rintro e w' ⟨rfl,rfl⟩)
 go_ret
 exact⟨rfl,rfl⟩
end Go.Proofs.YtabadfkikdefeaaGreat
