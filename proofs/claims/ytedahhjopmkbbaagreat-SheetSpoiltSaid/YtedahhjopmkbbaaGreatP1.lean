/- Texts of the proof, joined: RideD, Float, Real, Own, Facts, OrdCmp, SortD, Shelf, Square, Small, InstOwn, Stable, InstA, InstB, InstC, Region, InstD, Eq, Loads, Same, Drops, Set, Trucks, Bikes, Good, Check, Way, Nodes, Lit, Order, HeapD, NearD, Graph, Fill. -/
import Derived.Test.YtedahhjopmkbbaaGreatProg
import Derived.Laws.BitsAllLaws
import Derived.Lib.BitFns
import Derived.Sort.Defs
import Derived.Shelf.Strings.Builder1
import Derived.Shelf.Strings.BuilderF
import Derived.Shelf.Strings.BuilderK
import Derived.Shelf.Slices.Reverse
import Derived.Shelf.Slices.Equal
import Derived.Ground.Names2Prog
import Derived.Shelf.Slices.Clone
import Derived.Shelf.Slices.Delete
import Derived.Shelf.Slices.Cells
import Derived.Shelf.Slices.Empties
import Derived.Shelf.Slices.Empties2
import Derived.Ground.SlgnProg
import Derived.Shelf.SlicesG.Equal
import Derived.Shelf.SlicesG.Clone
import Derived.Shelf.SlicesE.Reverse
import Derived.Shelf.SlicesE.Delete
import Derived.Shelf.SlicesE.Clone
import Derived.Deep.LoopGhost
import Derived.Deep.DeepCutAuto
import Derived.Laws.StructEq
import Derived.Laws.ShiftsVar
import Derived.Deep.QuietTactic
import Derived.BigQuiet
import Derived.Laws.OwnMore
import Derived.BigRegion
import Derived.Test.YtedahhjopmkbbaaGreatO1
set_option linter.all false
set_option maxRecDepth 100000
set_option maxHeartbeats 6400000
namespace Go.Proofs.YtedahhjopmkbbaaGreat
open Go.RowKit
structure ka7 where
 out:Int
 starts:List Int
 back:Int
 deriving DecidableEq
structure nb7 where
 trucks:List (List Int)
 bikes:List ka7
 deriving DecidableEq
def vgc7:Shape ka7 where
 sz:=3
 rep:=fun w F x cs=>∃v,cs=[.int .i64 x.out,v,.int .i64 x.back]∧oa7 x.out∧oa7 x.back∧(ia7 om7).rep w F x.starts [v]
 len:=by rintro w F x cs ⟨v,rfl,_⟩;rfl
 keep:=by rintro w w' F x cs ⟨v,rfl,h1,h1',h2⟩ ha;exact⟨v,rfl,h1,h1',(ia7 om7).keep h2 ha⟩
 weak:=by rintro w F G x cs ⟨v,rfl,h1,h1',h2⟩ ha;exact⟨v,rfl,h1,h1',(ia7 om7).weak h2 ha⟩
 lt:=by rintro w F x cs ⟨v,rfl,h1,h1',h2⟩;exact⟨v,rfl,h1,h1',(ia7 om7).lt h2⟩
def aoc7:Shape (List ka7):=ia7 vgc7
structure zd7 where
 plan:ua7
 times:nb7
 cost:Int
end Go.Proofs.YtedahhjopmkbbaaGreat


namespace Go.Proofs.YtedahhjopmkbbaaGreat
open Go.RowKit
def Row (w:World) (g:Nat) (e:TypeId) (cs:List Value):Prop :=
 ∃(cur:Array Value) (rest:List Value),w.heap[g]? = some (.cells cur e (0,0))∧cur.toList=cs++rest
theorem Row.lt {w:World}{g:Nat}{e:TypeId}{cs:List Value}(h:Row w g e cs):g<w.heap.size:=by
 obtain⟨cur,rest,h1,_⟩:=h
 exact (Array.getElem?_eq_some_iff.1 h1).1
theorem Row.keep {w w':World}{g:Nat}{e:TypeId}{cs:List Value}(h:Row w g e cs) (hk:w'.heap[g]? = w.heap[g]?):Row w' g e cs:=by
 obtain⟨cur,rest,h1,h2⟩:=h
 exact⟨cur,rest,hk.trans h1,h2⟩
theorem Row.below {w w':World}{g:Nat}{e:TypeId}{cs:List Value}(h:Row w g e cs) (hb:Below w.heap.size w w'):Row w' g e cs:=h.keep (hb.block g h.lt)
theorem Row.belowB {B:Nat}{w w':World}{g:Nat}{e:TypeId}{cs:List Value}(h:Row w g e cs) (hb:Below B w w') (hg:g<B):Row w' g e cs:=h.keep (hb.block g hg)
theorem Row.alloc {w:World}{g:Nat}{e:TypeId}{cs:List Value}(h:Row w g e cs) (o:Obj):Row (w.alloc o) g e cs:=h.keep (Below.heap_alloc _ _ _ h.lt)
theorem Row.setOther {w:World}{g:Nat}{e:TypeId}{cs:List Value}(h:Row w g e cs) {a:Addr}(ha:g≠a.block) (u:Value):Row (w.setCell a u) g e cs:=h.keep (Below.heap_setCell _ _ _ _ ha)
theorem Row.drew {w:World}{g:Nat}{e:TypeId}{cs:List Value}(h:Row w g e cs):Row w.drew g e cs:=h
theorem Row.drewN {w:World}{g:Nat}{e:TypeId}{cs:List Value}(h:Row w g e cs) (n:Nat):Row (w.drewN n) g e cs:=h.keep rfl
theorem Row.ne {w:World}{g g':Nat}{e e':TypeId}{cs cs':List Value}(h:Row w g e cs) (h':Row w g' e' cs') (he:e≠e'):g≠g':=by
 rintro rfl
 obtain⟨_,_,h1,_⟩:=h
 obtain⟨_,_,h2,_⟩:=h'
 rw[h1]at h2
 simp only[Option.some.injEq,Obj.cells.injEq]at h2
 exact he h2.2.1
theorem Row.cell {w:World}{g:Nat}{e:TypeId}{cs:List Value}(h:Row w g e cs) {j:Nat}(hj:j<cs.length):w.cell? ⟨g,j,none⟩=some cs[j]:=by
 obtain⟨cur,rest,h1,h2⟩:=h
 have:cur[j]? = some cs[j]:=by
  rw[← Array.getElem?_toList,h2,List.getElem?_append_left hj,List.getElem?_eq_getElem hj]
 simp[World.cell?,h1,this]
theorem Row.frozen {w:World}{g:Nat}{e:TypeId}{cs:List Value}(h:Row w g e cs) (j:Nat):w.frozen? ⟨g,j,none⟩=false:=by
 obtain⟨cur,rest,h1,h2⟩:=h
 simp[World.frozen?,h1]
theorem Row.set {w:World}{g:Nat}{e:TypeId}{cs:List Value}(h:Row w g e cs) {j:Nat}(hj:j<cs.length) (u:Value):Row (w.setCell ⟨g,j,none⟩ u) g e (cs.set j u):=by
 obtain⟨cur,rest,h1,h2⟩:=h
 have hg:g<w.heap.size:=(Array.getElem?_eq_some_iff.1 h1).1
 refine⟨cur.setIfInBounds j u,rest, ?_, ?_⟩
 ·simp[World.setCell,Array.getElem?_modify,h1]
 ·rw[Array.toList_setIfInBounds,h2,List.set_append_left _ _ hj]
theorem Row.new {w:World}{g:Nat}{e:TypeId}{cs:List Value}(hg:g=w.heap.size):Row (w.alloc (.cells cs.toArray e)) g e cs:=by
 subst hg
 refine⟨cs.toArray,[], ?_,by simp⟩
 show (w.heap.push _)[w.heap.size]? = _
 simp
theorem Row.of_owns {w:World}{base:Nat}{e:TypeId}{size:Nat}{v:Value}{n:Nat}{xs:List Value}(h:w.ownsRow base e size v n xs) (hn:0<n) :
  ∃g c,v = .slice (some ⟨g,0,none⟩) n c∧n≤c∧c≤maxLen∧base≤g∧Row w g e xs:=by
 obtain⟨h1,h2⟩:=h
 rcases h2 with ⟨_,h2⟩ | h2
 ·omega
 ·obtain⟨g,cap,cur,rfl,hg,hh,hn1,hc,hs,ht⟩:=h2
  exact⟨g,cap,rfl,hn1,hc,hg,cur,cur.toList.drop (n*size),hh,by rw[← ht,List.take_append_drop]⟩
theorem dn7 {w:World}{g:Nat}(hg:g=w.heap.size) (cs:List Value) (e:TypeId):∀j u,cs[j]? = some u→(w.alloc (.cells cs.toArray e)).cell? ((⟨g,0,none⟩:Addr).add j)=some u:=by
 subst hg
 intro j u hj
 have:(⟨w.heap.size,0,none⟩:Addr).add j=⟨w.heap.size,j,none⟩:=by
  unfold Addr.add;split
  ·rename_i h;rw[h]
  ·simp
 rw[this]
 simpa using hj
theorem eb7 {w:World}{base:Nat}{e:TypeId}{size:Nat}{v:Value}{n:Nat}{xs:List Value}(h:w.ownsRow base e size v n xs):∃ao cap,v = .slice ao n cap∧n≤cap∧cap≤maxLen:=by
 obtain⟨h1,h2⟩:=h
 rcases h2 with ⟨rfl,rfl⟩ | ⟨g,cap,cur,rfl,hg,hh,h3,h4,_⟩
 ·exact⟨none,0,rfl,Nat.le_refl _,Nat.zero_le _⟩
 ·exact⟨_,cap,rfl,h3,h4⟩
theorem rb7 {w w':World}{base:Nat}{e:TypeId}{size:Nat}{v:Value}{n:Nat}{xs:List Value}(h:w.ownsRow base e size v n xs) (hb:Below w.heap.size w w'):w'.ownsRow base e size v n xs:=by
 obtain⟨h1,h2⟩:=h
 refine⟨h1, ?_⟩
 rcases h2 with h2 | ⟨g,cap,cur,hv,hg,hh,r⟩
 ·exact .inl h2
 ·exact .inr ⟨g,cap,cur,hv,hg,by rw[hb.block g (Array.getElem?_eq_some_iff.1 hh).1];exact hh,r⟩
theorem wmc7 {w:World}{g:Nat}{e:TypeId}{v0 v1 v2 v3 v4 v5 v6 v7 v8:Value}(h:Row w g e [v0,v1,v2,v3,v4,v5,v6,v7,v8]) :
  w.cell? ⟨g,0,none⟩=some v0∧w.cell? ⟨g,1,none⟩=some v1∧w.cell? ⟨g,2,none⟩=some v2∧w.cell? ⟨g,3,none⟩=some v3∧w.cell? ⟨g,4,none⟩=some v4∧w.cell? ⟨g,5,none⟩=some v5 ∧
   w.cell? ⟨g,6,none⟩=some v6∧w.cell? ⟨g,7,none⟩=some v7∧w.cell? ⟨g,8,none⟩=some v8 :=
 ⟨h.cell (j:=0) (by simp),h.cell (j:=1) (by simp),h.cell (j:=2) (by simp),h.cell (j:=3) (by simp),h.cell (j:=4) (by simp),h.cell (j:=5) (by simp),h.cell (j:=6) (by simp),h.cell (j:=7) (by simp),h.cell (j:=8) (by simp)⟩
theorem ry7 {w:World}{g:Nat}{e:TypeId}{v0 v1:Value}(h:Row w g e [v0,v1]):w.cell? ⟨g,0,none⟩=some v0∧w.cell? ⟨g,1,none⟩=some v1 :=
 ⟨h.cell (j:=0) (by simp),h.cell (j:=1) (by simp)⟩
def jc7 (x:Int):Value:=.int .i64 x
theorem Row.make {w:World}{n:Nat}{e:TypeId}:Row (w.alloc (.cells (Array.replicate n (jc7 0)) e)) w.heap.size e ((List.replicate n 0).map jc7):=by
 have:=Row.new (w:=w) (e:=e) (cs:=(List.replicate n 0).map jc7) rfl
 simpa using this
def asb7 (r:Nat) (row:List Int):Value:=.slice (some ⟨r,0,none⟩) row.length row.length
def wj7 (w:World) (B TR TI:Nat) (out:Value) (rows:List (List Int)) (rs:List Nat):Prop :=
 w.ownsRow B TR 1 out rows.length (List.zipWith asb7 rs rows)∧rs.length=rows.length∧(∀i (h:i<rs.length) (h':i<rows.length),Row w rs[i] TI (rows[i].map jc7))∧rs.Nodup∧∀b∈rs,B≤b∧b<w.heap.size
theorem wj7.nil (w:World) (B TR TI:Nat):wj7 w B TR TI (.slice none 0 0) [] [] :=
 ⟨World.ownsRow_nil _ _ _ _,rfl,fun _ h=>absurd h (Nat.not_lt_zero _),List.nodup_nil,fun _ h=>by cases h⟩
theorem bg7 {w:World}{B T n k:Nat}{v:Value}{xs:List Value}(h:w.ownsRow B T k v n xs) {g:Nat}(hg:v.ownBlock=some g):∃cs,Row w g T cs:=by
 obtain⟨h1,h2⟩:=h
 rcases h2 with ⟨rfl,_⟩ | ⟨g',cap,cur,rfl,hg',hh,_⟩
 ·cases hg
 ·simp only[Value.ownBlock,Option.some.injEq]at hg
  subst hg
  exact⟨cur.toList,cur,[],hh,by simp⟩
theorem wj7.push {w w1 w2:World}{B TR TI r:Nat}{out v':Value}{rows:List (List Int)}{rs:List Nat}{row:List Int}{o:Obj}(h:wj7 w B TR TI out rows rs) (hne:TR≠TI)
  (hb:Below w.heap.size w w1) (hr:Row w1 r TI (row.map jc7)) (hrw:w.heap.size≤r) (hB:B≤w.heap.size)
  (hown:w2.ownsRow B TR 1 v' (rows.length+1) (List.zipWith asb7 rs rows++[asb7 r row])) (hg:(w1.alloc o).grownBy w2 out.ownBlock):wj7 w2 B TR TI v' (rows++[row]) (rs++[r]):=by
 obtain⟨h1,h2,h3,h4,h5⟩:=h
 have hob:∀{b:Nat} {cs:List Value},Row w1 b TI cs→Row w2 b TI cs:=fun {b cs} hR=>by
  refine (hR.alloc o).keep (hg.block b (hR.alloc o).lt ?_)
  intro e
  obtain⟨cs',hc'⟩:=bg7 h1 e.symm
  exact (hc'.below hb).ne hR hne rfl
 refine⟨?_,by simp[h2], ?_, ?_, ?_⟩
 ·rw[List.length_append,List.length_singleton,List.zipWith_append h2]
  exact hown
 ·intro i hi hi'
  by_cases hl:i<rows.length
  ·rw[List.getElem_append_left (by omega),List.getElem_append_left hl]
   exact hob ((h3 i (by omega) hl).below hb)
  ·have:i=rows.length:=by simp at hi';omega
   subst this
   rw[List.getElem_append_right (by omega),List.getElem_append_right (Nat.le_refl _)]
   simp only[h2,Nat.sub_self,List.getElem_cons_zero]
   exact hob hr
 ·rw[List.nodup_append]
  refine⟨h4,by simp,fun a ha b hb'=>?_⟩
  simp only[List.mem_singleton]at hb'
  have:=(h5 a ha).2
  omega
 ·intro b hb'
  have hs:w.heap.size≤w2.heap.size:=Nat.le_trans hb.size (Nat.le_trans (by simp) hg.size)
  have hr2:r<w2.heap.size:=Nat.lt_of_lt_of_le hr.lt (Nat.le_trans (by simp) hg.size)
  rcases List.mem_append.1 hb' with hb' | hb'
  ·have:=h5 b hb';omega
  ·simp only[List.mem_singleton]at hb';omega
def ub7 (w:World) (B TR TI:Nat) (v:Value) (rows:List (List Int)) (g:Nat) (rs:List Nat):Prop :=
 ∃c,v = .slice (some ⟨g,0,none⟩) rows.length c∧rows.length≤c∧c≤maxLen∧B≤g∧Row w g TR (List.zipWith asb7 rs rows)∧rs.length=rows.length ∧
  (∀i (h:i<rs.length) (h':i<rows.length),Row w rs[i] TI (rows[i].map jc7))∧rs.Nodup∧∀b∈rs,B≤b
theorem wj7.own {w:World}{B TR TI:Nat}{out:Value}{rows:List (List Int)}{rs:List Nat}(h:wj7 w B TR TI out rows rs) (hn:0<rows.length):∃g,ub7 w B TR TI out rows g rs:=by
 obtain⟨h1,h2,h3,h4,h5⟩:=h
 obtain⟨g,c,hv,hc,hm,hg,hr⟩:=Row.of_owns h1 hn
 exact⟨g,c,hv,hc,hm,hg,hr,h2,h3,h4,fun b hb=>(h5 b hb).1⟩
theorem ub7.below {w w':World}{B TR TI:Nat}{v:Value}{rows:List (List Int)}{g:Nat}{rs:List Nat}(h:ub7 w B TR TI v rows g rs) (hb:Below w.heap.size w w'):ub7 w' B TR TI v rows g rs:=by
 obtain⟨c,h0,h1,h2,h3,h4,h5,h6,h7,h8⟩:=h
 exact⟨c,h0,h1,h2,h3,h4.below hb,h5,fun i h h'=>(h6 i h h').below hb,h7,h8⟩
theorem pt7:∀w,(sizeOf 3).run Tryz.prog w = .ok 1 w:=fun w=>by kernel_rfl
theorem zq7:∀w,(sizeOf 2).run Tryz.prog w = .ok 1 w:=fun w=>by kernel_rfl
theorem poc7:∀w,(sizeOf 5).run Tryz.prog w = .ok 1 w:=fun w=>by kernel_rfl
theorem nnc7:∀w,(sizeOf 123).run Tryz.prog w = .ok 2 w:=fun w=>by kernel_rfl
theorem azb7:∀w,(sizeOf 127).run Tryz.prog w = .ok 4 w:=fun w=>by kernel_rfl
theorem mbb7:∀w,(sizeOf 66).run Tryz.prog w = .ok 2 w:=fun w=>by kernel_rfl
theorem on7:∀w,(sizeOf 69).run Tryz.prog w = .ok 1 w:=fun w=>by kernel_rfl
theorem np7:∀w,(sizeOf 75).run Tryz.prog w = .ok 2 w:=fun w=>by kernel_rfl
theorem qhc7:∀w,(sizeOf 121).run Tryz.prog w = .ok 2 w:=fun w=>by kernel_rfl
theorem jkc7:∀w,(sizeOf 125).run Tryz.prog w = .ok 4 w:=fun w=>by kernel_rfl
end Go.Proofs.YtedahhjopmkbbaaGreat



namespace Go.Proofs.YtedahhjopmkbbaaGreat
open Go.RowKit
def jg7 (l:List Int) (n i:Nat) (k0:Nat):Nat→List Int×Nat
 | 0=>(List.replicate n 0,k0)
 | m+1=>let s:=jg7 l n i k0 m;if i≠m∧l≠[] then (s.1.set m (l.getD (s.2 % l.length) 0 % 30),s.2+1) else s
def lr7 (l:List Int) (n:Nat):Nat→List (List Int)×Nat
 | 0=>([],0)
 | i+1=>let s:=lr7 l n i;let r:=jg7 l n i s.2 n;(s.1++[r.1],r.2)
def ke7 (l:List Int) (n:Nat):List (List Int):=(lr7 l n n).1
theorem zhb7 (l:List Int) (n i k0 m:Nat):(jg7 l n i k0 m).1.length=n:=by
 induction m with
 | zero=>simp[jg7]
 | succ m ih=>simp only[jg7];split <;> simp[ih]
theorem ptb7 (l:List Int) (n i k0 m:Nat):(jg7 l n i k0 m).2≤k0+m:=by
 induction m with
 | zero=>simp[jg7]
 | succ m ih =>
  simp only[jg7]
  split
  ·show (jg7 l n i k0 m).2+1≤_;omega
  ·omega
theorem wk7 (l:List Int) (n i:Nat):(lr7 l n i).1.length=i:=by
 induction i with
 | zero=>simp[lr7]
 | succ i ih=>simp[lr7,ih]
theorem xlc7 (l:List Int) (n i:Nat):(lr7 l n i).2≤i*n:=by
 induction i with
 | zero=>simp[lr7]
 | succ i ih =>
  simp only[lr7]
  have:=ptb7 l n i (lr7 l n i).2 n
  rw[Nat.succ_mul];omega
theorem wtb7 {l:List Int}{n i k0 m:Nat}(h:i≠m) (hl:l≠[]):jg7 l n i k0 (m+1)=((jg7 l n i k0 m).1.set m (l.getD ((jg7 l n i k0 m).2 % l.length) 0 % 30),(jg7 l n i k0 m).2+1):=by
 simp only[jg7];rw[if_pos ⟨h,hl⟩]
theorem dbb7 {l:List Int}{n i k0 m:Nat}(h:¬(i≠m∧l≠[])):jg7 l n i k0 (m+1)=jg7 l n i k0 m:=by
 simp only[jg7];rw[if_neg h]
theorem aq7 {P:Program}{t e:TypeId}{i:TypeInfo}(ht:P.underlying t=some (.slice e)) (hi:P.info? e=some i) (hz:i.zero=some (.int .i64 0)) (hs:i.size=1) (hb:i.bytes=8) {n:Nat}(hn:n≤1000000) :
  ∀w,(Instr.makeSlice t (.int .i64 (n:Int)) (.int .i64 (n:Int))).run P w = .ok (.slice (some ⟨w.heap.size,0,none⟩) n n) (w.alloc (.cells (Array.replicate n (jc7 0)) e)):=by
 intro w
 have h:=run_make (P:=P) w t e i (.int .i64 0) ht hi hz .i64 .i64 n n (by omega) (by omega) (by rw[hb];omega) (by omega)
 rw[h,hs]
 have hm:(madeCells (Value.int .i64 0).cells ((n:Int).toNat*1))=Array.replicate n (jc7 0):=by
  apply Array.ext'
  rw[Nat.mul_one,Int.toNat_natCast,show (Value.int .i64 0).cells = #[.int .i64 0] from rfl,toList_madeCells_one]
  simp[jc7]
 rw[hm,Int.toNat_natCast]
theorem xbb7:(Tryz.prog.info? 2).map (fun i=>(i.zero,i.size,i.bytes))=some (some (.int .i64 0),1,8):=by kernel_rfl
theorem szb7:(Tryz.prog.info? 60).map (fun i=>(i.zero,i.size,i.bytes))=some (some (.slice none 0 0),1,24):=by kernel_rfl
theorem nvb7 {P:Program}{t e:TypeId}(ht:P.underlying t=some (.slice e)) (hsz:∀w,(sizeOf e).run P w = .ok 1 w) {a:Option Addr}{b off n c k:Nat}(ha:a=some ⟨b,off,none⟩) (hn:0<n) :
  ∀w,(Instr.indexAt t (.slice a n c) (.int .i64 ((k:Int) % (n:Int)))).run P w = .ok (.pointer (some ⟨b,off+k % n,none⟩)) w:=by
 intro w
 have:=nc7 ht hsz (c:=c) ha (Nat.mod_lt k hn) w
 rwa [Int.natCast_emod]at this
theorem qab7 {w:World}{F:Nat→Prop}{l:List Int}{v:Value}(h:(ia7 u8S).rep w F l [v]) {n:Nat}(hn:n≤100) :
  Calls Tryz.prog 44 #[v,.int .i64 (n:Int)] w fun e w'=>∃ao cp rs,e = .returned (.slice ao n cp)∧wj7 w' w.heap.size 60 2 (.slice ao n cp) (ke7 l n) rs∧Below w.heap.size w w':=by
 obtain⟨a,b,off,c,hs,hlc,hc,ha,-,hcell,hwf⟩:=ve7 h
 obtain rfl:=List.cons.inj hs |>.1
 clear hs h
 obtain⟨i0,hi,hz0,hz1,hz2⟩:=info_parts xbb7
 have hmk:=aq7 Tryz.underlying60 hi hz0 hz1 hz2 (n:=n) (by omega)
 clear hi hz0 hz1 hz2 i0
 go_enter Tryz.func44,Tryz.ntmps44
 go_wp2
 go_loopw [5,6,11] (fun out kk ii wr=>∃(i:Nat) (rows:List (List Int)) (K:Nat) (rs:List Nat),i≤n∧lr7 l n i=(rows,K)∧ii = .int .i64 i∧kk = .int .i64 K∧wj7 wr w.heap.size 60 2 out rows rs∧Below w.heap.size w wr)
  (fun _ _ ii _=>n-(intOf ii).toNat)
 case atStart=>exact⟨0,[],0,[],Nat.zero_le _,rfl,rfl,rfl,wj7.nil _ _ _ _,Below.refl _ _⟩
 case round =>
  obtain⟨i,rows,K,rs,hin,hst,rfl,rfl,hinv,hb⟩:=hrel
  have hK:K≤10000:=by
   have:=xlc7 l n i
   rw[hst]at this
   exact Nat.le_trans this (Nat.le_trans (Nat.mul_le_mul hin hn) (by omega))
  have HST:=hid hst
  have HINV:=hid hinv
  clear hst hinv
  obtain⟨wo,rfl⟩:∃wo:World,wo=wr:=⟨_,rfl⟩
  by_cases hlt:i<n
  ·go_wp2
   go_outline
   go_loopw [6,18] (fun kk jj wx=>∃(j:Nat) (r:List Int) (k:Nat),j≤n∧jg7 l n i K j=(r,k)∧jj = .int .i64 j∧kk = .int .i64 k∧Row wx wo.heap.size 2 (r.map jc7)∧Below wo.heap.size wo wx)
    (fun _ jj _=>n-(intOf jj).toNat)
   case atStart=>exact⟨0,_,_,Nat.zero_le _,rfl,rfl,rfl,Row.make,(Below.refl _ _).alloc (Nat.le_refl _) _⟩
   case round =>
    obtain⟨j,r,k,hj,hst,rfl,rfl,hrow,hbx⟩:=hrel
    have hk:k≤20000:=by
     have:=ptb7 l n i K j
     rw[hst]at this
     show k≤20000
     have h2:k≤K+j:=this
     omega
    have hrl:r.length=n:=by have:=zhb7 l n i K j;rw[hst]at this;exact this
    have HST2:=hid hst
    have HROW:=hid hrow
    have HRL:=hid hrl
    clear hst hrow hrl
    by_cases hlt2:j<n
    ·by_cases hij:i=j
     ·have hd:((i:Int) != (j:Int))=false:=by simp[hij]
      have HN:=hid (show jg7 l n i K (j+1)=(r,k) from by rw[dbb7 (by simp[hij])];exact HST2.out)
      clear hij
      go_wp2
      go_roundw
      case rel=>exact⟨j+1,r,k,by omega,HN.out,by go_num,rfl,HROW.out,hbx⟩
      case measure=>simp[intOf];omega
     ·have hd:((i:Int) != (j:Int))=true:=by simp;omega
      by_cases hl0:0<l.length
      ·have hl0':(0:Int)<(l.length:Int):=by omega
       have HN:=hid (show jg7 l n i K (j+1)=(r.set j (l.getD (k % l.length) 0 % 30),k+1) from by
        rw[wtb7 hij (by intro e;simp[e]at hl0)]
        rw[HST2.out])
       clear hij
       have hkl:k % l.length<l.length:=Nat.mod_lt _ hl0
       have hx:=nvb7 (k:=k) (c:=c) Tryz.underlying24 poc7 (ha hl0) hl0
       have hx2:=nc7 (c:=n) (a:=some ⟨wo.heap.size,0,none⟩) (off:=0) Tryz.underlying60 zq7 rfl hlt2
       have hval:l[k % l.length]=l.getD (k % l.length) 0:=by simp[List.getD,List.getElem?_eq_getElem hkl]
       have hr:=hwf _ (List.getElem_mem hkl)
       have g0:=hcell (k % l.length) hkl
       rw[hval]at g0 hr
       have g1:=ea7 (hb.trans (hbx.mono hb.size)) g0
       obtain⟨y,hy⟩:∃y,y=l.getD (k % l.length) 0:=⟨_,rfl⟩
       rw[← hy]at g1 hr HN
       have hw0:=HROW.out.cell (j:=j) (by simp;have:=HRL.out;omega)
       have hf0:=HROW.out.frozen j
       obtain⟨y0,hy0⟩:∃y0,y0=(r.map jc7)[j]'(by simp;have:=HRL.out;omega):=⟨_,rfl⟩
       rw[← hy0]at hw0
       clear hcell hwf ha hval g0 hy hy0
       go_wp2
       go_roundw
       case rel=>exact⟨j+1,_,k+1,by omega,HN.out,by go_num,by go_num,by
        rw[List.map_set]
        exact HROW.out.set (by simp;have:=HRL.out;omega) _,hbx.setCell (Nat.le_refl _) _⟩
       case measure=>simp[intOf];omega
      ·have hl0':¬(0:Int)<(l.length:Int):=by omega
       have HN:=hid (show jg7 l n i K (j+1)=(r,k) from by
        rw[dbb7 (by rintro⟨_,h2⟩;exact h2 (List.eq_nil_of_length_eq_zero (by omega)))];exact HST2.out)
       clear hij
       go_wp2
       go_roundw
       case rel=>exact⟨j+1,r,k,by omega,HN.out,by go_num,rfl,HROW.out,hbx⟩
       case measure=>simp[intOf];omega
    ·have hjn:j=n:=by omega
     subst hjn
     have hown:=rb7 HINV.out.1 hbx
     have hz:=hbx.size
     have hin2:rows.length=i:=by have:=wk7 l j i;rw[HST.out]at this;exact this
     have HIN:=hid hin2
     rw[hin2]at hown
     obtain⟨i1,hi,hz0,hz1,hz2⟩:=info_parts szb7
     clear hin2
     go_wp2_with (at_builtin;refine wpList_append_own _ rfl _ _ 42 rfl w.heap.size 60 i1 (.slice none 0 0) 1 24 Tryz.underlying42 hi hz0 hz1 hz2 rfl (by decide) _ _ _ rfl (hown.alloc _) ⟨wr.heap.size,0,none⟩ 1 1 [.slice (some ⟨wo.heap.size,0,none⟩) j j] rfl rfl ?c1 ?c2 ?c3 ?c4 ?c5 ?_)
     case c1=>exact cell_one_new _ _ _
     case c2=>intro u hu;simp at hu;subst hu;rfl
     case c3=>unfold maxLen;omega
     case c4=>omega
     case c5=>have h1:=hb.size;have h2:=hbx.size;simp;omega
     intro v' w1 hown' hgrow _
     have hR:asb7 wo.heap.size r = .slice (some ⟨wo.heap.size,0,none⟩) j j:=by unfold asb7;rw[HRL.out]
     rw[← hR]at hown'
     have HI:=hid (HINV.out.push (by decide) hbx HROW.out (Nat.le_refl _) hb.size (by rw[HIN.out];exact hown') hgrow)
     have HS:=hid (show lr7 l j (i+1)=(rows++[r],k) from by
      show ((lr7 l j i).1++[(jg7 l j i (lr7 l j i).2 j).1],(jg7 l j i (lr7 l j i).2 j).2)=_
      rw[HST.out]
      show (rows++[(jg7 l j i K j).1],(jg7 l j i K j).2)=_
      rw[HST2.out])
     have hb1:Below w.heap.size w w1:=((hb.trans (hbx.mono hb.size)).alloc (Nat.le_trans hb.size hbx.size) _).grown hgrow (Nat.le_trans hb.size (Nat.le_trans hbx.size (by simp))) (fun b hbk=>(HINV.out.1.lt b hbk).1)
     clear hown' hgrow hown hR hz hi hz0 hz1 hz2
     go_wp2
     go_roundw
     case rel=>exact⟨i+1,_,_,_,by omega,HS.out,by go_num,rfl,HI.out,hb1⟩
     case measure=>simp[intOf];omega
  ·have hin2:i=n:=by omega
   subst hin2
   have HF:=hid (show ke7 l i=rows from by unfold ke7;rw[HST.out])
   go_wp2
   go_ret
   have hl:=wk7 l i i
   rw[HST.out]at hl
   have hl:rows.length=i:=hl
   obtain⟨ao,cp,hv,-,-⟩:=eb7 HINV.out.1
   rw[hl]at hv
   subst hv
   exact⟨ao,cp,rs,rfl,by rw[HF.out];exact HINV.out,hb⟩
structure nzb7 where
 room:Int
 hold:Int
structure vwb7 where
 load:Int
 opn:Int
 wide:Int
 stay:Int
structure jb7 where
 fin:Int
 trucks:Int
 troom:Int
 bikes:Int
 broom:Int
 sats:List nzb7
 custs:List vwb7
 cost:List Int
 time:List Int
 tight:Bool
 loose:Bool
def wf8 (x:Int):Prop:=0≤x∧x≤255
def ekb7:Shape nzb7:=nd7 2 (fun x cs=>cs=[.int .u8 x.room,.int .u8 x.hold]∧wf8 x.room∧wf8 x.hold) (by rintro x cs ⟨rfl,_⟩;rfl)
def hcb7:Shape vwb7:=nd7 4 (fun x cs=>cs=[.int .u8 x.load,.int .u8 x.opn,.int .u8 x.wide,.int .u8 x.stay]∧wf8 x.load∧wf8 x.opn∧wf8 x.wide∧wf8 x.stay) (by rintro x cs ⟨rfl,_⟩;rfl)
def yc7:Shape (List Int):=ia7 u8S
def fbb7:Shape (List nzb7):=ia7 ekb7
def nz7:Shape (List vwb7):=ia7 hcb7
def bt7:Shape jb7 where
 sz:=11
 rep:=fun w F x cs=>∃s c co ti,cs=[.int .u8 x.fin,.int .u8 x.trucks,.int .u8 x.troom,.int .u8 x.bikes,.int .u8 x.broom,s,c,co,ti,.bool x.tight,.bool x.loose] ∧
  (wf8 x.fin∧wf8 x.trucks∧wf8 x.troom∧wf8 x.bikes∧wf8 x.broom)∧fbb7.rep w F x.sats [s]∧nz7.rep w F x.custs [c]∧yc7.rep w F x.cost [co]∧yc7.rep w F x.time [ti]
 len:=by rintro w F x cs ⟨_,_,_,_,rfl,_⟩;rfl
 keep:=by rintro w w' F x cs ⟨_,_,_,_,rfl,h0,h1,h2,h3,h4⟩ ha;exact⟨_,_,_,_,rfl,h0,fbb7.keep h1 ha,nz7.keep h2 ha,yc7.keep h3 ha,yc7.keep h4 ha⟩
 weak:=by rintro w F G x cs ⟨_,_,_,_,rfl,h0,h1,h2,h3,h4⟩ ha;exact⟨_,_,_,_,rfl,h0,fbb7.weak h1 ha,nz7.weak h2 ha,yc7.weak h3 ha,yc7.weak h4 ha⟩
 lt:=by rintro w F x cs ⟨_,_,_,_,rfl,h0,h1,h2,h3,h4⟩;exact⟨_,_,_,_,rfl,h0,fbb7.lt h1,nz7.lt h2,yc7.lt h3,yc7.lt h4⟩
theorem gbb7 {w:World}{F:Nat→Prop}{xs:List nzb7}{cs:List Value}(h:fbb7.rep w F xs cs) :
  ∃(a:Option Addr) (b off c:Nat),cs=[.slice a xs.length c]∧xs.length≤c∧c≤9223372036854775807∧(0<xs.length→a=some ⟨b,off,none⟩)∧(0<xs.length→F b) ∧
   (∀k (h:k<xs.length),w.cell? ⟨b,off+k*2,none⟩=some (.int .u8 xs[k].room)∧w.cell? ⟨b,off+k*2+1,none⟩=some (.int .u8 xs[k].hold))∧∀x∈xs,wf8 x.room∧wf8 x.hold:=by
 obtain⟨a,b,off,c,rfl,h1,h2,h3,h4⟩:=h
 refine⟨a,b,off,c,rfl,h1,h2,fun h=>(h3 h).1,fun h=>(h3 h).2,fun k hk=>?_,fun x hx=>?_⟩
 ·obtain⟨es,⟨rfl,_⟩,hc⟩:=h4 k hk
  have e0:=hc 0 (by decide)
  have e1:=hc 1 (by decide)
  exact⟨by simpa[ekb7,nd7]using e0,by simpa[ekb7,nd7]using e1⟩
 ·obtain⟨k,hk,rfl⟩:=List.getElem_of_mem hx
  obtain⟨es,he,_⟩:=h4 k hk
  exact he.2
theorem kz7 {w:World}{F:Nat→Prop}{xs:List vwb7}{cs:List Value}(h:nz7.rep w F xs cs) :
  ∃(a:Option Addr) (b off c:Nat),cs=[.slice a xs.length c]∧xs.length≤c∧c≤9223372036854775807∧(0<xs.length→a=some ⟨b,off,none⟩)∧(0<xs.length→F b) ∧
   (∀k (h:k<xs.length),w.cell? ⟨b,off+k*4,none⟩=some (.int .u8 xs[k].load)∧w.cell? ⟨b,off+k*4+1,none⟩=some (.int .u8 xs[k].opn) ∧
    w.cell? ⟨b,off+k*4+2,none⟩=some (.int .u8 xs[k].wide)∧w.cell? ⟨b,off+k*4+3,none⟩=some (.int .u8 xs[k].stay)) ∧
   ∀x∈xs,wf8 x.load∧wf8 x.opn∧wf8 x.wide∧wf8 x.stay:=by
 obtain⟨a,b,off,c,rfl,h1,h2,h3,h4⟩:=h
 refine⟨a,b,off,c,rfl,h1,h2,fun h=>(h3 h).1,fun h=>(h3 h).2,fun k hk=>?_,fun x hx=>?_⟩
 ·obtain⟨es,⟨rfl,_⟩,hc⟩:=h4 k hk
  have e0:=hc 0 (by decide)
  have e1:=hc 1 (by decide)
  have e2:=hc 2 (by decide)
  have e3:=hc 3 (by decide)
  exact⟨by simpa[hcb7,nd7]using e0,by simpa[hcb7,nd7]using e1,by simpa[hcb7,nd7]using e2,by simpa[hcb7,nd7]using e3⟩
 ·obtain⟨k,hk,rfl⟩:=List.getElem_of_mem hx
  obtain⟨es,he,_⟩:=h4 k hk
  exact he.2
def qe7 (x:jb7):Int:=if x.loose then 9 else 1
def lub7 (x:jb7) (s:nzb7):zrb7:=⟨4+qe7 x*(s.room % 40),s.hold % 12⟩
def xab7 (x:jb7) (c:vwb7):Int:=if x.tight then 1+c.load % 6+c.load / 32 else 1+c.load % 6
def hz7 (x:jb7) (c:vwb7):oq7:=⟨xab7 x c,c.opn % 50,c.opn % 50+qe7 x*c.wide,c.stay % 8⟩
def xd7 (x:jb7) (k:Nat):List zrb7:=((x.sats.take k).take 3).map (lub7 x)
def tb7 (x:jb7) (k:Nat):List oq7:=((x.custs.take k).take 6).map (hz7 x)
def he7 (x:jb7):List zrb7:=if x.sats=[] then [⟨60,2⟩] else xd7 x x.sats.length
def dd7 (x:jb7):List oq7:=if x.custs=[] then [⟨2,5,90,1⟩] else tb7 x x.custs.length
def ag7 (x:jb7):Nat:=1+(he7 x).length+(dd7 x).length
def yj7 (x:jb7):ca7 where
 fin:=40+x.fin*qe7 x
 tmany:=1+x.trucks % 4
 troom:=5+qe7 x*(x.troom % 40)
 bmany:=1+x.bikes % 6
 broom:=3+qe7 x*(x.broom % 20)
 sats:=he7 x
 custs:=dd7 x
 cost:=ke7 x.cost (ag7 x)
 time:=ke7 x.time (ag7 x)
def tlb7 (s:zrb7):List Value:=[jc7 s.room,jc7 s.hold]
def xt7 (c:oq7):List Value:=[jc7 c.load,jc7 c.opn,jc7 c.cls,jc7 c.stay]
theorem kvb7 {x:jb7}{k:Nat}(h:k<x.sats.length) (h3:k<3):xd7 x (k+1)=xd7 x k++[lub7 x x.sats[k]]:=by
 unfold xd7
 rw[List.take_take,List.take_take,show min 3 (k+1)=k+1 by omega,show min 3 k=k by omega,List.take_succ_eq_append_getElem h,List.map_append]
 rfl
theorem ezb7 {x:jb7}{k:Nat}(h3:3≤k):xd7 x (k+1)=xd7 x k:=by
 unfold xd7
 rw[List.take_take,List.take_take,show min 3 (k+1)=3 by omega,show min 3 k=3 by omega]
theorem dqb7 {x:jb7}{k:Nat}(h:k<x.custs.length) (h3:k<6):tb7 x (k+1)=tb7 x k++[hz7 x x.custs[k]]:=by
 unfold tb7
 rw[List.take_take,List.take_take,show min 6 (k+1)=k+1 by omega,show min 6 k=k by omega,List.take_succ_eq_append_getElem h,List.map_append]
 rfl
theorem brb7 {x:jb7}{k:Nat}(h3:6≤k):tb7 x (k+1)=tb7 x k:=by
 unfold tb7
 rw[List.take_take,List.take_take,show min 6 (k+1)=6 by omega,show min 6 k=6 by omega]
theorem wr7 {x:jb7}{k:Nat}(h:k≤x.sats.length):(xd7 x k).length=min k 3:=by unfold xd7;simp;omega
theorem jp7 {x:jb7}{k:Nat}(h:k≤x.custs.length):(tb7 x k).length=min k 6:=by unfold tb7;simp;omega
theorem vn7 (x:jb7):1≤(he7 x).length∧(he7 x).length≤3:=by
 unfold he7;split
 ·simp
 ·rename_i h
  have:0<x.sats.length:=List.length_pos_iff.2 h
  rw[wr7 (Nat.le_refl _)];omega
theorem el7 (x:jb7):1≤(dd7 x).length∧(dd7 x).length≤6:=by
 unfold dd7;split
 ·simp
 ·rename_i h
  have:0<x.custs.length:=List.length_pos_iff.2 h
  rw[jp7 (Nat.le_refl _)];omega
theorem oz7 (x:jb7):3≤ag7 x∧ag7 x≤10:=by
 have:=vn7 x;have:=el7 x;unfold ag7;omega
def xe7 (TS TC TR TI:Nat) (w:World) (B:Nat) (x:ca7) (cs:List Value):Prop :=
 ∃gs cs1 gc cc1 vco vti gco rco gti rti,cs=[jc7 x.fin,jc7 x.tmany,jc7 x.troom,jc7 x.bmany,jc7 x.broom,.slice (some ⟨gs,0,none⟩) x.sats.length cs1,.slice (some ⟨gc,0,none⟩) x.custs.length cc1,vco,vti] ∧
  (x.sats.length≤cs1∧cs1≤maxLen∧x.custs.length≤cc1∧cc1≤maxLen)∧B≤gs∧B≤gc∧Row w gs TS (x.sats.flatMap tlb7)∧Row w gc TC (x.custs.flatMap xt7) ∧
  ub7 w B TR TI vco x.cost gco rco∧ub7 w B TR TI vti x.time gti rti∧gco≠gti∧(∀a∈rco,∀b∈rti,a≠b)
theorem ub7.keepOn {w w':World}{B TR TI TX:Nat}{v:Value}{rows:List (List Int)}{g:Nat}{rs:List Nat}(h:ub7 w B TR TI v rows g rs) (hk:∀b e cs,Row w b e cs→e≠TX→w'.heap[b]? = w.heap[b]?) (h1:TR≠TX) (h2:TI≠TX) :
  ub7 w' B TR TI v rows g rs:=by
 obtain⟨c,k0,k1,k2,k3,k4,k5,k6,k7,k8⟩:=h
 exact⟨c,k0,k1,k2,k3,k4.keep (hk _ _ _ k4 h1),k5,fun i h h'=>(k6 i h h').keep (hk _ _ _ (k6 i h h') h2),k7,k8⟩
theorem ub7.mono {w:World}{B B' TR TI:Nat}{v:Value}{rows:List (List Int)}{g:Nat}{rs:List Nat}(h:ub7 w B TR TI v rows g rs) (hB:B'≤B):ub7 w B' TR TI v rows g rs:=by
 obtain⟨c,k0,k1,k2,k3,k4,k5,k6,k7,k8⟩:=h
 exact⟨c,k0,k1,k2,Nat.le_trans hB k3,k4,k5,k6,k7,fun b hb=>Nat.le_trans hB (k8 b hb)⟩
theorem xe7.keepOn {TS TC TR TI TX B:Nat}{w w':World}{x:ca7}{cs:List Value}(h:xe7 TS TC TR TI w B x cs) (hk:∀b e cs,Row w b e cs→e≠TX→w'.heap[b]? = w.heap[b]?)
  (h1:TS≠TX) (h2:TC≠TX) (h3:TR≠TX) (h4:TI≠TX):xe7 TS TC TR TI w' B x cs:=by
 obtain⟨gs,cs1,gc,cc1,vco,vti,gco,rco,gti,rti,k0,k1,k2,k3,k4,k5,k6,k7,k8,k9⟩:=h
 exact⟨gs,cs1,gc,cc1,vco,vti,gco,rco,gti,rti,k0,k1,k2,k3,k4.keep (hk _ _ _ k4 h1),k5.keep (hk _ _ _ k5 h2),k6.keepOn hk h3 h4,k7.keepOn hk h3 h4,k8,k9⟩
theorem xe7.mono {TS TC TR TI B B':Nat}{w:World}{x:ca7}{cs:List Value}(h:xe7 TS TC TR TI w B x cs) (hB:B'≤B):xe7 TS TC TR TI w B' x cs:=by
 obtain⟨gs,cs1,gc,cc1,vco,vti,gco,rco,gti,rti,k0,k1,k2,k3,k4,k5,k6,k7,k8,k9⟩:=h
 exact⟨gs,cs1,gc,cc1,vco,vti,gco,rco,gti,rti,k0,k1,Nat.le_trans hB k2,Nat.le_trans hB k3,k4,k5,k6.mono hB,k7.mono hB,k8,k9⟩
theorem xe7.below {TS TC TR TI B:Nat}{w w':World}{x:ca7}{cs:List Value}(h:xe7 TS TC TR TI w B x cs) (hb:Below w.heap.size w w'):xe7 TS TC TR TI w' B x cs:=by
 obtain⟨gs,cs1,gc,cc1,vco,vti,gco,rco,gti,rti,h0,h1,h2,h3,h4,h5,h6,h7,h8,h9⟩:=h
 exact⟨gs,cs1,gc,cc1,vco,vti,gco,rco,gti,rti,h0,h1,h2,h3,h4.below hb,h5.below hb,h6.below hb,h7.below hb,h8,h9⟩
def sub7 (x:ca7):Prop :=
 (oa7 x.fin∧oa7 x.tmany∧oa7 x.troom∧oa7 x.bmany∧oa7 x.broom)∧(∀s∈x.sats,oa7 s.room∧oa7 s.hold)∧(∀c∈x.custs,oa7 c.load∧oa7 c.opn∧oa7 c.cls∧oa7 c.stay) ∧
  (∀r∈x.cost,r.length≤maxLen∧∀v∈r,oa7 v)∧∀r∈x.time,r.length≤maxLen∧∀v∈r,oa7 v
theorem xk7 {α β:Type}(f:α→List β) (k:Nat) (hf:∀x,(f x).length=k):∀(xs:List α) (i j:Nat) (hi:i<xs.length),j<k→(xs.flatMap f)[i*k+j]? = (f xs[i])[j]?
 | x::xs,0,j,_,hj=>by
  rw[List.flatMap_cons,Nat.zero_mul,Nat.zero_add,List.getElem?_append_left (by rw[hf];exact hj)];rfl
 | x::xs,i+1,j,hi,hj=>by
  rw[List.flatMap_cons,List.getElem?_append_right (by rw[hf,Nat.succ_mul];omega),hf,show (i+1)*k+j-k=i*k+j by rw[Nat.succ_mul];omega]
  exact xk7 f k hf xs i j (by simpa using hi) hj
theorem Row.get {w:World}{g:Nat}{e:TypeId}{cs:List Value}(h:Row w g e cs) {j:Nat}{v:Value}(hv:cs[j]? = some v):w.cell? ⟨g,j,none⟩=some v:=by
 obtain⟨hj,rfl⟩:=List.getElem?_eq_some_iff.1 hv
 exact h.cell hj
theorem pcc7 {TS:Nat}{w:World}{F:Nat→Prop}{xs:List zrb7}{g c:Nat}(h:Row w g TS (xs.flatMap tlb7)) (h1:xs.length≤c) (h2:c≤maxLen) (hF:F g) (hw:∀s∈xs,oa7 s.room∧oa7 s.hold) :
  eqb7.rep w F xs [.slice (some ⟨g,0,none⟩) xs.length c]:=by
 refine⟨some ⟨g,0,none⟩,g,0,c,rfl,h1,h2,fun _=>⟨rfl,hF⟩,fun i hi=>⟨tlb7 xs[i],⟨rfl,hw _ (List.getElem_mem hi)⟩,fun j hj=>?_⟩⟩
 have hj2:j<2:=hj
 have e:=xk7 tlb7 2 (fun _=>rfl) xs i j hi hj2
 have e2:(tlb7 xs[i])[j]? = some ((tlb7 xs[i])[j]'hj2):=List.getElem?_eq_getElem hj2
 rw[e2]at e ⊢
 rw[Nat.zero_add]
 exact h.get e
theorem esb7 {TS:Nat}{w:World}{F:Nat→Prop}{xs:List oq7}{g c:Nat}(h:Row w g TS (xs.flatMap xt7)) (h1:xs.length≤c) (h2:c≤maxLen) (hF:F g) (hw:∀c∈xs,oa7 c.load∧oa7 c.opn∧oa7 c.cls∧oa7 c.stay) :
  hab7.rep w F xs [.slice (some ⟨g,0,none⟩) xs.length c]:=by
 refine⟨some ⟨g,0,none⟩,g,0,c,rfl,h1,h2,fun _=>⟨rfl,hF⟩,fun i hi=>⟨xt7 xs[i],⟨rfl,hw _ (List.getElem_mem hi)⟩,fun j hj=>?_⟩⟩
 have hj2:j<4:=hj
 have e:=xk7 xt7 4 (fun _=>rfl) xs i j hi hj2
 have e2:(xt7 xs[i])[j]? = some ((xt7 xs[i])[j]'hj2):=List.getElem?_eq_getElem hj2
 rw[e2]at e ⊢
 rw[Nat.zero_add]
 exact h.get e
theorem rbb7 {TI:Nat}{w:World}{F:Nat→Prop}{xs:List Int}{g c:Nat}(h:Row w g TI (xs.map jc7)) (h1:xs.length≤c) (h2:c≤maxLen) (hF:F g) (hw:∀v∈xs,oa7 v) :
  (ia7 om7).rep w F xs [.slice (some ⟨g,0,none⟩) xs.length c]:=by
 refine⟨some ⟨g,0,none⟩,g,0,c,rfl,h1,h2,fun _=>⟨rfl,hF⟩,fun i hi=>⟨[jc7 xs[i]],⟨rfl,hw _ (List.getElem_mem hi)⟩,fun j hj=>?_⟩⟩
 have hj1:j<1:=hj
 have hj0:j=0:=by omega
 subst hj0
 show w.cell? ⟨g,0+i*1+0,none⟩=some (jc7 xs[i])
 rw[show 0+i*1+0=i by omega]
 exact h.get (by simp[List.getElem?_eq_getElem hi])
theorem ub7.rep {TR TI B:Nat}{w:World}{v:Value}{rows:List (List Int)}{g:Nat}{rs:List Nat}(h:ub7 w B TR TI v rows g rs) (hw:∀r∈rows,r.length≤maxLen∧∀v∈r,oa7 v) :
  tt7.rep w (fun b=>B≤b) rows [v]:=by
 obtain⟨c,rfl,h1,h2,h3,h4,h5,h6,h7,h8⟩:=h
 refine⟨some ⟨g,0,none⟩,g,0,c,rfl,h1,h2,fun _=>⟨rfl,h3⟩,fun i hi=>⟨[asb7 (rs[i]'(by omega)) rows[i]], ?_,fun j hj=>?_⟩⟩
 ·have hb:=h8 _ (List.getElem_mem (l:=rs) (n:=i) (by omega))
  exact rbb7 (h6 i (by omega) hi) (Nat.le_refl _) (hw _ (List.getElem_mem hi)).1 hb (hw _ (List.getElem_mem hi)).2
 ·have hj1:j<1:=hj
  have hj0:j=0:=by omega
  subst hj0
  show w.cell? ⟨g,0+i*1+0,none⟩=some (asb7 (rs[i]'(by omega)) rows[i])
  rw[show 0+i*1+0=i by omega]
  exact h4.get (by rw[List.getElem?_zipWith,List.getElem?_eq_getElem (by omega:i<rs.length),List.getElem?_eq_getElem hi])
theorem xe7.rep {TS TC TR TI B:Nat}{w:World}{x:ca7}{cs:List Value}(h:xe7 TS TC TR TI w B x cs) (hw:sub7 x):erb7.rep w (fun b=>B≤b) x cs:=by
 obtain⟨gs,cs1,gc,cc1,vco,vti,gco,rco,gti,rti,rfl,⟨k1,k2,k3,k4⟩,h2,h3,h4,h5,h6,h7,-,-⟩:=h
 exact⟨_,_,_,_,rfl,hw.1,pcc7 h4 k1 k2 h2 hw.2.1,esb7 h5 k3 k4 h3 hw.2.2.1,h6.rep hw.2.2.2.1,h7.rep hw.2.2.2.2⟩
theorem xe7.lit {TS TC TR TI B:Nat}{w:World}{x:ca7}{cs:List Value}(h:xe7 TS TC TR TI w B x cs):∃gs cs1 gc cc1 gco cco gti cti,
  cs=[.int .i64 x.fin,.int .i64 x.tmany,.int .i64 x.troom,.int .i64 x.bmany,.int .i64 x.broom,.slice (some ⟨gs,0,none⟩) x.sats.length cs1,.slice (some ⟨gc,0,none⟩) x.custs.length cc1,.slice (some ⟨gco,0,none⟩) x.cost.length cco,.slice (some ⟨gti,0,none⟩) x.time.length cti]:=by
 obtain⟨gs,cs1,gc,cc1,vco,vti,gco,rco,gti,rti,rfl,-,-,-,-,-,⟨c,rfl,_⟩,⟨c',rfl,_⟩,-,-⟩:=h
 exact⟨_,_,_,_,_,_,_,_,rfl⟩
open Go.RowKit Go.Sort
def cvc7 (i:Nat):Value:=.int .i64 (i:Int)
end Go.Proofs.YtedahhjopmkbbaaGreat
namespace Go.Proofs.YtedahhjopmkbbaaGreat
open Go.RowKit
def ijb7 (n l:Int):Bool:=decide (l≤n)&&decide (n≤1000000000)
def manyB (n m:Int):Bool:=decide (1≤n)&&decide (n≤m)
def nodes (x:ca7):Nat:=1+x.sats.length+x.custs.length
def is7 (l:List (List Int)) (n:Int):Bool:=((l.length:Int)==n) && !(l.any (fun r:List Int=>(r.length:Int) != n))
def atc7 (s:zrb7):Bool:=ijb7 s.room 0&&ijb7 s.hold 0
def pic7 (c:oq7):Bool:=ijb7 c.load 1&&ijb7 c.opn 0&&ijb7 c.cls c.opn&&ijb7 c.stay 0
def hjc7 (i k:Nat) (n:Int):Bool:=ijb7 n 0&&(((i:Int) != (k:Int)) || n==0)
def wkc7 (i:Nat) (r:List Int) (m:Nat):Bool:=(List.range m).all fun k=>hjc7 i k (r.getD k 0)
def kkc7 (l:List (List Int)) (m:Nat):Bool:=(List.range m).all fun i=>wkc7 i (l.getD i []) (l.getD i []).length
def vrb7 (x:ca7):Bool:=ijb7 x.fin 0&&ijb7 x.troom 0&&ijb7 x.broom 0
def vu7 (x:ca7):Bool:=vrb7 x&&x.sats.all atc7&&x.custs.all pic7&&kkc7 x.cost x.cost.length&&kkc7 x.time x.time.length
structure Ext (W:World) where
 val:World
 ok:Below W.heap.size W val
instance (W:World):Nonempty (Ext W):=⟨⟨W,Below.refl _ _⟩⟩
theorem Calls.ext {P:Program}{f:FuncId}{args:Array Value}{W:World}{x:Ext W}{v:Value}
  (h:Calls P f args x.val fun e w'=>e = .returned v∧Below x.val.heap.size x.val w'):Calls P f args x.val fun e w''=>e = .returned v∧∃y:Ext W,w''=y.val :=
 h.mono fun _ w' ⟨he,hb⟩=>⟨he,⟨w',x.ok.trans (hb.mono x.ok.size)⟩,rfl⟩
theorem Ext.cell {W:World}(x:Ext W) {a:Addr}{v:Value}(h:W.cell? a=some v):x.val.cell? a=some v:=ea7 x.ok h
def countB (x:ca7):Bool:=manyB x.tmany 60&&manyB x.bmany 60&&manyB x.sats.length 12&&manyB x.custs.length 48
def zzb7 (x:ca7):Bool:=is7 x.cost (nodes x)&&is7 x.time (nodes x)
def check (x:ca7):Int:=if countB x then (if zzb7 x then (if vu7 x then 0 else 2) else 4) else 9
theorem qh7 {α:Type}{xs ys:List α}{k:Nat}(h1:k<xs.length) (h2:k<ys.length) (h:xs.take k=ys.take k) (he:xs[k]=ys[k]):xs.take (k+1)=ys.take (k+1):=by
 rw[List.take_succ_eq_append_getElem h1,List.take_succ_eq_append_getElem h2,h,he]
theorem dx7 {α:Type}{xs ys:List α}{k:Nat}(h1:k<xs.length) (h2:k<ys.length) (he:xs[k]≠ys[k]):xs≠ys:=by
 rintro rfl;exact he rfl
theorem ek7 {α:Type}{xs ys:List α}(hl:xs.length=ys.length) (h:xs.take xs.length=ys.take xs.length):xs=ys:=by
 rw[List.take_length]at h;rw[h,hl,List.take_length]
theorem eob7 {w:World}{F G:Nat→Prop}{xs ys:List Int}{u v:Value}(h:(ia7 om7).rep w F xs [u]) (h':(ia7 om7).rep w G ys [v]) :
  Calls Tryz.prog 62 #[u,v] w fun e w'=>e = .returned (.bool (decide (xs=ys)))∧∃n,w'=w.drewN n:=by
 obtain⟨a,b,off,c,hs,hlc,hc,ha,-,hcell,-⟩:=rh7 h
 obtain⟨a',b',off',c',hs',hlc',hc',ha',-,hcell',-⟩:=rh7 h'
 obtain rfl:=List.cons.inj hs |>.1
 obtain rfl:=List.cons.inj hs' |>.1
 clear hs hs' h h'
 by_cases hl:xs.length=ys.length
 ·have hl2:((xs.length:Int)==(ys.length:Int))=true:=by simp[hl]
  have hl3:((xs.length:Int) != (ys.length:Int))=false:=by simp[hl]
  have HL:=hid hl
  clear hl
  go_enter Tryz.func62,Tryz.ntmps62
  go_wp2
  go_loopw [5,13] (fun t i wr=>∃k:Nat,k≤xs.length∧i = .int .i64 k∧xs.take k=ys.take k∧∃n,wr=w.drewN n)
   (fun _ i _=>xs.length-(intOf i).toNat)
  case atStart=>exact⟨0,Nat.zero_le _,rfl,rfl,0,rfl⟩
  case round =>
   obtain⟨k,hk,rfl,ht,nd,rfl⟩:=hrel
   by_cases hlt:k<xs.length
   ·have hlt':k<ys.length:=by have:=HL.out;omega
    have g0:=hcell k hlt
    have g1:=hcell' k hlt'
    have hx:=nc7 (c:=c) Tryz.underlying72 pt7 (ha (by omega)) hlt
    have hx':=nc7 (c:=c') Tryz.underlying72 pt7 (ha' (by omega)) hlt'
    have HT:=hid ht
    clear hcell hcell' ha ha' ht
    by_cases he:xs[k]=ys[k]
    ·have he2:(xs[k] != ys[k])=false:=by simp[he]
     have HE:=hid he
     clear he
     go_wp2
     go_quiet (fail)
     go_wp2
     go_roundw
     case rel=>exact⟨k+1,by omega,by go_num,qh7 hlt hlt' HT.out HE.out,_,by first | rfl | exact World.drewN_drewN _ _ _⟩
     case measure=>simp[intOf];omega
    ·have he2:(xs[k] != ys[k])=true:=by simp[he]
     have HE:=hid he
     clear he
     go_wp2
     go_quiet (fail)
     go_wp2
     go_ret
     exact⟨me7 (decide_eq_false (dx7 hlt hlt' HE.out)).symm,_,by first | rfl | exact World.drewN_drewN _ _ _⟩
   ·have hke:k=xs.length:=by omega
    subst hke
    have HT:=hid ht
    clear hcell hcell' ha ha' ht
    go_wp2
    go_ret
    exact⟨me7 (decide_eq_true (ek7 HL.out HT.out)).symm,nd,rfl⟩
 ·have hl2:((xs.length:Int)==(ys.length:Int))=false:=by simp;omega
  have hl3:((xs.length:Int) != (ys.length:Int))=true:=by simp;omega
  have HL:=hid hl
  clear hl hcell hcell' ha ha'
  go_enter Tryz.func62,Tryz.ntmps62
  go_wp2
  go_ret
  exact⟨me7 (decide_eq_false (fun e=>HL.out (by rw[e]))).symm,0,rfl⟩
theorem pob7 {w:World}{F G:Nat→Prop}{xs ys:List Int}{u v:Value}(h:(ia7 om7).rep w F xs [u]) (h':(ia7 om7).rep w G ys [v]) :
  Calls Tryz.prog 51 #[u,v] w fun e w'=>e = .returned (.bool (decide (xs=ys)))∧∃n,w'=w.drewN n:=by
 obtain⟨a,b,off,c,hs,hlc,hc,ha,-,hcell,-⟩:=rh7 h
 obtain⟨a',b',off',c',hs',hlc',hc',ha',-,hcell',-⟩:=rh7 h'
 obtain rfl:=List.cons.inj hs |>.1
 obtain rfl:=List.cons.inj hs' |>.1
 clear hs hs' h h'
 by_cases hl:xs.length=ys.length
 ·have hl2:((xs.length:Int)==(ys.length:Int))=true:=by simp[hl]
  have hl3:((xs.length:Int) != (ys.length:Int))=false:=by simp[hl]
  have HL:=hid hl
  clear hl
  go_enter Tryz.func51,Tryz.ntmps51
  go_wp2
  go_loopw [5,13] (fun t i wr=>∃k:Nat,k≤xs.length∧i = .int .i64 k∧xs.take k=ys.take k∧∃n,wr=w.drewN n)
   (fun _ i _=>xs.length-(intOf i).toNat)
  case atStart=>exact⟨0,Nat.zero_le _,rfl,rfl,0,rfl⟩
  case round =>
   obtain⟨k,hk,rfl,ht,nd,rfl⟩:=hrel
   by_cases hlt:k<xs.length
   ·have hlt':k<ys.length:=by have:=HL.out;omega
    have g0:=hcell k hlt
    have g1:=hcell' k hlt'
    have hx:=nc7 (c:=c) Tryz.underlying60 zq7 (ha (by omega)) hlt
    have hx':=nc7 (c:=c') Tryz.underlying60 zq7 (ha' (by omega)) hlt'
    have HT:=hid ht
    clear hcell hcell' ha ha' ht
    by_cases he:xs[k]=ys[k]
    ·have he2:(xs[k] != ys[k])=false:=by simp[he]
     have HE:=hid he
     clear he
     go_wp2
     go_quiet (fail)
     go_wp2
     go_roundw
     case rel=>exact⟨k+1,by omega,by go_num,qh7 hlt hlt' HT.out HE.out,_,by first | rfl | exact World.drewN_drewN _ _ _⟩
     case measure=>simp[intOf];omega
    ·have he2:(xs[k] != ys[k])=true:=by simp[he]
     have HE:=hid he
     clear he
     go_wp2
     go_quiet (fail)
     go_wp2
     go_ret
     exact⟨me7 (decide_eq_false (dx7 hlt hlt' HE.out)).symm,_,by first | rfl | exact World.drewN_drewN _ _ _⟩
   ·have hke:k=xs.length:=by omega
    subst hke
    have HT:=hid ht
    clear hcell hcell' ha ha' ht
    go_wp2
    go_ret
    exact⟨me7 (decide_eq_true (ek7 HL.out HT.out)).symm,nd,rfl⟩
 ·have hl2:((xs.length:Int)==(ys.length:Int))=false:=by simp;omega
  have hl3:((xs.length:Int) != (ys.length:Int))=true:=by simp;omega
  have HL:=hid hl
  clear hl hcell hcell' ha ha'
  go_enter Tryz.func51,Tryz.ntmps51
  go_wp2
  go_ret
  exact⟨me7 (decide_eq_false (fun e=>HL.out (by rw[e]))).symm,0,rfl⟩
theorem jfb7 {w:World}{F G:Nat→Prop}{xs ys:List ba7}{u v:Value}(h:(ia7 ai7).rep w F xs [u]) (h':(ia7 ai7).rep w G ys [v]) :
  Calls Tryz.prog 61 #[u,v] w fun e w'=>e = .returned (.bool (decide (xs=ys)))∧∃n,w'=w.drewN n:=by
 obtain⟨a,b,off,c,hs,hlc,hc,ha,-,hcell,-⟩:=ts7 h
 obtain⟨a',b',off',c',hs',hlc',hc',ha',-,hcell',-⟩:=ts7 h'
 obtain rfl:=List.cons.inj hs |>.1
 obtain rfl:=List.cons.inj hs' |>.1
 clear hs hs' h h'
 by_cases hl:xs.length=ys.length
 ·have hl2:((xs.length:Int)==(ys.length:Int))=true:=by simp[hl]
  have hl3:((xs.length:Int) != (ys.length:Int))=false:=by simp[hl]
  have HL:=hid hl
  clear hl
  go_enter Tryz.func61,Tryz.ntmps61
  go_wp2
  go_loopw [5,13] (fun t i wr=>∃k:Nat,k≤xs.length∧i = .int .i64 k∧xs.take k=ys.take k∧∃n,wr=w.drewN n)
   (fun _ i _=>xs.length-(intOf i).toNat)
  case atStart=>exact⟨0,Nat.zero_le _,rfl,rfl,0,rfl⟩
  case round =>
   obtain⟨k,hk,rfl,ht,nd,rfl⟩:=hrel
   by_cases hlt:k<xs.length
   ·have hlt':k<ys.length:=by have:=HL.out;omega
    have g0:=(hcell k hlt).1
    have g1:=(hcell k hlt).2
    have g2:=(hcell' k hlt').1
    have g3:=(hcell' k hlt').2
    have hx:=lh7 (c:=c) Tryz.underlying67 mbb7 (ha (by omega)) hlt
    have hx':=lh7 (c:=c') Tryz.underlying67 mbb7 (ha' (by omega)) hlt'
    have HT:=hid ht
    clear hcell hcell' ha ha' ht
    cases h1:(xs[k].sat==ys[k].sat) <;> cases h2:(xs[k].load==ys[k].load)
    case true.true =>
     have HE:=hid (show xs[k]=ys[k] from by
      have e1:=eq_of_beq h1
      have e2:=eq_of_beq h2
      cases h3:xs[k];cases h4:ys[k];simp_all)
     go_wp2
     go_quiet (fail)
     go_wp2
     go_roundw
     case rel=>exact⟨k+1,by omega,by go_num,qh7 hlt hlt' HT.out HE.out,_,by first | rfl | exact World.drewN_drewN _ _ _⟩
     case measure=>simp[intOf];omega
    all_goals
     have HE:=hid (show ¬xs[k]=ys[k] from by intro e;rw[e]at h1 h2;simp at h1 h2)
     go_wp2
     go_quiet (fail)
     go_wp2
     go_ret
     exact⟨me7 (decide_eq_false (dx7 hlt hlt' HE.out)).symm,_,by first | rfl | exact World.drewN_drewN _ _ _⟩
   ·have hke:k=xs.length:=by omega
    subst hke
    have HT:=hid ht
    clear hcell hcell' ha ha' ht
    go_wp2
    go_ret
    exact⟨me7 (decide_eq_true (ek7 HL.out HT.out)).symm,nd,rfl⟩
 ·have hl2:((xs.length:Int)==(ys.length:Int))=false:=by simp;omega
  have hl3:((xs.length:Int) != (ys.length:Int))=true:=by simp;omega
  have HL:=hid hl
  clear hl hcell hcell' ha ha'
  go_enter Tryz.func61,Tryz.ntmps61
  go_wp2
  go_ret
  exact⟨me7 (decide_eq_false (fun e=>HL.out (by rw[e]))).symm,0,rfl⟩
def ro7 (x:ca7) (sat:Int) (out:List Int) (c:Int):List Int :=
 if 0≤sat∧sat<out.length∧0≤c∧c<x.custs.length then out.set sat.toNat (out.getD sat.toNat 0+(x.custs.getD c.toNat ⟨0,0,0,0⟩).load) else out
def vlb7 (x:ca7) (out:List Int) (b:ga7):List Int:=b.stops.foldl (ro7 x b.sat) out
def fvb7 (x:ca7) (l:List ga7):List Int:=l.foldl (vlb7 x) (List.replicate x.sats.length 0)
theorem xlb7 (x:ca7) (sat:Int) (out:List Int) (c:Int):(ro7 x sat out c).length=out.length:=by
 unfold ro7;split <;> simp
theorem gc7 {α β:Type}(f:β→α→β) (b:β) (l:List α) (k:Nat) (h:k<l.length):(l.take (k+1)).foldl f b=f ((l.take k).foldl f b) l[k]:=by
 rw[List.take_succ_eq_append_getElem h,List.foldl_append];rfl
def ah7 (out:List Int) (cnt:Nat):Prop:=∀v∈out,0≤v∧v≤1000000000*(cnt:Int)
theorem ah7.mono {out:List Int}{a b:Nat}(h:ah7 out a) (hab:a≤b):ah7 out b:=fun v hv=>⟨(h v hv).1,Int.le_trans (h v hv).2 (by omega)⟩
theorem ah7.zero (n:Nat):ah7 (List.replicate n 0) 0:=fun v hv=>by rw[List.eq_of_mem_replicate hv];decide
theorem ah7.get {out:List Int}{cnt:Nat}(h:ah7 out cnt) {i:Nat}(hi:i<out.length):0≤out[i]∧out[i]≤1000000000*(cnt:Int):=h _ (List.getElem_mem hi)
theorem ah7.add {out:List Int}{cnt:Nat}(h:ah7 out cnt) {i:Nat}{a b:Int}(ha:0≤a∧a≤1000000000*(cnt:Int)) (hb:0≤b∧b≤1000000000):ah7 (out.set i (a+b)) (cnt+1):=fun v hv=>by
 rcases List.mem_or_eq_of_mem_set hv with hv | rfl
 ·have:=h v hv;exact⟨this.1,by push_cast;omega⟩
 ·exact⟨by omega,by push_cast;omega⟩
def ic7 (l:List ga7) (k:Nat):Nat:=((l.take k).map fun b=>b.stops.length).sum
theorem th7 {l:List ga7}{k:Nat}(h:k<l.length):ic7 l (k+1)=ic7 l k+l[k].stops.length:=by
 unfold ic7;rw[List.take_succ_eq_append_getElem h,List.map_append,List.sum_append];simp only[List.map_cons,List.map_nil,List.sum_cons,List.sum_nil,Nat.add_zero]
theorem cab7 {l:List ga7}{k:Nat}:ic7 l k≤ic7 l l.length:=by
 have h:l.map (fun b=>b.stops.length)=(l.take k).map (fun b=>b.stops.length)++(l.drop k).map (fun b=>b.stops.length):=by rw[← List.map_append,List.take_append_drop]
 unfold ic7
 rw[List.take_length,h,List.sum_append]
 exact Nat.le_add_right _ _
theorem xi7 {w:World}{F:Nat→Prop}{xs:List (List ba7)}{cs:List Value}(h:ir7.rep w F xs cs) :
  ∃(a:Option Addr) (b off c:Nat),cs=[.slice a xs.length c]∧xs.length≤c∧c≤9223372036854775807∧(0<xs.length→a=some ⟨b,off,none⟩)∧(0<xs.length→F b) ∧
   ∀k (h:k<xs.length),∃v,w.cell? ⟨b,off+k,none⟩=some v∧(ia7 ai7).rep w F xs[k] [v]:=ivb7 h
theorem tgc7 {a b:ga7}(h1:a.sat=b.sat) (h2:a.stops=b.stops):a=b:=by cases a;cases b;simp_all
def kfb7 (w wr:World) (t b t' b':Value):Prop :=
 Below w.heap.size w wr∧wr.cell? ⟨w.heap.size,0,none⟩=some t∧wr.cell? ⟨w.heap.size,1,none⟩=some b∧wr.cell? ⟨w.heap.size+1,0,none⟩=some t'∧wr.cell? ⟨w.heap.size+1,1,none⟩=some b'
theorem kfb7.drewN {w wr:World}{t b t' b':Value}(h:kfb7 w wr t b t' b') (n:Nat):kfb7 w (wr.drewN n) t b t' b':=⟨below_drewN h.1 n,h.2⟩
theorem vcc7 {w:World}{F G:Nat→Prop}{p q:ua7}{cs ds:List Value}(h:ecb7.rep w F p cs) (h':ecb7.rep w G q ds) :
  Calls Tryz.prog 32 #[.agg cs.toArray,.agg ds.toArray] w fun e w'=>e = .returned (.bool (decide (p=q)))∧Below w.heap.size w w':=by
 obtain⟨t,b,rfl,h1,h2⟩:=h
 obtain⟨t',b',rfl,h3,h4⟩:=h'
 obtain⟨a1,b1,off1,c1,hs,hl1,hc1,ha1,-,hcell1⟩:=xi7 h1
 obtain⟨a2,b2,off2,c2,hs2,hl2,hc2,ha2,-,hcell2⟩:=mk7 h2
 obtain⟨a3,b3,off3,c3,hs3,hl3,hc3,ha3,-,hcell3⟩:=xi7 h3
 obtain⟨a4,b4,off4,c4,hs4,hl4,hc4,ha4,-,hcell4⟩:=mk7 h4
 obtain rfl:=List.cons.inj hs |>.1
 obtain rfl:=List.cons.inj hs2 |>.1
 obtain rfl:=List.cons.inj hs3 |>.1
 obtain rfl:=List.cons.inj hs4 |>.1
 clear hs hs2 hs3 hs4 h1 h2 h3 h4
 by_cases e1:p.trucks.length=q.trucks.length
 case neg =>
  have hn:((p.trucks.length:Int) != (q.trucks.length:Int))=true:=by simp;omega
  have HE:=hid (show ¬p=q from by rintro rfl;exact e1 rfl)
  clear e1 hcell1 hcell2 hcell3 hcell4 ha1 ha2 ha3 ha4
  go_enter Tryz.func32,Tryz.ntmps32
  go_wp2
  go_ret
  exact⟨me7 (decide_eq_false HE.out).symm,((Below.refl _ _).alloc (Nat.le_refl _) _).alloc (by simp) _⟩
 by_cases e2:p.bikes.length=q.bikes.length
 case neg =>
  have hn0:((p.trucks.length:Int) != (q.trucks.length:Int))=false:=by simp[e1]
  have hn:((p.bikes.length:Int) != (q.bikes.length:Int))=true:=by simp;omega
  have HE:=hid (show ¬p=q from by rintro rfl;exact e2 rfl)
  clear e1 e2 hcell1 hcell2 hcell3 hcell4 ha1 ha2 ha3 ha4
  go_enter Tryz.func32,Tryz.ntmps32
  go_wp2
  go_ret
  exact⟨me7 (decide_eq_false HE.out).symm,((Below.refl _ _).alloc (Nat.le_refl _) _).alloc (by simp) _⟩
 have hn0:((p.trucks.length:Int) != (q.trucks.length:Int))=false:=by simp[e1]
 have hn1:((p.bikes.length:Int) != (q.bikes.length:Int))=false:=by simp[e2]
 have E1:=hid e1
 have E2:=hid e2
 clear e1 e2
 go_enter Tryz.func32,Tryz.ntmps32
 go_wp2
 go_loopw [5,26] (fun _ i wr=>∃k:Nat,k≤p.trucks.length∧i = .int .i64 k∧p.trucks.take k=q.trucks.take k∧kfb7 w wr (.slice a1 p.trucks.length c1) (.slice a2 p.bikes.length c2) (.slice a3 q.trucks.length c3) (.slice a4 q.bikes.length c4))
  (fun _ i _=>p.trucks.length-(intOf i).toNat)
 case atStart=>exact⟨0,Nat.zero_le _,rfl,rfl,((Below.refl _ _).alloc (Nat.le_refl _) _).alloc (by simp) _,by simp,by simp,by simp,by simp⟩
 case round =>
  obtain⟨k,hk,rfl,ht,hat⟩:=hrel
  have HT:=hid ht
  have HA:=hid hat
  obtain⟨hb,q0,q1,q2,q3⟩:=hat
  clear ht
  by_cases hlt:k<p.trucks.length
  ·have hlt':k<q.trucks.length:=by have:=E1.out;omega
   have hx:=nc7 (c:=c1) Tryz.underlying38 on7 (ha1 (by omega)) hlt
   have hx':=nc7 (c:=c3) Tryz.underlying38 on7 (ha3 (by omega)) hlt'
   obtain⟨v1,g1,r1⟩:=hcell1 k hlt
   obtain⟨v2,g2,r2⟩:=hcell3 k hlt'
   have g1':=ea7 hb g1
   have g2':=ea7 hb g2
   have r1':=(ia7 ai7).below r1 hb
   have r2':=(ia7 ai7).below r2 hb
   clear hcell1 hcell2 hcell3 hcell4 ha1 ha2 ha3 ha4 g1 g2 r1 r2
   by_cases he:p.trucks[k]=q.trucks[k]
   ·have HD:=hid (decide_eq_true he)
    have HE:=hid he
    clear he
    go_wp2
    go_quiet ((go_at_call 61;exact Calls.quiet_of (Calls.bool (jfb7 ((ia7 ai7).keep r1' (fun _ _=>rfl)) ((ia7 ai7).keep r2' (fun _ _=>rfl))) HD.out)))
    go_wp2
    go_roundw
    case rel=>exact⟨k+1,by omega,by go_num,qh7 hlt hlt' HT.out HE.out,HA.out.drewN _⟩
    case measure=>simp[intOf];omega
   ·have HD:=hid (decide_eq_false he)
    have HE:=hid (show ¬p=q from by rintro rfl;exact he rfl)
    clear he
    go_wp2
    go_quiet ((go_at_call 61;exact Calls.quiet_of (Calls.bool (jfb7 ((ia7 ai7).keep r1' (fun _ _=>rfl)) ((ia7 ai7).keep r2' (fun _ _=>rfl))) HD.out)))
    go_wp2
    go_ret
    exact⟨me7 (decide_eq_false HE.out).symm,(HA.out.drewN _).1⟩
  ·have hke:k=p.trucks.length:=by omega
   subst hke
   have HT1:=hid (ek7 E1.out HT.out)
   clear hcell1 hcell3 ha1 ha3 HT
   go_wp2
   obtain⟨w1,hw1⟩:∃w1:World,w1=wr:=⟨_,rfl⟩
   go_loopw [6,47] (fun _ i wr=>∃k:Nat,k≤p.bikes.length∧i = .int .i64 k∧p.bikes.take k=q.bikes.take k∧kfb7 w wr (.slice a1 p.trucks.length c1) (.slice a2 p.bikes.length c2) (.slice a3 q.trucks.length c3) (.slice a4 q.bikes.length c4))
    (fun _ i _=>p.bikes.length-(intOf i).toNat)
   case atStart=>exact⟨0,Nat.zero_le _,rfl,rfl,HA.out⟩
   case round =>
    clear hb q0 q1 q2 q3 HA hw1 w1
    obtain⟨k,hk,rfl,ht,hat⟩:=hrel
    have HT:=hid ht
    have HA:=hid hat
    obtain⟨hb,q0,q1,q2,q3⟩:=hat
    clear ht
    by_cases hlt:k<p.bikes.length
    ·have hlt':k<q.bikes.length:=by have:=E2.out;omega
     have hx:=lh7 (c:=c2) Tryz.underlying39 np7 (ha2 (by omega)) hlt
     have hx':=lh7 (c:=c4) Tryz.underlying39 np7 (ha4 (by omega)) hlt'
     obtain⟨v1,g1,f1,-,r1⟩:=hcell2 k hlt
     obtain⟨v2,g2,f2,-,r2⟩:=hcell4 k hlt'
     have g1':=ea7 hb g1
     have g2':=ea7 hb g2
     have f1':=ea7 hb f1
     have f2':=ea7 hb f2
     have r1':=(ia7 om7).below r1 hb
     have r2':=(ia7 om7).below r2 hb
     clear hcell2 hcell4 ha2 ha4 g1 g2 f1 f2 r1 r2
     by_cases hs:p.bikes[k].sat=q.bikes[k].sat
     ·have hs2:(p.bikes[k].sat != q.bikes[k].sat)=false:=by simp[hs]
      by_cases he:p.bikes[k].stops=q.bikes[k].stops
      ·have HD:=hid (decide_eq_true he)
       have HE:=hid (tgc7 hs he)
       clear he hs
       go_wp2
       go_quiet ((go_at_call 62;exact Calls.quiet_of (Calls.bool (eob7 ((ia7 om7).keep r1' (fun _ _=>rfl)) ((ia7 om7).keep r2' (fun _ _=>rfl))) HD.out)))
       go_wp2
       go_roundw
       case rel=>exact⟨k+1,by omega,by go_num,qh7 hlt hlt' HT.out HE.out,HA.out.drewN _⟩
       case measure=>simp[intOf];omega
      ·have HD:=hid (decide_eq_false he)
       have HE:=hid (show ¬p=q from by rintro rfl;exact he rfl)
       clear he hs
       go_wp2
       go_quiet ((go_at_call 62;exact Calls.quiet_of (Calls.bool (eob7 ((ia7 om7).keep r1' (fun _ _=>rfl)) ((ia7 om7).keep r2' (fun _ _=>rfl))) HD.out)))
       go_wp2
       go_ret
       exact⟨me7 (decide_eq_false HE.out).symm,(HA.out.drewN _).1⟩
     ·have hs2:(p.bikes[k].sat != q.bikes[k].sat)=true:=by simp[hs]
      have HE:=hid (show ¬p=q from by rintro rfl;exact hs rfl)
      clear hs
      go_wp2
      go_quiet (fail)
      go_wp2
      go_ret
      exact⟨me7 (decide_eq_false HE.out).symm,(HA.out.drewN _).1⟩
    ·have hke:k=p.bikes.length:=by omega
     subst hke
     have HT2:=hid (ek7 E2.out HT.out)
     clear hcell2 hcell4 ha2 ha4 HT
     go_wp2
     go_ret
     exact⟨me7 (decide_eq_true (show p=q from by have e1:=HT1.out;have e2:=HT2.out;cases p;cases q;simp_all)).symm,hb⟩
def tk7 (out:List Int) (s:ba7):List Int:=out.set s.sat.toNat (out.getD s.sat.toNat 0+s.load)
def qn7 (out:List Int) (t:List ba7):List Int:=t.foldl tk7 out
def uec7 (x:ca7) (l:List (List ba7)):List Int:=l.foldl qn7 (List.replicate x.sats.length 0)
theorem fx7 (out:List Int) (s:ba7):(tk7 out s).length=out.length:=by unfold tk7;simp
theorem bhb7 (l:List ba7):∀out:List Int,(l.foldl tk7 out).length=out.length:=by
 induction l with
 | nil=>intro out;rfl
 | cons c l ih=>intro out;rw[List.foldl_cons,ih,fx7]
theorem pcb7 (l:List (List ba7)):∀out:List Int,(l.foldl qn7 out).length=out.length:=by
 induction l with
 | nil=>intro out;rfl
 | cons b l ih=>intro out;rw[List.foldl_cons,ih];exact bhb7 b out
def kc7 (l:List (List ba7)) (k:Nat):Nat:=((l.take k).map List.length).sum
theorem uk7 {l:List (List ba7)}{k:Nat}(h:k<l.length):kc7 l (k+1)=kc7 l k+l[k].length:=by
 unfold kc7;rw[List.take_succ_eq_append_getElem h,List.map_append,List.sum_append];simp only[List.map_cons,List.map_nil,List.sum_cons,List.sum_nil,Nat.add_zero]
theorem tjb7 {l:List (List ba7)}{k:Nat}:kc7 l k≤kc7 l l.length:=by
 have h:l.map List.length=(l.take k).map List.length++(l.drop k).map List.length:=by rw[← List.map_append,List.take_append_drop]
 unfold kc7
 rw[List.take_length,h,List.sum_append]
 exact Nat.le_add_right _ _
def bi7 (x:ca7) (s:ba7):Prop:=(0≤s.sat∧s.sat<x.sats.length)∧1≤s.load∧s.load≤1000000000
end Go.Proofs.YtedahhjopmkbbaaGreat

namespace Go.Proofs.YtedahhjopmkbbaaGreat
open Go.RowKit
def hh7 (x:ca7) (m:Nat) (s:ba7):Bool:=decide (s.sat<0) || decide ((x.sats.length:Int)≤s.sat) || m.testBit s.sat.toNat || decide (s.load<1) || decide (1000000000<s.load)
def vp7 (x:ca7):Option (Nat×Int)→ba7→Option (Nat×Int)
 | none,_=>none
 | some (m,left),s=>if hh7 x m s then none else some (m ||| 2 ^ s.sat.toNat,left-s.load)
def ol7 (x:ca7) (t:List ba7):Option (Nat×Int):=t.foldl (vp7 x) (some (0,x.troom))
def sg7 (x:ca7):List (List ba7)→Bool→Bool→Bool×Bool
 | [],r,l=>(r,l)
 | t::ts,r,l=>match ol7 x t with
  | none=>(false,l)
  | some (_,left)=>sg7 x ts (r&&decide (0<t.length)) (l&&decide (0≤left))
def zi7 (x:ca7) (l:List (List ba7)):Bool×Bool:=sg7 x l true true
theorem vr7 (x:ca7) (l:List ba7):l.foldl (vp7 x) none=none:=by
 induction l with
 | nil=>rfl
 | cons s l ih=>exact ih
theorem sr7 {x:ca7}{m:Nat}{left:Int}{s:ba7}(h:hh7 x m s=true):vp7 x (some (m,left)) s=none:=by simp[vp7,h]
theorem iv7 {x:ca7}{m:Nat}{left:Int}{s:ba7}(h:hh7 x m s=false):vp7 x (some (m,left)) s=some (m ||| 2 ^ s.sat.toNat,left-s.load):=by simp[vp7,h]
theorem bp7 {x:ca7}{t:List ba7}{ts:List (List ba7)}{r l:Bool}(h:ol7 x t=none):sg7 x (t::ts) r l=(false,l):=by simp[sg7,h]
theorem tn7 {x:ca7}{t:List ba7}{ts:List (List ba7)}{r l:Bool}{m:Nat}{left:Int}(h:ol7 x t=some (m,left)) :
  sg7 x (t::ts) r l=sg7 x ts (r&&decide (0<t.length)) (l&&decide (0≤left)):=by simp[sg7,h]
def vdc7 (x:ca7) (c:Int):oq7:=x.custs.getD c.toNat ⟨0,0,0,0⟩
def gh7 (x:ca7) (m:Nat) (c:Int):Bool:=decide (c<0) || decide ((x.custs.length:Int)≤c) || m.testBit c.toNat
def jo7 (x:ca7):Option (Nat×Int)→Int→Option (Nat×Int)
 | none,_=>none
 | some (m,left),c=>if gh7 x m c then none else some (m ||| 2 ^ c.toNat,left-(vdc7 x c).load)
def jw7 (x:ca7) (m:Nat) (l:List Int):Option (Nat×Int):=l.foldl (jo7 x) (some (m,x.broom))
def ll7 (x:ca7) (b:ga7):Bool:=decide (b.sat<0) || decide ((x.sats.length:Int)≤b.sat) || decide (b.stops.length=0)
def gk7 (x:ca7):List ga7→Nat→Bool→Bool×Bool×Bool
 | [],m,l=>(true,decide (Lib.onesCount m=x.custs.length),l)
 | b::bs,m,l=>if ll7 x b then (false,false,l) else match jw7 x m b.stops with
  | none=>(false,false,l)
  | some (m',left)=>gk7 x bs m' (l&&decide (0≤left))
def mm7 (x:ca7) (l:List ga7):Bool×Bool×Bool:=gk7 x l 0 true
theorem ns7 (x:ca7) (l:List Int):l.foldl (jo7 x) none=none:=by
 induction l with
 | nil=>rfl
 | cons s l ih=>exact ih
theorem us7 {x:ca7}{m:Nat}{left:Int}{c:Int}(h:gh7 x m c=true):jo7 x (some (m,left)) c=none:=by simp[jo7,h]
theorem yw7 {x:ca7}{m:Nat}{left:Int}{c:Int}(h:gh7 x m c=false):jo7 x (some (m,left)) c=some (m ||| 2 ^ c.toNat,left-(vdc7 x c).load):=by simp[jo7,h]
theorem kr7 {x:ca7}{b:ga7}{bs:List ga7}{m:Nat}{l:Bool}(h:ll7 x b=true):gk7 x (b::bs) m l=(false,false,l):=by simp[gk7,h]
theorem qo7 {x:ca7}{b:ga7}{bs:List ga7}{m:Nat}{l:Bool}(h:jw7 x m b.stops=none):gk7 x (b::bs) m l=(false,false,l):=by simp[gk7,h]
theorem gy7 {x:ca7}{b:ga7}{bs:List ga7}{m m':Nat}{l:Bool}{left:Int}(h0:ll7 x b=false) (h:jw7 x m b.stops=some (m',left)) :
  gk7 x (b::bs) m l=gk7 x bs m' (l&&decide (0≤left)):=by simp[gk7,h0,h]
structure Good (x:ca7):Prop where
 tmany:1≤x.tmany∧x.tmany≤60
 bmany:1≤x.bmany∧x.bmany≤60
 sats:1≤x.sats.length∧x.sats.length≤12
 custs:1≤x.custs.length∧x.custs.length≤48
 fin:0≤x.fin∧x.fin≤1000000000
 troom:0≤x.troom∧x.troom≤1000000000
 broom:0≤x.broom∧x.broom≤1000000000
 sat:∀s∈x.sats,(0≤s.room∧s.room≤1000000000)∧0≤s.hold∧s.hold≤1000000000
 cust:∀c∈x.custs,(1≤c.load∧c.load≤1000000000)∧(0≤c.opn∧c.opn≤1000000000)∧(c.opn≤c.cls∧c.cls≤1000000000)∧0≤c.stay∧c.stay≤1000000000
 costL:x.cost.length=nodes x
 timeL:x.time.length=nodes x
 costR:∀r∈x.cost,r.length=nodes x
 timeR:∀r∈x.time,r.length=nodes x
 cost:∀r∈x.cost,∀v∈r,0≤v∧v≤1000000000
 time:∀r∈x.time,∀v∈r,0≤v∧v≤1000000000
theorem jh7 {n l:Int}(h:ijb7 n l=true):l≤n∧n≤1000000000:=by simpa[ijb7]using h
theorem fy7 {l:List (List Int)}{n:Nat}(h:is7 l (n:Int)=true):l.length=n∧∀r∈l,r.length=n:=by
 simp only[is7,Bool.and_eq_true,beq_iff_eq,Bool.not_eq_true',List.any_eq_false,bne_iff_ne,ne_eq,Decidable.not_not]at h
 exact⟨by omega,fun r hr=>by have:=h.2 r hr;omega⟩
theorem rob7 {l:List (List Int)}(h:kkc7 l l.length=true):∀r∈l,∀v∈r,0≤v∧v≤1000000000:=by
 intro r hr v hv
 obtain⟨i,hi,rfl⟩:=List.getElem_of_mem hr
 obtain⟨j,hj,rfl⟩:=List.getElem_of_mem hv
 simp only[kkc7,List.all_eq_true,List.mem_range]at h
 have h1:=h i hi
 rw[List.getD_eq_getElem?_getD,List.getElem?_eq_getElem hi]at h1
 simp only[wkc7,Option.getD_some,List.all_eq_true,List.mem_range]at h1
 have h2:=h1 j hj
 rw[List.getD_eq_getElem?_getD,List.getElem?_eq_getElem hj]at h2
 simp only[hjc7,Bool.and_eq_true]at h2
 exact jh7 h2.1
theorem rl7 {x:ca7}(h:check x=0):Good x:=by
 unfold check at h
 split at h
 case isFalse=>cases h
 rename_i hc
 split at h
 case isFalse=>cases h
 rename_i hs
 split at h
 case isFalse=>cases h
 rename_i hn
 simp only[countB,manyB,Bool.and_eq_true,decide_eq_true_eq]at hc
 simp only[zzb7,Bool.and_eq_true]at hs
 simp only[vu7,vrb7,Bool.and_eq_true,List.all_eq_true]at hn
 obtain⟨⟨⟨⟨⟨⟨n0,n1⟩,n2⟩,n3⟩,n4⟩,n5⟩,n6⟩:=hn
 have s1:=fy7 hs.1
 have s2:=fy7 hs.2
 exact {
     tmany:=by omega,bmany:=by omega,sats:=by omega,custs:=by omega,fin:=jh7 n0,troom:=jh7 n1,broom:=jh7 n2,
     sat:=fun s hs'=>by have:=n3 s hs';simp only[atc7,Bool.and_eq_true]at this;exact⟨jh7 this.1,jh7 this.2⟩,
     cust:=fun c hc'=>by have:=n4 c hc';simp only[pic7,Bool.and_eq_true]at this;exact⟨jh7 this.1.1.1,jh7 this.1.1.2,jh7 this.1.2,jh7 this.2⟩,
     costL:=s1.1,timeL:=s2.1,costR:=s1.2,timeR:=s2.2,cost:=rob7 n5,time:=rob7 n6 }
theorem zbb7 {x:ca7}{m:Nat}{s:ba7}(h:hh7 x m s=false):bi7 x s:=by
 simp only[hh7,Bool.or_eq_false_iff,decide_eq_false_iff_not]at h
 unfold bi7;omega
theorem nab7 {x:ca7}:∀(l:List ba7) (m:Nat) (left:Int) (r:Nat×Int),l.foldl (vp7 x) (some (m,left))=some r→∀s∈l,bi7 x s
 | [],_,_,_,_,s,hs=>by cases hs
 | a::l,m,left,r,h,s,hs=>by
  rw[List.foldl_cons]at h
  cases hb:hh7 x m a
  ·rw[iv7 hb]at h
   rcases List.mem_cons.1 hs with rfl | hs
   ·exact zbb7 hb
   ·exact nab7 l _ _ r h s hs
  ·rw[sr7 hb,vr7]at h;cases h
theorem it7 {x:ca7}:∀(l:List (List ba7)) (r d:Bool),(sg7 x l r d).1=true→r=true∧∀t∈l,0<t.length∧∀s∈t,bi7 x s
 | [],r,d,h=>⟨h,fun _ h=>by cases h⟩
 | a::l,r,d,h=>by
  cases ha:ol7 x a with
  | none=>rw[bp7 ha]at h;cases h
  | some q =>
   obtain⟨m,left⟩:=q
   rw[tn7 ha]at h
   obtain⟨h1,h2⟩:=it7 l _ _ h
   simp only[Bool.and_eq_true,decide_eq_true_eq]at h1
   refine⟨h1.1,fun t ht=>?_⟩
   rcases List.mem_cons.1 ht with rfl | ht
   ·exact⟨h1.2,nab7 t _ _ _ ha⟩
   ·exact h2 t ht
theorem aqb7 {x:ca7}{l:List (List ba7)}(h:(zi7 x l).1=true):∀t∈l,0<t.length∧∀s∈t,bi7 x s:=(it7 l true true h).2
theorem nub7:∀(l:List Nat) (a:Nat),a∈l→a≤l.sum
 | b::l,a,h=>by
  rw[List.sum_cons]
  rcases List.mem_cons.1 h with rfl | h
  ·omega
  ·have:=nub7 l a h;omega
theorem sjb7 {l:List ga7}{b:ga7}(h:b∈l):b.stops.length≤ic7 l l.length:=by
 unfold ic7;rw[List.take_length];exact nub7 _ _ (List.mem_map_of_mem h)
theorem zeb7 {l:List (List ba7)}{t:List ba7}(h:t∈l):t.length≤kc7 l l.length:=by
 unfold kc7;rw[List.take_length];exact nub7 _ _ (List.mem_map_of_mem h)
def rt7 (x:ca7) (l:List Int) (k:Nat):Bool:=(List.range k).any fun i=>decide ((x.sats.getD i ⟨0,0⟩).room<l.getD i 0)
theorem vqb7 (x:ca7) (l:List Int) (k:Nat):rt7 x l (k+1)=(rt7 x l k || decide ((x.sats.getD k ⟨0,0⟩).room<l.getD k 0)):=by
 unfold rt7;rw[List.range_succ,List.any_append];simp
def fb7 (x:ca7) (p:ua7):Int :=
 if check x≠0 then check x else
 if x.tmany<p.trucks.length∨x.bmany<p.bikes.length then 11 else
 if (zi7 x p.trucks).1=false∨(mm7 x p.bikes).1=false then 15 else
 if (mm7 x p.bikes).2.1=false then 8 else
 if (zi7 x p.trucks).2=false∨(mm7 x p.bikes).2.2=false then 10 else
 if rt7 x (fvb7 x p.bikes) x.sats.length=true then 10 else
 if fvb7 x p.bikes=uec7 x p.trucks then 0 else 13
def wx7 (p:ua7):Prop:=ic7 p.bikes p.bikes.length≤1000000∧kc7 p.trucks p.trucks.length≤1000000
theorem ygb7 {l:List Int}{n:Nat}(h:ah7 l n) (hn:n≤1000000):∀v∈l,oa7 v:=fun v hv=>by have:=h v hv;unfold oa7;omega
end Go.Proofs.YtedahhjopmkbbaaGreat

namespace Go.Proofs.YtedahhjopmkbbaaGreat
open Go.RowKit
theorem lmc7 {α β:Type}(f:α→β):∀xs:List α,xs.flatMap (fun x=>[f x])=xs.map f
 | []=>rfl
 | x::xs=>by rw[List.flatMap_cons,List.map_cons,lmc7 f xs];rfl
theorem hpb7 {α:Type}{S:Shape α}{h0:0<S.sz}{w:World}{B:Nat}{T:TypeId}{v:Value}{xs:List α}(enc:α→List Value) (hl:∀x,(enc x).length=S.sz) (hs:∀x∈xs,S.rep w (fun b=>B≤b) x (enc x))
  (h:w.ownsRow B T S.sz v xs.length (xs.flatMap enc)):(ia7 S h0).rep w (fun b=>B≤b) xs [v]:=by
 obtain⟨h1,h2⟩:=h
 rcases h2 with ⟨rfl,hn⟩ | ⟨g,cap,cur,rfl,hg,hh,hn1,hc,hsz,ht⟩
 ·have:xs=[]:=List.eq_nil_of_length_eq_zero hn
  subst this
  exact⟨none,0,0,0,rfl,Nat.le_refl _,Nat.zero_le _,fun h=>absurd h (Nat.not_lt_zero _),fun i h=>absurd h (Nat.not_lt_zero _)⟩
 ·have hR:Row w g T (xs.flatMap enc):=⟨cur,cur.toList.drop (xs.length*S.sz),hh,by rw[← ht,List.take_append_drop]⟩
  refine⟨some ⟨g,0,none⟩,g,0,cap,rfl,hn1,hc,fun _=>⟨rfl,hg⟩,fun i hi=>⟨enc xs[i],hs _ (List.getElem_mem hi),fun j hj=>?_⟩⟩
  have e:=xk7 enc S.sz hl xs i j hi hj
  have hj':j<(enc xs[i]).length:=by rw[hl];exact hj
  rw[List.getElem?_eq_getElem hj']at e ⊢
  rw[Nat.zero_add]
  exact hR.get e
theorem zu7 {w:World}{B:Nat}{T:TypeId}{v:Value}{xs:List Int}(h:w.ownsRow B T 1 v xs.length (xs.map jc7)) (hw:∀x∈xs,oa7 x):(ia7 om7).rep w (fun b=>B≤b) xs [v] :=
 hpb7 (S:=om7) (fun x=>[jc7 x]) (fun _=>rfl) (fun x hx=>⟨rfl,hw x hx⟩) (by rw[lmc7];exact h)
theorem Row.grown {w w':World}{g:Nat}{e:TypeId}{cs:List Value}{B T n k:Nat}{v:Value}{xs:List Value}(h:Row w g e cs) (hown:w.ownsRow B T k v n xs) (he:e≠T) (hg:w.grownBy w' v.ownBlock):Row w' g e cs :=
 h.keep (hg.block g h.lt fun e=>by obtain⟨cs',hc'⟩:=bg7 hown e.symm;exact h.ne hc' he rfl)
theorem td7 {B B' T n k:Nat}{a w w':World}{v:Value}{xs:List Value}(h:Below B a w) (hown:w.ownsRow B' T k v n xs) (hB:B≤w.heap.size) (hB':B≤B') (hg:w.grownBy w' v.ownBlock):Below B a w' :=
 h.grown hg hB fun k hk=>Nat.le_trans hB' (hown.lt k hk).1
theorem lbb7:(Tryz.prog.info? 3).map (fun i=>(i.zero,i.size,i.bytes))=some (some (.int .i64 0),1,8):=by kernel_rfl
theorem deb7 {α:Type}{S:Shape α}{h0:0<S.sz}{w:World}{F:Nat→Prop}{xs:List α}{g c:Nat}{T:TypeId}(vs:List (List Value)) (hl:vs.length=xs.length) (hv:∀v∈vs,v.length=S.sz)
  (hr:∀i (h:i<xs.length) (h':i<vs.length),S.rep w F xs[i] vs[i]) (h:Row w g T vs.flatten) (hc:xs.length≤c) (hm:c≤maxLen) (hF:F g):(ia7 S h0).rep w F xs [.slice (some ⟨g,0,none⟩) xs.length c]:=by
 refine⟨some ⟨g,0,none⟩,g,0,c,rfl,hc,hm,fun _=>⟨rfl,hF⟩,fun i hi=>⟨vs[i]'(by omega),hr i hi (by omega),fun j hj=>?_⟩⟩
 have hget:∀(l:List (List Value)) (i:Nat) (hi:i<l.length),(∀v∈l,v.length=S.sz)→l.flatten[i*S.sz+j]? = (l[i])[j]? := by
  intro l
  induction l with
  | nil=>intro i hi;simp at hi
  | cons a l ih =>
   intro i hi hl
   have ha:=hl a (List.mem_cons_self ..)
   rw[List.flatten_cons]
   cases i with
   | zero=>rw[Nat.zero_mul,Nat.zero_add,List.getElem?_append_left (by rw[ha];exact hj)];rfl
   | succ i =>
    rw[List.getElem?_append_right (by rw[ha,Nat.succ_mul];omega),ha,show (i+1)*S.sz+j-S.sz=i*S.sz+j by rw[Nat.succ_mul];omega]
    exact ih i (by simpa using hi) fun v hv=>hl v (List.mem_cons_of_mem _ hv)
 have e:=hget vs i (by omega) hv
 have hj':j<(vs[i]'(by omega)).length:=by rw[hv _ (List.getElem_mem _)];exact hj
 rw[List.getElem?_eq_getElem hj']at e ⊢
 rw[Nat.zero_add]
 exact h.get e
theorem Row.setApart {w:World}{g g':Nat}{e e':TypeId}{cs cs':List Value}(h:Row w g e cs) (h':Row w g' e' cs') (he:e≠e') (j:Nat) (u:Value):Row (w.setCell ⟨g',j,none⟩ u) g e cs:=h.setOther (a:=⟨g',j,none⟩) (h.ne h' he) u
theorem ub7.set {TR TI B:Nat}{w:World}{v:Value}{rows:List (List Int)}{g:Nat}{rs:List Nat}(h:ub7 w B TR TI v rows g rs) (hne:TR≠TI) {i j:Nat}(hi:i<rows.length) (hi':i<rs.length) (hj:j<rows[i].length) (u:Int) :
  ub7 (w.setCell ⟨rs[i],j,none⟩ (jc7 u)) B TR TI v (rows.set i (rows[i].set j u)) g rs:=by
 obtain⟨c,k0,k1,k2,k3,k4,k5,k6,k7,k8⟩:=h
 have hz:List.zipWith asb7 rs (rows.set i (rows[i].set j u))=List.zipWith asb7 rs rows:=by
  apply List.ext_getElem
  ·simp
  ·intro n h1 h2
   simp only[List.getElem_zipWith,List.getElem_set]
   split
   ·rename_i e;subst e;unfold asb7;simp
   ·rfl
 refine⟨c,by rw[k0];simp,by simpa using k1,k2,k3, ?_,by simpa using k5,fun n h1 h2=>?_,k7,k8⟩
 ·rw[hz]
  exact k4.setApart (k6 i hi' hi) hne _ _
 ·simp only[List.getElem_set]
  split
  ·rename_i e;subst e
   have:=(k6 i hi' hi).set (j:=j) (by rw[List.length_map];exact hj) (jc7 u)
   rwa [← List.map_set]at this
  ·rename_i e
   have hn:n<rows.length:=by simpa using h2
   refine (k6 n h1 hn).setOther (fun e2=>e ?_) _
   exact ((List.getElem_inj k7).1 e2).symm
theorem ub7.keepAll {w w':World}{B TR TI:Nat}{v:Value}{rows:List (List Int)}{g:Nat}{rs:List Nat}(h:ub7 w B TR TI v rows g rs) (h1:w'.heap[g]? = w.heap[g]?) (h2:∀b∈rs,w'.heap[b]? = w.heap[b]?):ub7 w' B TR TI v rows g rs:=by
 obtain⟨c,k0,k1,k2,k3,k4,k5,k6,k7,k8⟩:=h
 exact⟨c,k0,k1,k2,k3,k4.keep h1,k5,fun i h h'=>(k6 i h h').keep (h2 _ (List.getElem_mem h)),k7,k8⟩
theorem ub7.open {TR TI B:Nat}{w:World}{v:Value}{rows:List (List Int)}{g:Nat}{rs:List Nat}(h:ub7 w B TR TI v rows g rs):∃c,v = .slice (some ⟨g,0,none⟩) rows.length c∧rs.length=rows.length ∧
  (∀i (h:i<rows.length) (h':i<rs.length),w.cell? ⟨g,i,none⟩=some (.slice (some ⟨rs[i],0,none⟩) rows[i].length rows[i].length)) ∧
  (∀i (h:i<rows.length) (h':i<rs.length),Row w rs[i] TI (rows[i].map jc7)∧B≤rs[i]):=by
 obtain⟨c,k0,k1,k2,k3,k4,k5,k6,k7,k8⟩:=h
 refine⟨c,k0,k5,fun i h h'=>?_,fun i h h'=>⟨k6 i h' h,k8 _ (List.getElem_mem h')⟩⟩
 have:=k4.get (j:=i) (v:=asb7 rs[i] rows[i]) (by rw[List.getElem?_zipWith,List.getElem?_eq_getElem h',List.getElem?_eq_getElem h])
 exact this
structure fq7 (TS TC TR TI:Nat) (w:World) (B:Nat) (x:ca7) (cs:List Value) (gs cs1 gc cc1 gco cco:Nat) (rco:List Nat) (gti cti:Nat) (rti:List Nat):Prop where
 lit:cs=[.int .i64 x.fin,.int .i64 x.tmany,.int .i64 x.troom,.int .i64 x.bmany,.int .i64 x.broom,.slice (some ⟨gs,0,none⟩) x.sats.length cs1,.slice (some ⟨gc,0,none⟩) x.custs.length cc1,.slice (some ⟨gco,0,none⟩) x.cost.length cco,.slice (some ⟨gti,0,none⟩) x.time.length cti]
 caps:x.sats.length≤cs1∧cs1≤maxLen∧x.custs.length≤cc1∧cc1≤maxLen
 leS:B≤gs
 leC:B≤gc
 sats:Row w gs TS (x.sats.flatMap tlb7)
 custs:Row w gc TC (x.custs.flatMap xt7)
 costs:ub7 w B TR TI (.slice (some ⟨gco,0,none⟩) x.cost.length cco) x.cost gco rco
 times:ub7 w B TR TI (.slice (some ⟨gti,0,none⟩) x.time.length cti) x.time gti rti
 apart:gco≠gti
 apart2:∀a∈rco,∀b∈rti,a≠b
section
variable {TS TC TR TI B gs cs1 gc cc1 gco cco gti cti:Nat} {w:World} {x:ca7} {cs:List Value} {rco rti:List Nat}
theorem xe7.at (h:xe7 TS TC TR TI w B x cs):∃gs cs1 gc cc1 gco cco rco gti cti rti,fq7 TS TC TR TI w B x cs gs cs1 gc cc1 gco cco rco gti cti rti:=by
 obtain⟨gs,cs1,gc,cc1,vco,vti,gco,rco,gti,rti,k0,k1,k2,k3,k4,k5,k6,k7,k8,k9⟩:=h
 obtain⟨c,hv,-⟩:=k6.open
 obtain⟨c',hv',-⟩:=k7.open
 subst hv;subst hv'
 exact⟨gs,cs1,gc,cc1,gco,c,rco,gti,c',rti,k0,k1,k2,k3,k4,k5,k6,k7,k8,k9⟩
theorem fq7.own (h:fq7 TS TC TR TI w B x cs gs cs1 gc cc1 gco cco rco gti cti rti):xe7 TS TC TR TI w B x cs :=
 ⟨gs,cs1,gc,cc1,_,_,gco,rco,gti,rti,h.lit,h.caps,h.leS,h.leC,h.sats,h.custs,h.costs,h.times,h.apart,h.apart2⟩
theorem fq7.drew (h:fq7 TS TC TR TI w B x cs gs cs1 gc cc1 gco cco rco gti cti rti):fq7 TS TC TR TI w.drew B x cs gs cs1 gc cc1 gco cco rco gti cti rti:=⟨h.lit,h.caps,h.leS,h.leC,h.sats.drew,h.custs.drew,h.costs.keepAll rfl fun _ _=>rfl,h.times.keepAll rfl fun _ _=>rfl,h.apart,h.apart2⟩
theorem fq7.below {w':World}(h:fq7 TS TC TR TI w B x cs gs cs1 gc cc1 gco cco rco gti cti rti) (hb:Below w.heap.size w w'):fq7 TS TC TR TI w' B x cs gs cs1 gc cc1 gco cco rco gti cti rti :=
 ⟨h.lit,h.caps,h.leS,h.leC,h.sats.below hb,h.custs.below hb,h.costs.below hb,h.times.below hb,h.apart,h.apart2⟩
theorem ub7.row {TR TI B:Nat}{w:World}{v:Value}{rows:List (List Int)}{g:Nat}{rs:List Nat}(h:ub7 w B TR TI v rows g rs) {i:Nat}(hi:i<rows.length) :
  w.cell? ⟨g,i,none⟩=some (.slice (some ⟨rs.getD i 0,0,none⟩) (rows.getD i []).length (rows.getD i []).length)∧Row w (rs.getD i 0) TI ((rows.getD i []).map jc7)∧B≤rs.getD i 0∧rs.getD i 0∈rs:=by
 obtain⟨c,hv,hrl,hg,hr⟩:=h.open
 have hi':i<rs.length:=by omega
 have e1:rows.getD i []=rows[i]:=by rw[List.getD_eq_getElem?_getD,List.getElem?_eq_getElem hi];rfl
 have e2:rs.getD i 0=rs[i]:=by rw[List.getD_eq_getElem?_getD,List.getElem?_eq_getElem hi'];rfl
 rw[e1,e2]
 exact⟨hg i hi hi',(hr i hi hi').1,(hr i hi hi').2,List.getElem_mem _⟩
theorem ub7.apart {TR TI B:Nat}{w:World}{v:Value}{rows:List (List Int)}{g:Nat}{rs:List Nat}(h:ub7 w B TR TI v rows g rs) {i i':Nat}(hi:i<rows.length) (hi':i'<rows.length) (hne:i≠i'):rs.getD i 0≠rs.getD i' 0:=by
 obtain⟨c,k0,k1,k2,k3,k4,k5,k6,k7,k8⟩:=h
 rw[List.getD_eq_getElem?_getD,List.getD_eq_getElem?_getD,List.getElem?_eq_getElem (by omega),List.getElem?_eq_getElem (by omega)]
 intro e
 exact hne ((List.getElem_inj k7).1 e)
end
def sb7 (row:Option Nat) (W w':World):Prop:=W.heap.size≤w'.heap.size∧∀b,b<W.heap.size→some b≠row→w'.heap[b]? = W.heap[b]?
instance (row:Option Nat) (W:World):Nonempty (At (sb7 row W)):=⟨⟨W,Nat.le_refl _,fun _ _ _=>rfl⟩⟩
theorem sb7.cell {row:Option Nat}{W w':World}(h:sb7 row W w') {a:Addr}{v:Value}(hc:W.cell? a=some v) (hne:some a.block≠row):w'.cell? a=some v:=by
 rw[World.cell?_of_block (h.2 _ (hdb7 hc) hne)];exact hc
theorem sb7.refl (row:Option Nat) (W:World):sb7 row W W:=⟨Nat.le_refl _,fun _ _ _=>rfl⟩
theorem sb7.drew {row:Option Nat}{W w':World}(h:sb7 row W w'):sb7 row W w'.drew:=h
theorem sb7.below {row:Option Nat}{W w1 w2:World}(h:sb7 row W w1) (hb:Below w1.heap.size w1 w2):sb7 row W w2:=⟨Nat.le_trans h.1 hb.size,fun b hb' hne=>(hb.block b (Nat.lt_of_lt_of_le hb' h.1)).trans (h.2 b hb' hne)⟩
theorem sb7.grown {row:Option Nat}{W w1 w2:World}(h:sb7 row W w1) (hg:w1.grownBy w2 row):sb7 row W w2:=⟨Nat.le_trans h.1 hg.size,fun b hb' hne=>(hg.block b (Nat.lt_of_lt_of_le hb' h.1) hne).trans (h.2 b hb' hne)⟩
theorem mpb7 {w:World}{B T n k b:Nat}{v:Value}{xs:List Value}(h:w.ownsRow B T k v n xs) (hb:b<B):some b≠v.ownBlock:=fun e=>by have:=(h.lt b e.symm).1;omega
theorem xc7 {w:World}{B T n k g:Nat}{v:Value}{xs:List Value}{e:TypeId}{cs:List Value}(h:w.ownsRow B T k v n xs) (hr:Row w g e cs) (he:e≠T):some g≠v.ownBlock:=fun e'=>by obtain⟨cs',hc'⟩:=bg7 h e'.symm;exact hr.ne hc' he rfl
theorem qi7 (w:World) (a:Addr) (u:Value):w.grownBy (w.setCell a u) (some a.block):=⟨rfl,rfl,rfl,by simp[World.setCell],fun k _ hk=>Below.heap_setCell _ _ _ _ (fun e=>hk (by rw[e]))⟩
theorem md7 {w:World}{B T n k g:Nat}{v:Value}{xs:List Value}{e:TypeId}{cs:List Value}(h:w.ownsRow B T k v n xs) (hr:Row w g e cs) (he:e≠T) (j:Nat) (u:Value):(w.setCell ⟨g,j,none⟩ u).ownsRow B T k v n xs :=
 h.kept (qi7 w ⟨g,j,none⟩ u) (.inr fun e'=>xc7 h hr he e'.symm)
theorem ndb7 {α:Type}(S:Shape α) {h0:0<S.sz}(w:World) (F:Nat→Prop):(ia7 S h0).rep w F [] [.slice none 0 0] :=
 ⟨none,0,0,0,rfl,Nat.le_refl _,Nat.zero_le _,fun h=>absurd h (Nat.not_lt_zero _),fun i h=>absurd h (Nat.not_lt_zero _)⟩
abbrev dm7:=Int×Int
def leI (a b:dm7):Prop:=a.1<b.1∨a.1=b.1∧a.2≤b.2
structure irb7 where
 frm:Nat
 dst:Nat
 wt:Int
 deriving DecidableEq
structure bb7 where
 n:Nat
 arcs:List irb7
 deriving DecidableEq
def na7 (g:bb7) (k:Nat):irb7:=g.arcs.getD k ⟨0,0,0⟩
def jrb7 (g:bb7) (i k:Nat):List Nat:=(List.range k).filter fun j=>(na7 g j).frm==i
structure GIn (g:bb7):Prop where
 n:g.n≤1000
 len:g.arcs.length≤20000
 arc:∀a∈g.arcs,a.frm<g.n∧a.dst<g.n∧0≤a.wt∧a.wt≤1099511627776
theorem GIn.at {g:bb7}(h:GIn g) {k:Nat}(hk:k<g.arcs.length):(na7 g k).frm<g.n∧(na7 g k).dst<g.n∧0≤(na7 g k).wt∧(na7 g k).wt≤1099511627776:=by
 unfold na7
 rw[List.getD_eq_getElem?_getD,List.getElem?_eq_getElem hk]
 exact h.arc _ (List.getElem_mem hk)
def farI:Int:=1152921504606846976
def fAt (l:List Int) (i:Nat):Int:=l.getD i 0
theorem sic7 {l:List Int}{i:Nat}(hi:i<l.length) (v:Int) (x:Nat):fAt (l.set i v) x=if x=i then v else fAt l x:=by
 unfold fAt
 by_cases h:x=i
 ·subst h;simp[List.getD_eq_getElem?_getD,hi]
 ·simp[List.getD_eq_getElem?_getD,h,Ne.symm h]
inductive hlc7 (g:bb7) (src:Nat):Nat→Int→Prop
 | here:hlc7 g src src 0
 | step {i k:Nat} {c:Int} (h:hlc7 g src i c) (hk:k<g.arcs.length) (hf:(na7 g k).frm=i):hlc7 g src (na7 g k).dst (c+(na7 g k).wt)
structure Dij (g:bb7) (src:Nat) (far:List Int) (D:List Bool) (its:List dm7) (x:Nat) (key:Int) (rest:List Nat):Prop where
 len:far.length=g.n
 dlen:D.length=g.n
 srcn:src<g.n
 src0:fAt far src=0
 bnd:∀i,i<g.n→0≤fAt far i∧fAt far i≤farI
 ach:∀i,i<g.n→fAt far i<farI→hlc7 g src i (fAt far i)
 items:∀t∈its,∃i,i<g.n∧t.2=(i:Int)∧fAt far i≤t.1∧t.1<farI
 opn:∀i,i<g.n→D.getD i false=false→fAt far i<farI→(fAt far i,(i:Int))∈its
 key0:0≤key
 low:∀i,i<g.n→D.getD i false=true→fAt far i≤key∧fAt far i<farI
 keyle:∀t∈its,key≤t.1
 rel:∀k,k<g.arcs.length→D.getD (na7 g k).frm false=true→k∈rest∨fAt far (na7 g k).dst≤fAt far (na7 g k).frm+(na7 g k).wt
 rst:∀k∈rest,k<g.arcs.length∧(na7 g k).frm=x
 cur:rest≠[]→x<g.n∧D.getD x false=true∧fAt far x=key
theorem Dij.start {g:bb7}{src:Nat}(h:src<g.n):Dij g src ((List.replicate g.n farI).set src 0) (List.replicate g.n false) [(0,(src:Int))] 0 0 []:=by
 have hf:∀i,i<g.n→fAt ((List.replicate g.n farI).set src 0) i=if i=src then 0 else farI:=fun i hi=>by
  rw[sic7 (by simpa using h)]
  split
  ·rfl
  ·simp[fAt,List.getD_eq_getElem?_getD,List.getElem?_replicate,hi]
 have hd:∀i,(List.replicate g.n false).getD i false=false:=fun i=>by
  simp only[List.getD_eq_getElem?_getD,List.getElem?_replicate]
  split <;> rfl
 refine⟨by simp,by simp,h,by rw[hf _ h,if_pos rfl],fun i hi=>?_,fun i hi hlt=>?_,fun t ht=>?_,fun i hi _ hlt=>?_,Int.le_refl _,fun i _ hD=>?_,fun t ht=>?_,fun k _ hD=>?_,fun k hk=>by simp at hk,fun h=>absurd rfl h⟩
 ·rw[hf i hi];unfold farI;split <;> omega
 ·rw[hf i hi]at hlt ⊢
  split at hlt
  ·rename_i e;subst e;rw[if_pos rfl];exact .here
  ·exact absurd hlt (by omega)
 ·obtain rfl:=List.mem_singleton.1 ht
  exact⟨src,h,rfl,by rw[hf _ h,if_pos rfl];exact Int.le_refl _,by show (0:Int)<farI;unfold farI;decide⟩
 ·rw[hf i hi]at hlt ⊢
  split at hlt
  ·rename_i e;subst e;rw[if_pos rfl];exact List.mem_singleton.2 rfl
  ·exact absurd hlt (by omega)
 ·rw[hd]at hD;cases hD
 ·obtain rfl:=List.mem_singleton.1 ht;exact Int.le_refl _
 ·rw[hd]at hD;cases hD
theorem Dij.skip {g:bb7}{src:Nat}{far:List Int}{D:List Bool}{its its':List dm7}{t:dm7}{x:Nat}{key:Int}(h:Dij g src far D its x key []) (hp:(t::its').Perm its) {i:Nat}(hi:t.2=(i:Int)) (hD:D.getD i false=true):Dij g src far D its' x key []:=by
 refine⟨h.len,h.dlen,h.srcn,h.src0,h.bnd,h.ach,fun s hs=>h.items s (hp.subset (List.mem_cons_of_mem _ hs)),fun j hj h1 h2=>?_,h.key0,h.low,fun s hs=>h.keyle s (hp.subset (List.mem_cons_of_mem _ hs)),h.rel,h.rst,h.cur⟩
 have:=hp.symm.subset (h.opn j hj h1 h2)
 rcases List.mem_cons.1 this with e | e
 ·rw[← e]at hi
  have:j=i:=by have:(j:Int)=(i:Int):=hi;exact_mod_cast this
  rw[this,hD]at h1;cases h1
 ·exact e
theorem Dij.take {g:bb7}{src:Nat}{far:List Int}{D:List Bool}{its its':List dm7}{t:dm7}{x:Nat}{key:Int}(h:Dij g src far D its x key []) (hp:(t::its').Perm its) (hm:∀s∈its,leI t s) {i:Nat}(hi:t.2=(i:Int)) (hn:i<g.n) (hD:D.getD i false=false) :
  Dij g src far (D.set i true) its' i t.1 (jrb7 g i g.arcs.length)∧fAt far i=t.1:=by
 have htm:t∈its:=hp.subset (List.mem_cons_self ..)
 obtain⟨j,hj,hj2,hj3,hj4⟩:=h.items t htm
 obtain rfl:j=i:=by rw[hi]at hj2;exact_mod_cast hj2.symm
 have hle:=hm _ (h.opn j hj hD (by omega))
 have hk:fAt far j=t.1:=by unfold leI at hle;simp only at hle;omega
 have hkey:=h.keyle t htm
 have hset:∀a,(D.set j true).getD a false=if a=j then true else D.getD a false:=fun a=>by
  by_cases e:a=j
  ·subst e;simp[List.getD_eq_getElem?_getD,h.dlen,hn]
  ·simp[List.getD_eq_getElem?_getD,e,Ne.symm e]
 refine⟨⟨h.len,by simpa using h.dlen,h.srcn,h.src0,h.bnd,h.ach,fun s hs=>h.items s (hp.subset (List.mem_cons_of_mem _ hs)),fun a ha h1 h2=>?_,Int.le_trans h.key0 hkey,fun a ha h1=>?_,fun s hs=>?_,fun k hk2 h1=>?_,fun k hk2=>?_,fun _=>⟨hn,by rw[hset,if_pos rfl],hk⟩⟩,hk⟩
 ·rw[hset]at h1
  split at h1
  ·cases h1
  ·rename_i e
   have:=hp.symm.subset (h.opn a ha h1 h2)
   rcases List.mem_cons.1 this with e2 | e2
   ·rw[← e2]at hi
    exact absurd (by have:(a:Int)=(j:Int):=hi;exact_mod_cast this) e
   ·exact e2
 ·rw[hset]at h1
  split at h1
  ·rename_i e;subst e;omega
  ·have:=h.low a ha h1;omega
 ·have:=hm s (hp.subset (List.mem_cons_of_mem _ hs))
  unfold leI at this;omega
 ·rw[hset]at h1
  split at h1
  ·rename_i e
   exact .inl (List.mem_filter.2 ⟨List.mem_range.2 hk2,by simp[e]⟩)
  ·rcases h.rel k hk2 h1 with h2 | h2
   ·simp at h2
   ·exact .inr h2
 ·obtain⟨h1,h2⟩:=List.mem_filter.1 hk2
  exact⟨List.mem_range.1 h1,by simpa using h2⟩
structure pmc7 (g:bb7) (src:Nat) (far:List Int):Prop where
 len:far.length=g.n
 src0:fAt far src=0
 bnd:∀i,i<g.n→0≤fAt far i∧fAt far i≤farI
 ach:∀i,i<g.n→fAt far i<farI→hlc7 g src i (fAt far i)
 rel:∀k,k<g.arcs.length→fAt far (na7 g k).frm<farI→fAt far (na7 g k).dst≤fAt far (na7 g k).frm+(na7 g k).wt
theorem Dij.done {g:bb7}(hg:GIn g) {src:Nat}{far:List Int}{D:List Bool}{x:Nat}{key:Int}(h:Dij g src far D [] x key []):pmc7 g src far :=
 ⟨h.len,h.src0,h.bnd,h.ach,fun k hk hlt=>by
  have h1:=hg.at hk
  cases e:D.getD (na7 g k).frm false with
  | false=>exact absurd (h.opn _ h1.1 e hlt) (by simp)
  | true =>
   rcases h.rel k hk e with h2 | h2
   ·simp at h2
   ·exact h2⟩
def rxc7 (s:irb7):List Value:=[.int .i64 s.frm,.int .i64 s.dst,.int .i64 s.wt]
structure kxb7 (g:bb7):Prop where
 n:g.n≤1000
 len:g.arcs.length≤20000
 arc:∀a∈g.arcs,a.frm<a.dst∧a.dst<g.n∧0≤a.wt∧a.wt≤1099511627776
theorem kxb7.in {g:bb7}(h:kxb7 g):GIn g:=⟨h.n,h.len,fun a ha=>by have:=h.arc a ha;exact⟨by omega,this.2.1,this.2.2.1,this.2.2.2⟩⟩
def fpc7 (k:Nat):Value:=.int .i64 (k:Int)
theorem mh7 {g:bb7}{k:Nat}(h:k<g.arcs.length):na7 g k=g.arcs[k]:=by
 unfold na7;rw[List.getD_eq_getElem?_getD,List.getElem?_eq_getElem h];rfl
def cb7 (out:List (List ba7)) (s:ba7):List (List ba7):=out.set (out.length-1) (out.getD (out.length-1) []++[s])
def stopV (s:ba7):List Value:=[.int .i64 s.sat,.int .i64 s.load]
theorem dq7 (l:List ba7):(l.flatMap stopV).length=l.length*2:=by
 induction l with
 | nil=>rfl
 | cons a l ih=>rw[List.flatMap_cons,List.length_append,ih,List.length_cons];show 2+_=_;omega
structure xh7 (TT TS:Nat) (w:World) (B:Nat) (v:Value) (out:List (List ba7)) (vs:List Value):Prop where
 own:w.ownsRow B TT 1 v out.length vs
 len:vs.length=out.length
 rows:∀i (h:i<out.length) (h':i<vs.length),w.ownsRow B TS 2 vs[i] out[i].length (out[i].flatMap stopV)
 apart:∀i j (hi:i<vs.length) (hj:j<vs.length),i≠j→vs[i].ownBlock=none∨vs[i].ownBlock≠vs[j].ownBlock
theorem xh7.nil (TT TS:Nat) (w:World) (B:Nat):xh7 TT TS w B (.slice none 0 0) [] [] :=
 ⟨World.ownsRow_nil _ _ _ _,rfl,fun _ h=>absurd h (Nat.not_lt_zero _),fun _ _ h=>absurd h (Nat.not_lt_zero _)⟩
theorem xh7.below {TT TS:Nat}{w w':World}{B:Nat}{v:Value}{out:List (List ba7)}{vs:List Value}(h:xh7 TT TS w B v out vs) (hb:Below w.heap.size w w'):xh7 TT TS w' B v out vs :=
 ⟨rb7 h.own hb,h.len,fun i h1 h2=>rb7 (h.rows i h1 h2) hb,h.apart⟩
theorem xa7 {w:World}{B B' T T' n n' k k':Nat}{v v':Value}{xs xs':List Value}(h:w.ownsRow B T k v n xs) (h':w.ownsRow B' T' k' v' n' xs') (hne:T≠T'):v.ownBlock=none∨v.ownBlock≠v'.ownBlock:=by
 cases e:v.ownBlock with
 | none=>exact .inl rfl
 | some g =>
  obtain⟨cs,hc⟩:=bg7 h e
  exact .inr fun e'=>(xc7 h' hc hne) e'
theorem xh7.push {TT TS:Nat}{w w':World}{B:Nat}{v v':Value}{out:List (List ba7)}{vs:List Value}(h:xh7 TT TS w B v out vs) (hne:TS≠TT) (hg:w.grownBy w' v.ownBlock)
  (ho:w'.ownsRow B TT 1 v' (out.length+1) (vs++[.slice none 0 0])):xh7 TT TS w' B v' (out++[[]]) (vs++[.slice none 0 0]):=by
 refine⟨by rw[List.length_append];exact ho,by simp[h.len],fun i h1 h2=>?_,fun i j hi hj hij=>?_⟩
 ·by_cases hl:i<out.length
  ·have hl':i<vs.length:=by rw[h.len];exact hl
   rw[List.getElem_append_left hl',List.getElem_append_left hl]
   exact (h.rows i hl hl').kept hg (xa7 (h.rows i hl hl') h.own hne)
  ·have:i=out.length:=by simp at h1;omega
   subst this
   have e1:(vs++[Value.slice none 0 0])[out.length]'h2 = .slice none 0 0:=by rw[List.getElem_append_right (by rw[h.len];exact Nat.le_refl _)];simp[h.len]
   have e2:(out++[[]])[out.length]'h1=[]:=by rw[List.getElem_append_right (Nat.le_refl _)];simp
   rw[e1,e2]
   exact World.ownsRow_nil _ _ _ _
 ·have key:∀i (hi:i<(vs++[Value.slice none 0 0]).length),((vs++[Value.slice none 0 0])[i]).ownBlock=none∨∃hi':i<vs.length,(vs++[Value.slice none 0 0])[i]=vs[i]:=fun i hi=>by
   by_cases hl:i<vs.length
   ·exact .inr ⟨hl,List.getElem_append_left hl⟩
   ·refine .inl ?_
    rw[List.getElem_append_right (by omega)]
    simp only[List.getElem_singleton];rfl
  rcases key i hi with h1 | ⟨h1,e1⟩
  ·exact .inl h1
  ·rcases key j hj with h2 | ⟨h2,e2⟩
   ·rw[e1,h2]
    cases e:vs[i].ownBlock with
    | none=>exact .inl rfl
    | some g=>exact .inr (by simp)
   ·rw[e1,e2];exact h.apart i j h1 h2 hij
theorem uib7 {w:World}{B T n g cap:Nat}{xs:List Value}(h:w.ownsRow B T 1 (.slice (some ⟨g,0,none⟩) n cap) n xs) (j:Nat) (u:Value):(w.setCell ⟨g,j,none⟩ u).ownsRow B T 1 (.slice (some ⟨g,0,none⟩) n cap) n (xs.set j u)∧w.grownBy (w.setCell ⟨g,j,none⟩ u) (some g) :=
 h.stored j u
theorem xh7.stop {TT TS:Nat}{w w1:World}{B g cap:Nat}{out:List (List ba7)}{vs:List Value}{u:Value}{s:ba7}(h:xh7 TT TS w B (.slice (some ⟨g,0,none⟩) out.length cap) out vs) (hne:TS≠TT) (hpos:0<out.length)
  (hg:w.grownBy w1 (vs.getD (out.length-1) undef).ownBlock) (hu:w1.ownsRow B TS 2 u ((out.getD (out.length-1) []).length+1) ((out.getD (out.length-1) []).flatMap stopV++stopV s))
  (hat:u.ownBlock=(vs.getD (out.length-1) undef).ownBlock∨∃b,u.ownBlock=some b∧w.heap.size≤b) :
  xh7 TT TS (w1.setCell ⟨g,out.length-1,none⟩ u) B (.slice (some ⟨g,0,none⟩) (cb7 out s).length cap) (cb7 out s) (vs.set (out.length-1) u):=by
 have hl:out.length-1<out.length:=by omega
 have hl':out.length-1<vs.length:=by rw[h.len];exact hl
 have ev:vs.getD (out.length-1) undef=vs[out.length-1]:=by rw[List.getD_eq_getElem?_getD,List.getElem?_eq_getElem hl'];rfl
 have eo:out.getD (out.length-1) []=out[out.length-1]:=by rw[List.getD_eq_getElem?_getD,List.getElem?_eq_getElem hl];rfl
 rw[ev]at hg hat
 have hrow:=h.rows _ hl hl'
 have howngrow:w1.ownsRow B TT 1 (.slice (some ⟨g,0,none⟩) out.length cap) out.length vs:=h.own.kept hg (xa7 h.own hrow (Ne.symm hne))
 have hst:=uib7 howngrow (out.length-1) u
 have hlen:(cb7 out s).length=out.length:=by unfold cb7;simp
 have hug:u.ownBlock=none∨u.ownBlock≠some g:=by
  have:=xa7 hu howngrow hne
  exact this
 refine⟨by rw[hlen];exact hst.1,by rw[List.length_set,h.len,hlen],fun i h1 h2=>?_,fun i j hi hj hij=>?_⟩
 ·have hi:i<out.length:=by rw[hlen]at h1;exact h1
  have hi':i<vs.length:=by rw[h.len];exact hi
  by_cases e:out.length-1=i
  ·subst e
   have e1:(vs.set (out.length-1) u)[out.length-1]'h2=u:=by simp
   have e2:(cb7 out s)[out.length-1]'h1=out.getD (out.length-1) []++[s]:=by simp[cb7]
   rw[e1,e2,List.flatMap_append,List.length_append]
   have:=hu.kept hst.2 hug
   simpa using this
  ·have e1:(vs.set (out.length-1) u)[i]'h2=vs[i]:=by rw[List.getElem_set_ne e]
   have e2:(cb7 out s)[i]'h1=out[i]:=by simp only[cb7,List.getElem_set,if_neg e]
   rw[e1,e2]
   have k1:=(h.rows i hi hi').kept hg (h.apart i _ hi' hl' (Ne.symm e))
   exact k1.kept hst.2 (xa7 k1 howngrow hne)
 ·have hlt:∀i (hi:i<vs.length) b,vs[i].ownBlock=some b→b<w.heap.size:=fun i hi b hb=>((h.rows i (by rw[← h.len];exact hi) hi).lt b hb).2
  simp only[List.length_set]at hi hj
  simp only[List.getElem_set]
  split
  ·rename_i ei
   split
   ·omega
   ·rename_i ej
    rcases hat with e | ⟨b,e,hb⟩
    ·rw[e];exact h.apart _ j hl' hj ej
    ·refine .inr fun e'=>?_
     have:=hlt j hj b (by rw[← e',e]);omega
  ·rename_i ei
   split
   ·rename_i ej
    rcases hat with e | ⟨b,e,hb⟩
    ·rw[e];exact h.apart i _ hi hl' (by omega)
    ·refine .inr fun e'=>?_
     have:=hlt i hi b (by rw[e',e]);omega
   ·exact h.apart i j hi hj hij
theorem xh7.rep {TT TS:Nat}{w:World}{B:Nat}{v:Value}{out:List (List ba7)}{vs:List Value}(h:xh7 TT TS w B v out vs) (hw:∀t∈out,∀s∈t,oa7 s.sat∧oa7 s.load):ir7.rep w (fun b=>B≤b) out [v]:=by
 have hr:∀i (h1:i<out.length) (h2:i<vs.length),(ia7 ai7).rep w (fun b=>B≤b) out[i] [vs[i]]:=fun i h1 h2 =>
  hpb7 (S:=ai7) stopV (fun _=>rfl) (fun s hs=>⟨rfl,hw _ (List.getElem_mem h1) s hs⟩) (h.rows i h1 h2)
 rcases h.own.2 with ⟨rfl,hn⟩ | ⟨g,cap,cur,rfl,hg,hh,hn1,hc,hsz,ht⟩
 ·have:out=[]:=List.eq_nil_of_length_eq_zero hn
  subst this
  exact ndb7 _ _ _
 ·have hR:Row w g TT vs:=⟨cur,cur.toList.drop (out.length*1),hh,by rw[← ht,List.take_append_drop]⟩
  refine deb7 (S:=ia7 ai7) (T:=TT) (vs.map fun v=>[v]) (by simp[h.len]) (fun v hv=>by obtain⟨u,_,rfl⟩:=List.mem_map.1 hv;rfl) (fun i h1 h2=>?_) ?_ hn1 hc hg
  ·rw[List.getElem_map];exact hr i h1 _
  ·have:(vs.map fun v=>[v]).flatten=vs:=by
    clear hR ht hr h
    induction vs with
    | nil=>rfl
    | cons a l ih=>rw[List.map_cons,List.flatten_cons,ih];rfl
   rw[this];exact hR
end Go.Proofs.YtedahhjopmkbbaaGreat
