/- Texts of the proof, joined: RideD, Float, Real, Own, Facts, OrdCmp, SortD, Shelf, Square, Small, InstOwn, Stable, InstA, InstB, InstC, Region, InstD, Eq, Loads, Same, Drops, Set, Trucks. -/
import Derived.Test.YtabadfkikdefeaaProg
import Derived.Laws.BitsAllLaws
import Derived.Lib.BitFns
import Derived.Sort.Defs
import Derived.Shelf.Strings.Builder1
import Derived.Shelf.Slices.Reverse
import Derived.Ground.Names2Prog
import Derived.Shelf.Slices.Clone
import Derived.Shelf.Slices.Cells
import Derived.Ground.SlgnProg
import Derived.Shelf.SlicesG.Equal
import Derived.Shelf.SlicesG.Clone
import Derived.Shelf.SlicesE.Reverse
import Derived.Shelf.SlicesE.Clone
import Derived.Deep.LoopGhost
import Derived.Deep.DeepCutAuto
import Derived.Laws.StructEq
import Derived.Laws.ShiftsVar
import Derived.Test.YtabadfkikdefeaaO1
set_option linter.all false
set_option maxRecDepth 100000
set_option maxHeartbeats 6400000
namespace Go.Proofs.Ytabadfkikdefeaa
open Go.RowKit
structure xc7 where
 out:Int
 starts:List Int
 back:Int
 deriving DecidableEq
structure rb7 where
 trucks:List (List Int)
 bikes:List xc7
 deriving DecidableEq
def pq7:Shape xc7 where
 sz:=3
 rep:=fun w F x cs => ∃ v,cs = [.int .i64 x.out,v, .int .i64 x.back] ∧ wa7 x.out ∧ wa7 x.back ∧ (ga7 ge7).rep w F x.starts [v]
 len:=by rintro w F x cs ⟨v,rfl,_⟩; rfl
 keep:=by rintro w w' F x cs ⟨v,rfl,h1,h1',h2⟩ ha; exact ⟨v,rfl,h1,h1',(ga7 ge7).keep h2 ha⟩
 weak:=by rintro w F G x cs ⟨v,rfl,h1,h1',h2⟩ ha; exact ⟨v,rfl,h1,h1',(ga7 ge7).weak h2 ha⟩
 lt:=by rintro w F x cs ⟨v,rfl,h1,h1',h2⟩; exact ⟨v,rfl,h1,h1',(ga7 ge7).lt h2⟩
def gv7:Shape (List xc7):=ga7 pq7
def te7:Shape rb7 where
 sz:=2
 rep:=fun w F x cs => ∃ t b,cs = [t,b] ∧ gg7.rep w F x.trucks [t] ∧ gv7.rep w F x.bikes [b]
 len:=by rintro w F x cs ⟨t,b,rfl,_⟩; rfl
 keep:=by rintro w w' F x cs ⟨t,b,rfl,h1,h2⟩ ha; exact ⟨t,b,rfl,gg7.keep h1 ha,gv7.keep h2 ha⟩
 weak:=by rintro w F G x cs ⟨t,b,rfl,h1,h2⟩ ha; exact ⟨t,b,rfl,gg7.weak h1 ha,gv7.weak h2 ha⟩
 lt:=by rintro w F x cs ⟨t,b,rfl,h1,h2⟩; exact ⟨t,b,rfl,gg7.lt h1,gv7.lt h2⟩
structure ue7 where
 plan:za7
 times:rb7
 cost:Int
def ai7:Shape ue7 where
 sz:=5
 rep:=fun w F x cs => ∃ a b c d,cs = [a,b,c,d, .int .i64 x.cost] ∧ wa7 x.cost ∧ id7.rep w F x.plan [a,b] ∧ te7.rep w F x.times [c,d]
 len:=by rintro w F x cs ⟨a,b,c,d,rfl,_⟩; rfl
 keep:=by rintro w w' F x cs ⟨a,b,c,d,rfl,h0,h1,h2⟩ ha; exact ⟨a,b,c,d,rfl,h0,id7.keep h1 ha,te7.keep h2 ha⟩
 weak:=by rintro w F G x cs ⟨a,b,c,d,rfl,h0,h1,h2⟩ ha; exact ⟨a,b,c,d,rfl,h0,id7.weak h1 ha,te7.weak h2 ha⟩
 lt:=by rintro w F x cs ⟨a,b,c,d,rfl,h0,h1,h2⟩; exact ⟨a,b,c,d,rfl,h0,id7.lt h1,te7.lt h2⟩
end Go.Proofs.Ytabadfkikdefeaa


namespace Go.Proofs.Ytabadfkikdefeaa
open Go.RowKit
def Row (w:World) (g:Nat) (e:TypeId) (cs:List Value):Prop :=
 ∃ (cur:Array Value) (rest:List Value),w.heap[g]? = some (.cells cur e (0,0)) ∧ cur.toList = cs ++ rest
theorem Row.lt {w:World} {g:Nat} {e:TypeId} {cs:List Value} (h:Row w g e cs):g < w.heap.size:=by
 obtain ⟨cur,rest,h1,_⟩:=h
 exact (Array.getElem?_eq_some_iff.1 h1).1
theorem Row.keep {w w':World} {g:Nat} {e:TypeId} {cs:List Value} (h:Row w g e cs) (hk:w'.heap[g]? = w.heap[g]?):Row w' g e cs:=by
 obtain ⟨cur,rest,h1,h2⟩:=h
 exact ⟨cur,rest,hk.trans h1,h2⟩
theorem Row.below {w w':World} {g:Nat} {e:TypeId} {cs:List Value} (h:Row w g e cs) (hb:Below w.heap.size w w'):Row w' g e cs:=h.keep (hb.block g h.lt)
theorem Row.belowB {B:Nat} {w w':World} {g:Nat} {e:TypeId} {cs:List Value} (h:Row w g e cs) (hb:Below B w w') (hg:g < B):Row w' g e cs:=h.keep (hb.block g hg)
theorem Row.alloc {w:World} {g:Nat} {e:TypeId} {cs:List Value} (h:Row w g e cs) (o:Obj):Row (w.alloc o) g e cs:=h.keep (Below.heap_alloc _ _ _ h.lt)
theorem Row.setOther {w:World} {g:Nat} {e:TypeId} {cs:List Value} (h:Row w g e cs) {a:Addr} (ha:g ≠ a.block) (u:Value):Row (w.setCell a u) g e cs:=h.keep (Below.heap_setCell _ _ _ _ ha)
theorem Row.drew {w:World} {g:Nat} {e:TypeId} {cs:List Value} (h:Row w g e cs):Row w.drew g e cs:=h
theorem Row.drewN {w:World} {g:Nat} {e:TypeId} {cs:List Value} (h:Row w g e cs) (n:Nat):Row (w.drewN n) g e cs:=h.keep rfl
theorem Row.ne {w:World} {g g':Nat} {e e':TypeId} {cs cs':List Value} (h:Row w g e cs) (h':Row w g' e' cs') (he:e ≠ e'):g ≠ g':=by
 rintro rfl
 obtain ⟨_,_,h1,_⟩:=h
 obtain ⟨_,_,h2,_⟩:=h'
 rw [h1] at h2
 simp only [Option.some.injEq,Obj.cells.injEq] at h2
 exact he h2.2.1
theorem Row.cell {w:World} {g:Nat} {e:TypeId} {cs:List Value} (h:Row w g e cs) {j:Nat} (hj:j < cs.length):w.cell? ⟨g,j,none⟩ = some cs[j]:=by
 obtain ⟨cur,rest,h1,h2⟩:=h
 have:cur[j]? = some cs[j]:=by
  rw [← Array.getElem?_toList,h2,List.getElem?_append_left hj,List.getElem?_eq_getElem hj]
 simp [World.cell?,h1,this]
theorem Row.frozen {w:World} {g:Nat} {e:TypeId} {cs:List Value} (h:Row w g e cs) (j:Nat):w.frozen? ⟨g,j,none⟩ = false:=by
 obtain ⟨cur,rest,h1,h2⟩:=h
 simp [World.frozen?,h1]
theorem Row.set {w:World} {g:Nat} {e:TypeId} {cs:List Value} (h:Row w g e cs) {j:Nat} (hj:j < cs.length) (u:Value):Row (w.setCell ⟨g,j,none⟩ u) g e (cs.set j u):=by
 obtain ⟨cur,rest,h1,h2⟩:=h
 have hg:g < w.heap.size:=(Array.getElem?_eq_some_iff.1 h1).1
 refine ⟨cur.setIfInBounds j u,rest, ?_, ?_⟩
 ·simp [World.setCell,Array.getElem?_modify,h1]
 ·rw [Array.toList_setIfInBounds,h2,List.set_append_left _ _ hj]
theorem Row.new {w:World} {g:Nat} {e:TypeId} {cs:List Value} (hg:g = w.heap.size):Row (w.alloc (.cells cs.toArray e)) g e cs:=by
 subst hg
 refine ⟨cs.toArray,[], ?_,by simp⟩
 show (w.heap.push _)[w.heap.size]? = _
 simp
theorem Row.of_owns {w:World} {base:Nat} {e:TypeId} {size:Nat} {v:Value} {n:Nat} {xs:List Value} (h:w.ownsRow base e size v n xs) (hn:0 < n) :
  ∃ g c,v = .slice (some ⟨g,0,none⟩) n c ∧ n ≤ c ∧ c ≤ maxLen ∧ base ≤ g ∧ Row w g e xs:=by
 obtain ⟨h1,h2⟩:=h
 rcases h2 with ⟨_,h2⟩ | h2
 ·omega
 ·obtain ⟨g,cap,cur,rfl,hg,hh,hn1,hc,hs,ht⟩:=h2
  exact ⟨g,cap,rfl,hn1,hc,hg,cur,cur.toList.drop (n * size),hh,by rw [← ht,List.take_append_drop]⟩
theorem fj7 {w:World} {g:Nat} (hg:g = w.heap.size) (cs:List Value) (e:TypeId):∀ j u,cs[j]? = some u → (w.alloc (.cells cs.toArray e)).cell? ((⟨g,0,none⟩:Addr).add j) = some u:=by
 subst hg
 intro j u hj
 have:(⟨w.heap.size,0,none⟩:Addr).add j = ⟨w.heap.size,j,none⟩:=by
  unfold Addr.add; split
  ·rename_i h; rw [h]
  ·simp
 rw [this]
 simpa using hj
theorem ua7 {w:World} {base:Nat} {e:TypeId} {size:Nat} {v:Value} {n:Nat} {xs:List Value} (h:w.ownsRow base e size v n xs):∃ ao cap,v = .slice ao n cap ∧ n ≤ cap ∧ cap ≤ maxLen:=by
 obtain ⟨h1,h2⟩:=h
 rcases h2 with ⟨rfl,rfl⟩ | ⟨g,cap,cur,rfl,hg,hh,h3,h4,_⟩
 ·exact ⟨none,0,rfl,Nat.le_refl _,Nat.zero_le _⟩
 ·exact ⟨_,cap,rfl,h3,h4⟩
theorem na7 {w w':World} {base:Nat} {e:TypeId} {size:Nat} {v:Value} {n:Nat} {xs:List Value} (h:w.ownsRow base e size v n xs) (hb:Below w.heap.size w w'):w'.ownsRow base e size v n xs:=by
 obtain ⟨h1,h2⟩:=h
 refine ⟨h1, ?_⟩
 rcases h2 with h2 | ⟨g,cap,cur,hv,hg,hh,r⟩
 ·exact .inl h2
 ·exact .inr ⟨g,cap,cur,hv,hg,by rw [hb.block g (Array.getElem?_eq_some_iff.1 hh).1]; exact hh,r⟩
theorem ig7 {w:World} {g:Nat} {e:TypeId} {v0 v1 v2 v3 v4 v5 v6 v7 v8:Value} (h:Row w g e [v0,v1,v2,v3,v4,v5,v6,v7,v8]) :
  w.cell? ⟨g,0,none⟩ = some v0 ∧ w.cell? ⟨g,1,none⟩ = some v1 ∧ w.cell? ⟨g,2,none⟩ = some v2 ∧ w.cell? ⟨g,3,none⟩ = some v3 ∧ w.cell? ⟨g,4,none⟩ = some v4 ∧ w.cell? ⟨g,5,none⟩ = some v5 ∧
   w.cell? ⟨g,6,none⟩ = some v6 ∧ w.cell? ⟨g,7,none⟩ = some v7 ∧ w.cell? ⟨g,8,none⟩ = some v8 :=
 ⟨h.cell (j:=0) (by simp),h.cell (j:=1) (by simp),h.cell (j:=2) (by simp),h.cell (j:=3) (by simp),h.cell (j:=4) (by simp),h.cell (j:=5) (by simp),h.cell (j:=6) (by simp),h.cell (j:=7) (by simp),h.cell (j:=8) (by simp)⟩
theorem mub7 {w:World} {g:Nat} {e:TypeId} {cs:List Value} (h:Row w g e cs) :
  w.frozen? ⟨g,0,none⟩ = false ∧ w.frozen? ⟨g,1,none⟩ = false ∧ w.frozen? ⟨g,2,none⟩ = false ∧ w.frozen? ⟨g,3,none⟩ = false ∧ w.frozen? ⟨g,4,none⟩ = false ∧ w.frozen? ⟨g,5,none⟩ = false ∧
   w.frozen? ⟨g,6,none⟩ = false ∧ w.frozen? ⟨g,7,none⟩ = false ∧ w.frozen? ⟨g,8,none⟩ = false :=
 ⟨h.frozen _,h.frozen _,h.frozen _,h.frozen _,h.frozen _,h.frozen _,h.frozen _,h.frozen _,h.frozen _⟩
theorem be7 {w:World} {g:Nat} {e:TypeId} {v0 v1:Value} (h:Row w g e [v0,v1]):w.cell? ⟨g,0,none⟩ = some v0 ∧ w.cell? ⟨g,1,none⟩ = some v1 :=
 ⟨h.cell (j:=0) (by simp),h.cell (j:=1) (by simp)⟩
def gb7 (x:Int):Value := .int .i64 x
theorem Row.make {w:World} {n:Nat} {e:TypeId}:Row (w.alloc (.cells (Array.replicate n (gb7 0)) e)) w.heap.size e ((List.replicate n 0).map gb7):=by
 have:=Row.new (w:=w) (e:=e) (cs:=(List.replicate n 0).map gb7) rfl
 simpa using this
def ncb7 (r:Nat) (row:List Int):Value := .slice (some ⟨r,0,none⟩) row.length row.length
def ki7 (w:World) (B TR TI:Nat) (out:Value) (rows:List (List Int)) (rs:List Nat):Prop :=
 w.ownsRow B TR 1 out rows.length (List.zipWith ncb7 rs rows) ∧ rs.length = rows.length ∧ (∀ i (h:i < rs.length) (h':i < rows.length),Row w rs[i] TI (rows[i].map gb7)) ∧ rs.Nodup ∧ ∀ b ∈ rs,B ≤ b ∧ b < w.heap.size
theorem ki7.nil (w:World) (B TR TI:Nat):ki7 w B TR TI (.slice none 0 0) [] [] :=
 ⟨World.ownsRow_nil _ _ _ _,rfl,fun _ h=>absurd h (Nat.not_lt_zero _),List.nodup_nil,fun _ h=>by cases h⟩
theorem we7 {w:World} {B T n k:Nat} {v:Value} {xs:List Value} (h:w.ownsRow B T k v n xs) {g:Nat} (hg:v.ownBlock = some g):∃ cs,Row w g T cs:=by
 obtain ⟨h1,h2⟩:=h
 rcases h2 with ⟨rfl,_⟩ | ⟨g',cap,cur,rfl,hg',hh,_⟩
 ·cases hg
 ·simp only [Value.ownBlock,Option.some.injEq] at hg
  subst hg
  exact ⟨cur.toList,cur,[],hh,by simp⟩
theorem ki7.push {w w1 w2:World} {B TR TI r:Nat} {out v':Value} {rows:List (List Int)} {rs:List Nat} {row:List Int} {o:Obj} (h:ki7 w B TR TI out rows rs) (hne:TR ≠ TI)
  (hb:Below w.heap.size w w1) (hr:Row w1 r TI (row.map gb7)) (hrw:w.heap.size ≤ r) (hB:B ≤ w.heap.size)
  (hown:w2.ownsRow B TR 1 v' (rows.length + 1) (List.zipWith ncb7 rs rows ++ [ncb7 r row])) (hg:(w1.alloc o).grownBy w2 out.ownBlock):ki7 w2 B TR TI v' (rows ++ [row]) (rs ++ [r]):=by
 obtain ⟨h1,h2,h3,h4,h5⟩:=h
 have hob:∀ {b:Nat} {cs:List Value},Row w1 b TI cs → Row w2 b TI cs:=fun {b cs} hR=>by
  refine (hR.alloc o).keep (hg.block b (hR.alloc o).lt ?_)
  intro e
  obtain ⟨cs',hc'⟩:=we7 h1 e.symm
  exact (hc'.below hb).ne hR hne rfl
 refine ⟨?_,by simp [h2], ?_, ?_, ?_⟩
 ·rw [List.length_append,List.length_singleton,List.zipWith_append h2]
  exact hown
 ·intro i hi hi'
  by_cases hl:i < rows.length
  ·rw [List.getElem_append_left (by omega),List.getElem_append_left hl]
   exact hob ((h3 i (by omega) hl).below hb)
  ·have:i = rows.length:=by simp at hi'; omega
   subst this
   rw [List.getElem_append_right (by omega),List.getElem_append_right (Nat.le_refl _)]
   simp only [h2,Nat.sub_self,List.getElem_cons_zero]
   exact hob hr
 ·rw [List.nodup_append]
  refine ⟨h4,by simp,fun a ha b hb' => ?_⟩
  simp only [List.mem_singleton] at hb'
  have:=(h5 a ha).2
  omega
 ·intro b hb'
  have hs:w.heap.size ≤ w2.heap.size:=Nat.le_trans hb.size (Nat.le_trans (by simp) hg.size)
  have hr2:r < w2.heap.size:=Nat.lt_of_lt_of_le hr.lt (Nat.le_trans (by simp) hg.size)
  rcases List.mem_append.1 hb' with hb' | hb'
  ·have:=h5 b hb'; omega
  ·simp only [List.mem_singleton] at hb'; omega
def ib7 (w:World) (B TR TI:Nat) (v:Value) (rows:List (List Int)) (g:Nat) (rs:List Nat):Prop :=
 ∃ c,v = .slice (some ⟨g,0,none⟩) rows.length c ∧ rows.length ≤ c ∧ c ≤ maxLen ∧ B ≤ g ∧ Row w g TR (List.zipWith ncb7 rs rows) ∧ rs.length = rows.length ∧
  (∀ i (h:i < rs.length) (h':i < rows.length),Row w rs[i] TI (rows[i].map gb7)) ∧ rs.Nodup ∧ ∀ b ∈ rs,B ≤ b
theorem ki7.own {w:World} {B TR TI:Nat} {out:Value} {rows:List (List Int)} {rs:List Nat} (h:ki7 w B TR TI out rows rs) (hn:0 < rows.length):∃ g,ib7 w B TR TI out rows g rs:=by
 obtain ⟨h1,h2,h3,h4,h5⟩:=h
 obtain ⟨g,c,hv,hc,hm,hg,hr⟩:=Row.of_owns h1 hn
 exact ⟨g,c,hv,hc,hm,hg,hr,h2,h3,h4,fun b hb=>(h5 b hb).1⟩
theorem ib7.below {w w':World} {B TR TI:Nat} {v:Value} {rows:List (List Int)} {g:Nat} {rs:List Nat} (h:ib7 w B TR TI v rows g rs) (hb:Below w.heap.size w w'):ib7 w' B TR TI v rows g rs:=by
 obtain ⟨c,h0,h1,h2,h3,h4,h5,h6,h7,h8⟩:=h
 exact ⟨c,h0,h1,h2,h3,h4.below hb,h5,fun i h h'=>(h6 i h h').below hb,h7,h8⟩
theorem di7:∀ w,(sizeOf 3).run Try.prog w = .ok 1 w:=fun w=>by kernel_rfl
theorem xb7:∀ w,(sizeOf 2).run Try.prog w = .ok 1 w:=fun w=>by kernel_rfl
theorem fbc7:∀ w,(sizeOf 5).run Try.prog w = .ok 1 w:=fun w=>by kernel_rfl
theorem pf7:∀ w,(sizeOf 43).run Try.prog w = .ok 1 w:=fun w=>by kernel_rfl
theorem ny7:∀ w,(sizeOf 100).run Try.prog w = .ok 2 w:=fun w=>by kernel_rfl
theorem pp7:∀ w,(sizeOf 102).run Try.prog w = .ok 4 w:=fun w=>by kernel_rfl
theorem qt7:∀ w,(sizeOf 79).run Try.prog w = .ok 2 w:=fun w=>by kernel_rfl
theorem wh7:∀ w,(sizeOf 82).run Try.prog w = .ok 1 w:=fun w=>by kernel_rfl
theorem uk7:∀ w,(sizeOf 73).run Try.prog w = .ok 2 w:=fun w=>by kernel_rfl
theorem wtb7:∀ w,(sizeOf 107).run Try.prog w = .ok 2 w:=fun w=>by kernel_rfl
theorem atb7:∀ w,(sizeOf 109).run Try.prog w = .ok 4 w:=fun w=>by kernel_rfl
def bbc7 (k:Nat):Value := .float .f64 k
end Go.Proofs.Ytabadfkikdefeaa


namespace Go.Proofs.Ytabadfkikdefeaa
open Go.RowKit
def jg7 (l:List Int) (n i:Nat) (k0:Nat):Nat → List Int × Nat
 | 0=>(List.replicate n 0,k0)
 | m + 1=>let s:=jg7 l n i k0 m; if i ≠ m ∧ l ≠ [] then (s.1.set m (l.getD (s.2 % l.length) 0 % 30),s.2 + 1) else s
def ffb7 (l:List Int) (n:Nat):Nat → List (List Int) × Nat
 | 0=>([],0)
 | i + 1=>let s:=ffb7 l n i; let r:=jg7 l n i s.2 n; (s.1 ++ [r.1],r.2)
def sg7 (l:List Int) (n:Nat):List (List Int):=(ffb7 l n n).1
theorem tkb7 (l:List Int) (n i k0 m:Nat):(jg7 l n i k0 m).1.length = n:=by
 induction m with
 | zero=>simp [jg7]
 | succ m ih=>simp only [jg7]; split <;> simp [ih]
theorem ulb7 (l:List Int) (n i k0 m:Nat):(jg7 l n i k0 m).2 ≤ k0 + m:=by
 induction m with
 | zero=>simp [jg7]
 | succ m ih =>
  simp only [jg7]
  split
  ·show (jg7 l n i k0 m).2 + 1 ≤ _; omega
  ·omega
theorem er7 (l:List Int) (n i:Nat):(ffb7 l n i).1.length = i:=by
 induction i with
 | zero=>simp [ffb7]
 | succ i ih=>simp [ffb7,ih]
theorem yxb7 (l:List Int) (n i:Nat):(ffb7 l n i).2 ≤ i * n:=by
 induction i with
 | zero=>simp [ffb7]
 | succ i ih =>
  simp only [ffb7]
  have:=ulb7 l n i (ffb7 l n i).2 n
  rw [Nat.succ_mul]; omega
theorem aib7 {l:List Int} {n i k0 m:Nat} (h:i ≠ m) (hl:l ≠ []):jg7 l n i k0 (m + 1) = ((jg7 l n i k0 m).1.set m (l.getD ((jg7 l n i k0 m).2 % l.length) 0 % 30),(jg7 l n i k0 m).2 + 1):=by
 simp only [jg7]; rw [if_pos ⟨h,hl⟩]
theorem fv7 {l:List Int} {n i k0 m:Nat} (h : ¬ (i ≠ m ∧ l ≠ [])):jg7 l n i k0 (m + 1) = jg7 l n i k0 m:=by
 simp only [jg7]; rw [if_neg h]
theorem zi7 {P:Program} {t e:TypeId} {i:TypeInfo} (ht:P.underlying t = some (.slice e)) (hi:P.info? e = some i) (hz:i.zero = some (.int .i64 0)) (hs:i.size = 1) (hb:i.bytes = 8) {n:Nat} (hn:n ≤ 1000000) :
  ∀ w,(Instr.makeSlice t (.int .i64 (n:Int)) (.int .i64 (n:Int))).run P w = .ok (.slice (some ⟨w.heap.size,0,none⟩) n n) (w.alloc (.cells (Array.replicate n (gb7 0)) e)):=by
 intro w
 have h:=run_make (P:=P) w t e i (.int .i64 0) ht hi hz .i64 .i64 n n (by omega) (by omega) (by rw [hb]; omega) (by omega)
 rw [h,hs]
 have hm:(madeCells (Value.int .i64 0).cells ((n:Int).toNat * 1)) = Array.replicate n (gb7 0):=by
  apply Array.ext'
  rw [Nat.mul_one,Int.toNat_natCast,show (Value.int .i64 0).cells = #[.int .i64 0] from rfl,toList_madeCells_one]
  simp [gb7]
 rw [hm,Int.toNat_natCast]
theorem ii7:(Try.prog.info? 2).map (fun i=>(i.zero,i.size,i.bytes)) = some (some (.int .i64 0),1,8):=by kernel_rfl
theorem feb7:(Try.prog.info? 43).map (fun i=>(i.zero,i.size,i.bytes)) = some (some (.slice none 0 0),1,24):=by kernel_rfl
theorem eub7 {P:Program} {t e:TypeId} (ht:P.underlying t = some (.slice e)) (hsz:∀ w,(sizeOf e).run P w = .ok 1 w) {a:Option Addr} {b off n c k:Nat} (ha:a = some ⟨b,off,none⟩) (hn:0 < n) :
  ∀ w,(Instr.indexAt t (.slice a n c) (.int .i64 ((k:Int) % (n:Int)))).run P w = .ok (.pointer (some ⟨b,off + k % n,none⟩)) w:=by
 intro w
 have:=la7 ht hsz (c:=c) ha (Nat.mod_lt k hn) w
 rwa [Int.natCast_emod] at this
theorem su7 {w:World} {F:Nat → Prop} {l:List Int} {v:Value} (h:(ga7 u8S).rep w F l [v]) {n:Nat} (hn:n ≤ 100) :
  Calls Try.prog 37 #[v, .int .i64 (n:Int)] w fun e w' => ∃ ao cp rs,e = .returned (.slice ao n cp) ∧ ki7 w' w.heap.size 43 2 (.slice ao n cp) (sg7 l n) rs ∧ Below w.heap.size w w':=by
 obtain ⟨a,b,off,c,hs,hlc,hc,ha, -,hcell,hwf⟩:=sfb7 h
 obtain rfl:=List.cons.inj hs |>.1
 clear hs h
 obtain ⟨i0,hi,hz0,hz1,hz2⟩:=info_parts ii7
 have hmk:=zi7 Try.underlying43 hi hz0 hz1 hz2 (n:=n) (by omega)
 clear hi hz0 hz1 hz2 i0
 go_enter Try.func37,Try.ntmps37
 go_wp2
 go_loopw [5,6,11] (fun out kk ii wr => ∃ (i:Nat) (rows:List (List Int)) (K:Nat) (rs:List Nat),i ≤ n ∧ ffb7 l n i = (rows,K) ∧ ii = .int .i64 i ∧ kk = .int .i64 K ∧ ki7 wr w.heap.size 43 2 out rows rs ∧ Below w.heap.size w wr)
  (fun _ _ ii _=>n - (intOf ii).toNat)
 case atStart=>exact ⟨0,[],0,[],Nat.zero_le _,rfl,rfl,rfl,ki7.nil _ _ _ _,Below.refl _ _⟩
 case round =>
  obtain ⟨i,rows,K,rs,hin,hst,rfl,rfl,hinv,hb⟩:=hrel
  have hK:K ≤ 10000:=by
   have:=yxb7 l n i
   rw [hst] at this
   exact Nat.le_trans this (Nat.le_trans (Nat.mul_le_mul hin hn) (by omega))
  have HST:=hid hst
  have HINV:=hid hinv
  clear hst hinv
  obtain ⟨wo,rfl⟩:∃ wo:World,wo = wr:=⟨_,rfl⟩
  by_cases hlt:i < n
  ·go_wp2
   go_outline
   go_loopw [6,18] (fun kk jj wx => ∃ (j:Nat) (r:List Int) (k:Nat),j ≤ n ∧ jg7 l n i K j = (r,k) ∧ jj = .int .i64 j ∧ kk = .int .i64 k ∧ Row wx wo.heap.size 2 (r.map gb7) ∧ Below wo.heap.size wo wx)
    (fun _ jj _=>n - (intOf jj).toNat)
   case atStart=>exact ⟨0,_,_,Nat.zero_le _,rfl,rfl,rfl,Row.make,(Below.refl _ _).alloc (Nat.le_refl _) _⟩
   case round =>
    obtain ⟨j,r,k,hj,hst,rfl,rfl,hrow,hbx⟩:=hrel
    have hk:k ≤ 20000:=by
     have:=ulb7 l n i K j
     rw [hst] at this
     show k ≤ 20000
     have h2:k ≤ K + j:=this
     omega
    have hrl:r.length = n:=by have:=tkb7 l n i K j; rw [hst] at this; exact this
    have HST2:=hid hst
    have HROW:=hid hrow
    have HRL:=hid hrl
    clear hst hrow hrl
    by_cases hlt2:j < n
    ·by_cases hij:i = j
     ·have hd:((i:Int) != (j:Int)) = false:=by simp [hij]
      have HN:=hid (show jg7 l n i K (j + 1) = (r,k) from by rw [fv7 (by simp [hij])]; exact HST2.out)
      clear hij
      go_wp2
      go_roundw
      case rel=>exact ⟨j + 1,r,k,by omega,HN.out,by go_num,rfl,HROW.out,hbx⟩
      case measure=>simp [intOf]; omega
     ·have hd:((i:Int) != (j:Int)) = true:=by simp; omega
      by_cases hl0:0 < l.length
      ·have hl0':(0:Int) < (l.length:Int):=by omega
       have HN:=hid (show jg7 l n i K (j + 1) = (r.set j (l.getD (k % l.length) 0 % 30),k + 1) from by
        rw [aib7 hij (by intro e; simp [e] at hl0)]
        rw [HST2.out])
       clear hij
       have hkl:k % l.length < l.length:=Nat.mod_lt _ hl0
       have hx:=eub7 (k:=k) (c:=c) Try.underlying38 fbc7 (ha hl0) hl0
       have hx2:=la7 (c:=n) (a:=some ⟨wo.heap.size,0,none⟩) (off:=0) Try.underlying43 xb7 rfl hlt2
       have hval:l[k % l.length] = l.getD (k % l.length) 0:=by simp [List.getD,List.getElem?_eq_getElem hkl]
       have hr:=hwf _ (List.getElem_mem hkl)
       have g0:=hcell (k % l.length) hkl
       rw [hval] at g0 hr
       have g1:=aa7 (hb.trans (hbx.mono hb.size)) g0
       obtain ⟨y,hy⟩:∃ y,y = l.getD (k % l.length) 0:=⟨_,rfl⟩
       rw [← hy] at g1 hr HN
       have hw0:=HROW.out.cell (j:=j) (by simp; have:=HRL.out; omega)
       have hf0:=HROW.out.frozen j
       obtain ⟨y0,hy0⟩:∃ y0,y0 = (r.map gb7)[j]'(by simp; have:=HRL.out; omega):=⟨_,rfl⟩
       rw [← hy0] at hw0
       clear hcell hwf ha hval g0 hy hy0
       go_wp2
       go_roundw
       case rel=>exact ⟨j + 1,_,k + 1,by omega,HN.out,by go_num,by go_num,by
        rw [List.map_set]
        exact HROW.out.set (by simp; have:=HRL.out; omega) _,hbx.setCell (Nat.le_refl _) _⟩
       case measure=>simp [intOf]; omega
      ·have hl0' : ¬ (0:Int) < (l.length:Int):=by omega
       have HN:=hid (show jg7 l n i K (j + 1) = (r,k) from by
        rw [fv7 (by rintro ⟨_,h2⟩; exact h2 (List.eq_nil_of_length_eq_zero (by omega)))]; exact HST2.out)
       clear hij
       go_wp2
       go_roundw
       case rel=>exact ⟨j + 1,r,k,by omega,HN.out,by go_num,rfl,HROW.out,hbx⟩
       case measure=>simp [intOf]; omega
    ·have hjn:j = n:=by omega
     subst hjn
     have hown:=na7 HINV.out.1 hbx
     have hz:=hbx.size
     have hin2:rows.length = i:=by have:=er7 l j i; rw [HST.out] at this; exact this
     have HIN:=hid hin2
     rw [hin2] at hown
     obtain ⟨i1,hi,hz0,hz1,hz2⟩:=info_parts feb7
     clear hin2
     go_wp2_with (at_builtin; refine wpList_append_own _ rfl _ _ 26 rfl w.heap.size 43 i1 (.slice none 0 0) 1 24 Try.underlying26 hi hz0 hz1 hz2 rfl (by decide) _ _ _ rfl (hown.alloc _) ⟨wr.heap.size,0,none⟩ 1 1 [.slice (some ⟨wo.heap.size,0,none⟩) j j] rfl rfl ?c1 ?c2 ?c3 ?c4 ?c5 ?_)
     case c1=>exact cell_one_new _ _ _
     case c2=>intro u hu; simp at hu; subst hu; rfl
     case c3=>unfold maxLen; omega
     case c4=>omega
     case c5=>have h1:=hb.size; have h2:=hbx.size; simp; omega
     intro v' w1 hown' hgrow _
     have hR:ncb7 wo.heap.size r = .slice (some ⟨wo.heap.size,0,none⟩) j j:=by unfold ncb7; rw [HRL.out]
     rw [← hR] at hown'
     have HI:=hid (HINV.out.push (by decide) hbx HROW.out (Nat.le_refl _) hb.size (by rw [HIN.out]; exact hown') hgrow)
     have HS:=hid (show ffb7 l j (i + 1) = (rows ++ [r],k) from by
      show ((ffb7 l j i).1 ++ [(jg7 l j i (ffb7 l j i).2 j).1],(jg7 l j i (ffb7 l j i).2 j).2) = _
      rw [HST.out]
      show (rows ++ [(jg7 l j i K j).1],(jg7 l j i K j).2) = _
      rw [HST2.out])
     have hb1:Below w.heap.size w w1:=((hb.trans (hbx.mono hb.size)).alloc (Nat.le_trans hb.size hbx.size) _).grown hgrow (Nat.le_trans hb.size (Nat.le_trans hbx.size (by simp))) (fun b hbk=>(HINV.out.1.lt b hbk).1)
     clear hown' hgrow hown hR hz hi hz0 hz1 hz2
     go_wp2
     go_roundw
     case rel=>exact ⟨i + 1,_,_,_,by omega,HS.out,by go_num,rfl,HI.out,hb1⟩
     case measure=>simp [intOf]; omega
  ·have hin2:i = n:=by omega
   subst hin2
   have HF:=hid (show sg7 l i = rows from by unfold sg7; rw [HST.out])
   go_wp2
   go_ret
   have hl:=er7 l i i
   rw [HST.out] at hl
   have hl:rows.length = i:=hl
   obtain ⟨ao,cp,hv, -, -⟩:=ua7 HINV.out.1
   rw [hl] at hv
   subst hv
   exact ⟨ao,cp,rs,rfl,by rw [HF.out]; exact HINV.out,hb⟩
structure wub7 where
 room:Int
 hold:Int
structure qub7 where
 load:Int
 opn:Int
 wide:Int
 stay:Int
structure xd7 where
 fin:Int
 trucks:Int
 troom:Int
 bikes:Int
 broom:Int
 sats:List wub7
 custs:List qub7
 cost:List Int
 time:List Int
 tight:Bool
 loose:Bool
def wf8 (x:Int):Prop:=0 ≤ x ∧ x ≤ 255
def ntb7:Shape wub7:=bc7 2 (fun x cs=>cs = [.int .u8 x.room, .int .u8 x.hold] ∧ wf8 x.room ∧ wf8 x.hold) (by rintro x cs ⟨rfl,_⟩; rfl)
def elb7:Shape qub7:=bc7 4 (fun x cs=>cs = [.int .u8 x.load, .int .u8 x.opn, .int .u8 x.wide, .int .u8 x.stay] ∧ wf8 x.load ∧ wf8 x.opn ∧ wf8 x.wide ∧ wf8 x.stay) (by rintro x cs ⟨rfl,_⟩; rfl)
def km7:Shape (List Int):=ga7 u8S
def eab7:Shape (List wub7):=ga7 ntb7
def vab7:Shape (List qub7):=ga7 elb7
def crb7:Shape xd7 where
 sz:=11
 rep:=fun w F x cs => ∃ s c co ti,cs = [.int .u8 x.fin, .int .u8 x.trucks, .int .u8 x.troom, .int .u8 x.bikes, .int .u8 x.broom,s,c,co,ti, .bool x.tight, .bool x.loose] ∧
  (wf8 x.fin ∧ wf8 x.trucks ∧ wf8 x.troom ∧ wf8 x.bikes ∧ wf8 x.broom) ∧ eab7.rep w F x.sats [s] ∧ vab7.rep w F x.custs [c] ∧ km7.rep w F x.cost [co] ∧ km7.rep w F x.time [ti]
 len:=by rintro w F x cs ⟨_,_,_,_,rfl,_⟩; rfl
 keep:=by rintro w w' F x cs ⟨_,_,_,_,rfl,h0,h1,h2,h3,h4⟩ ha; exact ⟨_,_,_,_,rfl,h0,eab7.keep h1 ha,vab7.keep h2 ha,km7.keep h3 ha,km7.keep h4 ha⟩
 weak:=by rintro w F G x cs ⟨_,_,_,_,rfl,h0,h1,h2,h3,h4⟩ ha; exact ⟨_,_,_,_,rfl,h0,eab7.weak h1 ha,vab7.weak h2 ha,km7.weak h3 ha,km7.weak h4 ha⟩
 lt:=by rintro w F x cs ⟨_,_,_,_,rfl,h0,h1,h2,h3,h4⟩; exact ⟨_,_,_,_,rfl,h0,eab7.lt h1,vab7.lt h2,km7.lt h3,km7.lt h4⟩
theorem fhb7 {w:World} {F:Nat → Prop} {xs:List wub7} {cs:List Value} (h:eab7.rep w F xs cs) :
  ∃ (a:Option Addr) (b off c:Nat),cs = [.slice a xs.length c] ∧ xs.length ≤ c ∧ c ≤ 9223372036854775807 ∧ (0 < xs.length → a = some ⟨b,off,none⟩) ∧ (0 < xs.length → F b) ∧
   (∀ k (h:k < xs.length),w.cell? ⟨b,off + k * 2,none⟩ = some (.int .u8 xs[k].room) ∧ w.cell? ⟨b,off + k * 2 + 1,none⟩ = some (.int .u8 xs[k].hold)) ∧ ∀ x ∈ xs,wf8 x.room ∧ wf8 x.hold:=by
 obtain ⟨a,b,off,c,rfl,h1,h2,h3,h4⟩:=h
 refine ⟨a,b,off,c,rfl,h1,h2,fun h=>(h3 h).1,fun h=>(h3 h).2,fun k hk => ?_,fun x hx => ?_⟩
 ·obtain ⟨es,⟨rfl,_⟩,hc⟩:=h4 k hk
  have e0:=hc 0 (by decide)
  have e1:=hc 1 (by decide)
  exact ⟨by simpa [ntb7,bc7] using e0,by simpa [ntb7,bc7] using e1⟩
 ·obtain ⟨k,hk,rfl⟩:=List.getElem_of_mem hx
  obtain ⟨es,he,_⟩:=h4 k hk
  exact he.2
theorem mhb7 {w:World} {F:Nat → Prop} {xs:List qub7} {cs:List Value} (h:vab7.rep w F xs cs) :
  ∃ (a:Option Addr) (b off c:Nat),cs = [.slice a xs.length c] ∧ xs.length ≤ c ∧ c ≤ 9223372036854775807 ∧ (0 < xs.length → a = some ⟨b,off,none⟩) ∧ (0 < xs.length → F b) ∧
   (∀ k (h:k < xs.length),w.cell? ⟨b,off + k * 4,none⟩ = some (.int .u8 xs[k].load) ∧ w.cell? ⟨b,off + k * 4 + 1,none⟩ = some (.int .u8 xs[k].opn) ∧
    w.cell? ⟨b,off + k * 4 + 2,none⟩ = some (.int .u8 xs[k].wide) ∧ w.cell? ⟨b,off + k * 4 + 3,none⟩ = some (.int .u8 xs[k].stay)) ∧
   ∀ x ∈ xs,wf8 x.load ∧ wf8 x.opn ∧ wf8 x.wide ∧ wf8 x.stay:=by
 obtain ⟨a,b,off,c,rfl,h1,h2,h3,h4⟩:=h
 refine ⟨a,b,off,c,rfl,h1,h2,fun h=>(h3 h).1,fun h=>(h3 h).2,fun k hk => ?_,fun x hx => ?_⟩
 ·obtain ⟨es,⟨rfl,_⟩,hc⟩:=h4 k hk
  have e0:=hc 0 (by decide)
  have e1:=hc 1 (by decide)
  have e2:=hc 2 (by decide)
  have e3:=hc 3 (by decide)
  exact ⟨by simpa [elb7,bc7] using e0,by simpa [elb7,bc7] using e1,by simpa [elb7,bc7] using e2,by simpa [elb7,bc7] using e3⟩
 ·obtain ⟨k,hk,rfl⟩:=List.getElem_of_mem hx
  obtain ⟨es,he,_⟩:=h4 k hk
  exact he.2
def ke7 (x:xd7):Int:=if x.loose then 9 else 1
def xpb7 (x:xd7) (s:wub7):qhb7:=⟨4 + ke7 x * (s.room % 40),s.hold % 12⟩
def ieb7 (x:xd7) (c:qub7):Int:=if x.tight then 1 + c.load % 6 + c.load / 32 else 1 + c.load % 6
def ueb7 (x:xd7) (c:qub7):nn7:=⟨ieb7 x c,c.opn % 50,c.opn % 50 + ke7 x * c.wide,c.stay % 8⟩
def zc7 (x:xd7) (k:Nat):List qhb7:=((x.sats.take k).take 3).map (xpb7 x)
def ub7 (x:xd7) (k:Nat):List nn7:=((x.custs.take k).take 6).map (ueb7 x)
def wd7 (x:xd7):List qhb7:=if x.sats = [] then [⟨60,2⟩] else zc7 x x.sats.length
def zd7 (x:xd7):List nn7:=if x.custs = [] then [⟨2,5,90,1⟩] else ub7 x x.custs.length
def tf7 (x:xd7):Nat:=1 + (wd7 x).length + (zd7 x).length
def nq7 (x:xd7):ba7 where
 fin:=40 + x.fin * ke7 x
 tmany:=1 + x.trucks % 4
 troom:=5 + ke7 x * (x.troom % 40)
 bmany:=1 + x.bikes % 6
 broom:=3 + ke7 x * (x.broom % 20)
 sats:=wd7 x
 custs:=zd7 x
 cost:=sg7 x.cost (tf7 x)
 time:=sg7 x.time (tf7 x)
def kx7 (s:qhb7):List Value:=[gb7 s.room,gb7 s.hold]
def im7 (c:nn7):List Value:=[gb7 c.load,gb7 c.opn,gb7 c.cls,gb7 c.stay]
theorem ukb7 {x:xd7} {k:Nat} (h:k < x.sats.length) (h3:k < 3):zc7 x (k + 1) = zc7 x k ++ [xpb7 x x.sats[k]]:=by
 unfold zc7
 rw [List.take_take,List.take_take,show min 3 (k + 1) = k + 1 by omega,show min 3 k = k by omega,List.take_succ_eq_append_getElem h,List.map_append]
 rfl
theorem hjb7 {x:xd7} {k:Nat} (h3:3 ≤ k):zc7 x (k + 1) = zc7 x k:=by
 unfold zc7
 rw [List.take_take,List.take_take,show min 3 (k + 1) = 3 by omega,show min 3 k = 3 by omega]
theorem cgb7 {x:xd7} {k:Nat} (h:k < x.custs.length) (h3:k < 6):ub7 x (k + 1) = ub7 x k ++ [ueb7 x x.custs[k]]:=by
 unfold ub7
 rw [List.take_take,List.take_take,show min 6 (k + 1) = k + 1 by omega,show min 6 k = k by omega,List.take_succ_eq_append_getElem h,List.map_append]
 rfl
theorem rgb7 {x:xd7} {k:Nat} (h3:6 ≤ k):ub7 x (k + 1) = ub7 x k:=by
 unfold ub7
 rw [List.take_take,List.take_take,show min 6 (k + 1) = 6 by omega,show min 6 k = 6 by omega]
theorem ap7 {x:xd7} {k:Nat} (h:k ≤ x.sats.length):(zc7 x k).length = min k 3:=by unfold zc7; simp; omega
theorem bn7 {x:xd7} {k:Nat} (h:k ≤ x.custs.length):(ub7 x k).length = min k 6:=by unfold ub7; simp; omega
theorem xu7 (x:xd7):1 ≤ (wd7 x).length ∧ (wd7 x).length ≤ 3:=by
 unfold wd7; split
 ·simp
 ·rename_i h
  have:0 < x.sats.length:=List.length_pos_iff.2 h
  rw [ap7 (Nat.le_refl _)]; omega
theorem ur7 (x:xd7):1 ≤ (zd7 x).length ∧ (zd7 x).length ≤ 6:=by
 unfold zd7; split
 ·simp
 ·rename_i h
  have:0 < x.custs.length:=List.length_pos_iff.2 h
  rw [bn7 (Nat.le_refl _)]; omega
theorem vfb7 (x:xd7):3 ≤ tf7 x ∧ tf7 x ≤ 10:=by
 have:=xu7 x; have:=ur7 x; unfold tf7; omega
def uc7 (TS TC TR TI:Nat) (w:World) (B:Nat) (x:ba7) (cs:List Value):Prop :=
 ∃ gs cs1 gc cc1 vco vti gco rco gti rti,cs = [gb7 x.fin,gb7 x.tmany,gb7 x.troom,gb7 x.bmany,gb7 x.broom, .slice (some ⟨gs,0,none⟩) x.sats.length cs1, .slice (some ⟨gc,0,none⟩) x.custs.length cc1,vco,vti] ∧
  (x.sats.length ≤ cs1 ∧ cs1 ≤ maxLen ∧ x.custs.length ≤ cc1 ∧ cc1 ≤ maxLen) ∧ B ≤ gs ∧ B ≤ gc ∧ Row w gs TS (x.sats.flatMap kx7) ∧ Row w gc TC (x.custs.flatMap im7) ∧
  ib7 w B TR TI vco x.cost gco rco ∧ ib7 w B TR TI vti x.time gti rti ∧ gco ≠ gti ∧ (∀ a ∈ rco, ∀ b ∈ rti,a ≠ b)
theorem ib7.keepOn {w w':World} {B TR TI TX:Nat} {v:Value} {rows:List (List Int)} {g:Nat} {rs:List Nat} (h:ib7 w B TR TI v rows g rs) (hk:∀ b e cs,Row w b e cs → e ≠ TX → w'.heap[b]? = w.heap[b]?) (h1:TR ≠ TX) (h2:TI ≠ TX) :
  ib7 w' B TR TI v rows g rs:=by
 obtain ⟨c,k0,k1,k2,k3,k4,k5,k6,k7,k8⟩:=h
 exact ⟨c,k0,k1,k2,k3,k4.keep (hk _ _ _ k4 h1),k5,fun i h h'=>(k6 i h h').keep (hk _ _ _ (k6 i h h') h2),k7,k8⟩
theorem ib7.mono {w:World} {B B' TR TI:Nat} {v:Value} {rows:List (List Int)} {g:Nat} {rs:List Nat} (h:ib7 w B TR TI v rows g rs) (hB:B' ≤ B):ib7 w B' TR TI v rows g rs:=by
 obtain ⟨c,k0,k1,k2,k3,k4,k5,k6,k7,k8⟩:=h
 exact ⟨c,k0,k1,k2,Nat.le_trans hB k3,k4,k5,k6,k7,fun b hb=>Nat.le_trans hB (k8 b hb)⟩
theorem uc7.keepOn {TS TC TR TI TX B:Nat} {w w':World} {x:ba7} {cs:List Value} (h:uc7 TS TC TR TI w B x cs) (hk:∀ b e cs,Row w b e cs → e ≠ TX → w'.heap[b]? = w.heap[b]?)
  (h1:TS ≠ TX) (h2:TC ≠ TX) (h3:TR ≠ TX) (h4:TI ≠ TX):uc7 TS TC TR TI w' B x cs:=by
 obtain ⟨gs,cs1,gc,cc1,vco,vti,gco,rco,gti,rti,k0,k1,k2,k3,k4,k5,k6,k7,k8,k9⟩:=h
 exact ⟨gs,cs1,gc,cc1,vco,vti,gco,rco,gti,rti,k0,k1,k2,k3,k4.keep (hk _ _ _ k4 h1),k5.keep (hk _ _ _ k5 h2),k6.keepOn hk h3 h4,k7.keepOn hk h3 h4,k8,k9⟩
theorem uc7.mono {TS TC TR TI B B':Nat} {w:World} {x:ba7} {cs:List Value} (h:uc7 TS TC TR TI w B x cs) (hB:B' ≤ B):uc7 TS TC TR TI w B' x cs:=by
 obtain ⟨gs,cs1,gc,cc1,vco,vti,gco,rco,gti,rti,k0,k1,k2,k3,k4,k5,k6,k7,k8,k9⟩:=h
 exact ⟨gs,cs1,gc,cc1,vco,vti,gco,rco,gti,rti,k0,k1,Nat.le_trans hB k2,Nat.le_trans hB k3,k4,k5,k6.mono hB,k7.mono hB,k8,k9⟩
theorem uc7.below {TS TC TR TI B:Nat} {w w':World} {x:ba7} {cs:List Value} (h:uc7 TS TC TR TI w B x cs) (hb:Below w.heap.size w w'):uc7 TS TC TR TI w' B x cs:=by
 obtain ⟨gs,cs1,gc,cc1,vco,vti,gco,rco,gti,rti,h0,h1,h2,h3,h4,h5,h6,h7,h8,h9⟩:=h
 exact ⟨gs,cs1,gc,cc1,vco,vti,gco,rco,gti,rti,h0,h1,h2,h3,h4.below hb,h5.below hb,h6.below hb,h7.below hb,h8,h9⟩
def ks7 (x:ba7):Prop :=
 (wa7 x.fin ∧ wa7 x.tmany ∧ wa7 x.troom ∧ wa7 x.bmany ∧ wa7 x.broom) ∧ (∀ s ∈ x.sats,wa7 s.room ∧ wa7 s.hold) ∧ (∀ c ∈ x.custs,wa7 c.load ∧ wa7 c.opn ∧ wa7 c.cls ∧ wa7 c.stay) ∧
  (∀ r ∈ x.cost,r.length ≤ maxLen ∧ ∀ v ∈ r,wa7 v) ∧ ∀ r ∈ x.time,r.length ≤ maxLen ∧ ∀ v ∈ r,wa7 v
theorem vj7 {α β:Type} (f:α → List β) (k:Nat) (hf:∀ x,(f x).length = k):∀ (xs:List α) (i j:Nat) (hi:i < xs.length),j < k → (xs.flatMap f)[i * k + j]? = (f xs[i])[j]?
 | x :: xs,0,j,_,hj=>by
  rw [List.flatMap_cons,Nat.zero_mul,Nat.zero_add,List.getElem?_append_left (by rw [hf]; exact hj)]; rfl
 | x :: xs,i + 1,j,hi,hj=>by
  rw [List.flatMap_cons,List.getElem?_append_right (by rw [hf,Nat.succ_mul]; omega),hf,show (i + 1) * k + j - k = i * k + j by rw [Nat.succ_mul]; omega]
  exact vj7 f k hf xs i j (by simpa using hi) hj
theorem Row.get {w:World} {g:Nat} {e:TypeId} {cs:List Value} (h:Row w g e cs) {j:Nat} {v:Value} (hv:cs[j]? = some v):w.cell? ⟨g,j,none⟩ = some v:=by
 obtain ⟨hj,rfl⟩:=List.getElem?_eq_some_iff.1 hv
 exact h.cell hj
theorem wpb7 {TS:Nat} {w:World} {F:Nat → Prop} {xs:List qhb7} {g c:Nat} (h:Row w g TS (xs.flatMap kx7)) (h1:xs.length ≤ c) (h2:c ≤ maxLen) (hF:F g) (hw:∀ s ∈ xs,wa7 s.room ∧ wa7 s.hold) :
  hgb7.rep w F xs [.slice (some ⟨g,0,none⟩) xs.length c]:=by
 refine ⟨some ⟨g,0,none⟩,g,0,c,rfl,h1,h2,fun _=>⟨rfl,hF⟩,fun i hi=>⟨kx7 xs[i],⟨rfl,hw _ (List.getElem_mem hi)⟩,fun j hj => ?_⟩⟩
 have hj2:j < 2:=hj
 have e:=vj7 kx7 2 (fun _=>rfl) xs i j hi hj2
 have e2:(kx7 xs[i])[j]? = some ((kx7 xs[i])[j]'hj2):=List.getElem?_eq_getElem hj2
 rw [e2] at e ⊢
 rw [Nat.zero_add]
 exact h.get e
theorem fib7 {TS:Nat} {w:World} {F:Nat → Prop} {xs:List nn7} {g c:Nat} (h:Row w g TS (xs.flatMap im7)) (h1:xs.length ≤ c) (h2:c ≤ maxLen) (hF:F g) (hw:∀ c ∈ xs,wa7 c.load ∧ wa7 c.opn ∧ wa7 c.cls ∧ wa7 c.stay) :
  nu7.rep w F xs [.slice (some ⟨g,0,none⟩) xs.length c]:=by
 refine ⟨some ⟨g,0,none⟩,g,0,c,rfl,h1,h2,fun _=>⟨rfl,hF⟩,fun i hi=>⟨im7 xs[i],⟨rfl,hw _ (List.getElem_mem hi)⟩,fun j hj => ?_⟩⟩
 have hj2:j < 4:=hj
 have e:=vj7 im7 4 (fun _=>rfl) xs i j hi hj2
 have e2:(im7 xs[i])[j]? = some ((im7 xs[i])[j]'hj2):=List.getElem?_eq_getElem hj2
 rw [e2] at e ⊢
 rw [Nat.zero_add]
 exact h.get e
theorem qx7 {TI:Nat} {w:World} {F:Nat → Prop} {xs:List Int} {g c:Nat} (h:Row w g TI (xs.map gb7)) (h1:xs.length ≤ c) (h2:c ≤ maxLen) (hF:F g) (hw:∀ v ∈ xs,wa7 v) :
  (ga7 ge7).rep w F xs [.slice (some ⟨g,0,none⟩) xs.length c]:=by
 refine ⟨some ⟨g,0,none⟩,g,0,c,rfl,h1,h2,fun _=>⟨rfl,hF⟩,fun i hi=>⟨[gb7 xs[i]],⟨rfl,hw _ (List.getElem_mem hi)⟩,fun j hj => ?_⟩⟩
 have hj1:j < 1:=hj
 have hj0:j = 0:=by omega
 subst hj0
 show w.cell? ⟨g,0 + i * 1 + 0,none⟩ = some (gb7 xs[i])
 rw [show 0 + i * 1 + 0 = i by omega]
 exact h.get (by simp [List.getElem?_eq_getElem hi])
theorem ib7.rep {TR TI B:Nat} {w:World} {v:Value} {rows:List (List Int)} {g:Nat} {rs:List Nat} (h:ib7 w B TR TI v rows g rs) (hw:∀ r ∈ rows,r.length ≤ maxLen ∧ ∀ v ∈ r,wa7 v) :
  gg7.rep w (fun b=>B ≤ b) rows [v]:=by
 obtain ⟨c,rfl,h1,h2,h3,h4,h5,h6,h7,h8⟩:=h
 refine ⟨some ⟨g,0,none⟩,g,0,c,rfl,h1,h2,fun _=>⟨rfl,h3⟩,fun i hi=>⟨[ncb7 (rs[i]'(by omega)) rows[i]], ?_,fun j hj => ?_⟩⟩
 ·have hb:=h8 _ (List.getElem_mem (l:=rs) (n:=i) (by omega))
  exact qx7 (h6 i (by omega) hi) (Nat.le_refl _) (hw _ (List.getElem_mem hi)).1 hb (hw _ (List.getElem_mem hi)).2
 ·have hj1:j < 1:=hj
  have hj0:j = 0:=by omega
  subst hj0
  show w.cell? ⟨g,0 + i * 1 + 0,none⟩ = some (ncb7 (rs[i]'(by omega)) rows[i])
  rw [show 0 + i * 1 + 0 = i by omega]
  exact h4.get (by rw [List.getElem?_zipWith,List.getElem?_eq_getElem (by omega:i < rs.length),List.getElem?_eq_getElem hi])
theorem uc7.rep {TS TC TR TI B:Nat} {w:World} {x:ba7} {cs:List Value} (h:uc7 TS TC TR TI w B x cs) (hw:ks7 x):fb7.rep w (fun b=>B ≤ b) x cs:=by
 obtain ⟨gs,cs1,gc,cc1,vco,vti,gco,rco,gti,rti,rfl,⟨k1,k2,k3,k4⟩,h2,h3,h4,h5,h6,h7, -, -⟩:=h
 exact ⟨_,_,_,_,rfl,hw.1,wpb7 h4 k1 k2 h2 hw.2.1,fib7 h5 k3 k4 h3 hw.2.2.1,h6.rep hw.2.2.2.1,h7.rep hw.2.2.2.2⟩
theorem uc7.lit {TS TC TR TI B:Nat} {w:World} {x:ba7} {cs:List Value} (h:uc7 TS TC TR TI w B x cs):∃ gs cs1 gc cc1 gco cco gti cti,
  cs = [.int .i64 x.fin, .int .i64 x.tmany, .int .i64 x.troom, .int .i64 x.bmany, .int .i64 x.broom, .slice (some ⟨gs,0,none⟩) x.sats.length cs1, .slice (some ⟨gc,0,none⟩) x.custs.length cc1, .slice (some ⟨gco,0,none⟩) x.cost.length cco, .slice (some ⟨gti,0,none⟩) x.time.length cti]:=by
 obtain ⟨gs,cs1,gc,cc1,vco,vti,gco,rco,gti,rti,rfl, -, -, -, -, -,⟨c,rfl,_⟩,⟨c',rfl,_⟩, -, -⟩:=h
 exact ⟨_,_,_,_,_,_,_,_,rfl⟩
end Go.Proofs.Ytabadfkikdefeaa

namespace Go.Proofs.Ytabadfkikdefeaa
open Go.RowKit
def gm7 (n l:Int):Bool:=decide (l ≤ n) && decide (n ≤ 1000000000)
theorem ipb7 (n l:Int) (w:World) :
  Calls Try.prog 98 #[.int .i64 n, .int .i64 l] w fun e w'=>e = .returned (.bool (gm7 n l)) ∧ w' = w:=by
 by_cases h1:l ≤ n <;> by_cases h2:n ≤ 1000000000
 all_goals
  go_enter Try.func98,Try.ntmps98
  go_wp2
  go_ret
  exact ⟨cd7 (by simp [gm7]; omega),rfl⟩
def manyB (n m:Int):Bool:=decide (1 ≤ n) && decide (n ≤ m)
theorem pyb7 (n m:Int) (w:World) :
  Calls Try.prog 73 #[.int .i64 n, .int .i64 m] w fun e w'=>e = .returned (.bool (manyB n m)) ∧ w' = w:=by
 by_cases h1:1 ≤ n <;> by_cases h2:n ≤ m
 all_goals
  go_enter Try.func73,Try.ntmps73
  go_wp2
  go_ret
  exact ⟨cd7 (by simp [manyB]; omega),rfl⟩
def nodes (x:ba7):Nat:=1 + x.sats.length + x.custs.length
theorem tcb7 {w:World} {F:Nat → Prop} {x:ba7} {cs:List Value} (h:fb7.rep w F x cs) (hl:x.sats.length ≤ 1000000) (hl':x.custs.length ≤ 1000000) :
  Calls Try.prog 75 #[.agg cs.toArray] w fun e w'=>e = .returned (.int .i64 (nodes x:Nat)) ∧ Below w.heap.size w w':=by
 obtain ⟨s,c,co,ti,rfl, -,h1,h2, -, -⟩:=h
 obtain ⟨a,b,off,c1,hs, -, -, -, -, -, -⟩:=rc7 h1
 obtain ⟨a',b',off',c1',hs', -, -, -, -, -, -⟩:=sf7 h2
 obtain rfl:=List.cons.inj hs |>.1
 obtain rfl:=List.cons.inj hs' |>.1
 clear hs hs' h1 h2
 go_enter Try.func75,Try.ntmps75
 go_wp2
 go_ret
 exact ⟨mb7 (by simp [nodes]),(Below.refl _ _).alloc (Nat.le_refl _) _⟩
theorem sab7 {w:World} {F:Nat → Prop} {r:List Int} {v:Value} (h:(ga7 ge7).rep w F r [v]) (q:Nat) (n:Int) (hq:w.cell? ⟨q,0,none⟩ = some (.int .i64 n)) :
  Calls Try.prog 97 #[v, .pointer (some ⟨q,0,none⟩)] w fun e w'=>e = .returned (.bool ((r.length:Int) != n)) ∧ w' = w:=by
 obtain ⟨a,b,off,c1,hs, -, -, -, -, -, -⟩:=bb7 h
 obtain rfl:=List.cons.inj hs |>.1
 clear hs h
 go_enter Try.func97,Try.ntmps97
 go_wp2
 go_ret
 exact ⟨rfl,rfl⟩
def idxOf {α:Type} (p:α → Bool) (l:List α):Int:=match l.findIdx? p with | some i=>(i:Int) | none => -1
theorem srb7 {α:Type} {p:α → Bool} {l:List α} {k:Nat} (hk:k < l.length) (h0:∀ j (h:j < k),p (l[j]'(Nat.lt_trans h hk)) = false) (h:p l[k] = true):idxOf p l = k:=by
 unfold idxOf
 have:l.findIdx? p = some k:=List.findIdx?_eq_some_iff_getElem.2 ⟨hk,h,fun j hj=>by simpa using h0 j hj⟩
 rw [this]
theorem ynb7 {α:Type} {p:α → Bool} {l:List α} (h0:∀ j (h:j < l.length),p l[j] = false):idxOf p l = -1:=by
 unfold idxOf
 have:l.findIdx? p = none:=List.findIdx?_eq_none_iff.2 fun x hx=>by
  obtain ⟨j,hj,rfl⟩:=List.getElem_of_mem hx
  exact h0 j hj
 rw [this]
theorem bvb7 {α:Type} (p:α → Bool) (l:List α):decide (0 ≤ idxOf p l) = l.any p:=by
 unfold idxOf
 cases h:l.findIdx? p with
 | none =>
  rw [List.findIdx?_eq_none_iff] at h
  have:l.any p = false:=by
   rw [List.any_eq_false]; intro x hx; simp [h x hx]
  rw [this]; rfl
 | some i =>
  obtain ⟨hi,hp,_⟩:=List.findIdx?_eq_some_iff_getElem.1 h
  have:l.any p = true:=List.any_eq_true.2 ⟨l[i],List.getElem_mem hi,hp⟩
  rw [this]; simp
theorem sdb7 {w:World} {F:Nat → Prop} {l:List (List Int)} {v:Value} (h:gg7.rep w F l [v]) (q:Nat) (n:Int) (hq:w.cell? ⟨q,0,none⟩ = some (.int .i64 n)) :
  Calls Try.prog 114 #[v, .func (.func 97) #[] #[.pointer (some ⟨q,0,none⟩)]] w fun e w'=>e = .returned (.int .i64 (idxOf (fun r:List Int=>(r.length:Int) != n) l)) ∧ w' = w:=by
 obtain ⟨a,b,off,c1,hs,hlc,hc,ha,hF,hcell⟩:=lc7 h
 obtain rfl:=List.cons.inj hs |>.1
 clear hs h
 go_enter Try.func114,Try.ntmps114
 go_wp2
 go_loop [5,8] (fun _ i => ∃ k:Nat,k ≤ l.length ∧ i = .int .i64 k ∧ ∀ j (h:j < l.length),j < k → ((l[j].length:Int) != n) = false) (fun _ i=>l.length - (intOf i).toNat)
 case atStart=>exact ⟨0,Nat.zero_le _,rfl,fun _ _ h=>absurd h (Nat.not_lt_zero _)⟩
 case round =>
  obtain ⟨k,hk,rfl,hp⟩:=hrel
  by_cases hlt:k < l.length
  ·have hx:=la7 (c:=c1) Try.underlying26 pf7 (ha (by omega)) hlt
   obtain ⟨v,hv,hr⟩:=hcell k hlt
   have HP:=hid hp
   clear hp hcell ha
   cases hpk:((l[k].length:Int) != n)
   ·go_wp2_with ((with_reducible refine (sab7 hr q n hq).mono ?_); rintro e w' ⟨rfl,rfl⟩)
    go_round
    case rel=>exact ⟨k + 1,by omega,by go_num,fun j hj hjk=>by
     by_cases hjk':j = k
     ·subst hjk'; exact hpk
     ·exact HP.out j hj (by omega)⟩
    case measure=>simp [intOf]; omega
   ·go_wp2_with ((with_reducible refine (sab7 hr q n hq).mono ?_); rintro e w' ⟨rfl,rfl⟩)
    go_ret
    exact ⟨mb7 (srb7 (p:=fun r:List Int=>(r.length:Int) != n) hlt (fun j hj=>HP.out j (by omega) hj) hpk).symm,rfl⟩
  ·have HP:=hid hp
   clear hp hcell ha
   go_wp2
   go_ret
   exact ⟨mb7 (ynb7 (p:=fun r:List Int=>(r.length:Int) != n) (fun j hj=>HP.out j hj (by omega))).symm,rfl⟩
theorem gu7 {w:World} {F:Nat → Prop} {l:List (List Int)} {v:Value} (h:gg7.rep w F l [v]) (q:Nat) (n:Int) (hq:w.cell? ⟨q,0,none⟩ = some (.int .i64 n)) :
  Calls Try.prog 96 #[v, .func (.func 97) #[] #[.pointer (some ⟨q,0,none⟩)]] w fun e w'=>e = .returned (.bool (l.any (fun r:List Int=>(r.length:Int) != n))) ∧ w' = w:=by
 go_enter Try.func96,Try.ntmps96
 go_wp2_with ((with_reducible refine (sdb7 h q n hq).mono ?_); rintro e w' ⟨rfl,rfl⟩)
 go_ret
 exact ⟨cd7 (bvb7 _ _),rfl⟩
def kg7 (l:List (List Int)) (n:Int):Bool:=((l.length:Int) == n) && !(l.any (fun r:List Int=>(r.length:Int) != n))
theorem kpb7 {w:World} {F:Nat → Prop} {l:List (List Int)} {v:Value} (h:gg7.rep w F l [v]) (n:Int) :
  Calls Try.prog 74 #[v, .int .i64 n] w fun e w'=>e = .returned (.bool (kg7 l n)) ∧ Below w.heap.size w w':=by
 obtain ⟨a,b,off,c1,hs, -, -, -, -, -⟩:=lc7 h
 obtain rfl:=List.cons.inj hs |>.1
 clear hs
 have hb:Below w.heap.size w (w.alloc (.cells #[.int .i64 n] 3)):=(Below.refl _ _).alloc (Nat.le_refl _) _
 have h':=gg7.below h hb
 have hq:(w.alloc (.cells #[.int .i64 n] 3)).cell? ⟨w.heap.size,0,none⟩ = some (.int .i64 n):=by simp
 cases hn:((l.length:Int) == n)
 ·go_enter Try.func74,Try.ntmps74
  go_wp2
  go_ret
  exact ⟨cd7 (by simp [kg7,hn]),hb⟩
 ·go_enter Try.func74,Try.ntmps74
  go_wp2_with ((with_reducible refine (gu7 h' w.heap.size n hq).mono ?_); rintro e w' ⟨rfl,rfl⟩)
  go_ret
  exact ⟨cd7 (by simp [kg7,hn]),hb⟩
theorem peb7 {w:World} {F:Nat → Prop} {l:List (List Int)} {v:Value} (h:gg7.rep w F l [v]) {n:Int} {b:Bool} (hb:kg7 l n = b) :
  Calls Try.prog 74 #[v, .int .i64 n] w fun e w'=>e = .returned (.bool b) ∧ Below w.heap.size w w':=by
 subst hb; exact kpb7 h n
def qxb7 (s:qhb7):Bool:=gm7 s.room 0 && gm7 s.hold 0
def umb7 (c:nn7):Bool:=gm7 c.load 1 && gm7 c.opn 0 && gm7 c.cls c.opn && gm7 c.stay 0
def xkb7 (i k:Nat) (n:Int):Bool:=gm7 n 0 && (((i:Int) != (k:Int)) || n == 0)
def mqb7 (i:Nat) (r:List Int) (m:Nat):Bool:=(List.range m).all fun k=>xkb7 i k (r.getD k 0)
def mmb7 (l:List (List Int)) (m:Nat):Bool:=(List.range m).all fun i=>mqb7 i (l.getD i []) (l.getD i []).length
def ihb7 (x:ba7):Bool:=gm7 x.fin 0 && gm7 x.troom 0 && gm7 x.broom 0
def sl7 (x:ba7):Bool:=ihb7 x && x.sats.all qxb7 && x.custs.all umb7 && mmb7 x.cost x.cost.length && mmb7 x.time x.time.length
theorem fmb7 (i:Nat) (r:List Int) (k:Nat) (h:k < r.length):mqb7 i r (k + 1) = (mqb7 i r k && xkb7 i k r[k]):=by
 unfold mqb7; rw [List.range_succ,List.all_append]; simp [List.getD,List.getElem?_eq_getElem h]
theorem wkb7 (l:List (List Int)) (k:Nat) (h:k < l.length):mmb7 l (k + 1) = (mmb7 l k && mqb7 k l[k] l[k].length):=by
 unfold mmb7; rw [List.range_succ,List.all_append]; simp [List.getD,List.getElem?_eq_getElem h]
def qk7 (x:ba7) (k:Nat):Bool:=ihb7 x && (x.sats.take k).all qxb7
def li7 (x:ba7) (k:Nat):Bool:=qk7 x x.sats.length && (x.custs.take k).all umb7
theorem ycb7 (x:ba7) (k:Nat) (h:k < x.sats.length):qk7 x (k + 1) = (qk7 x k && qxb7 x.sats[k]):=by
 unfold qk7; rw [to7 _ _ _ h,Bool.and_assoc]
theorem nz7 (x:ba7) (k:Nat) (h:k < x.custs.length):li7 x (k + 1) = (li7 x k && umb7 x.custs[k]):=by
 unfold li7; rw [to7 _ _ _ h,Bool.and_assoc]
def igb7 (x:ba7) (k:Nat):List (List Int):=if k = 0 then x.cost else x.time
def tk7 (x:ba7) (k:Nat):Bool:=li7 x x.custs.length && (List.range k).all fun j=>mmb7 (igb7 x j) (igb7 x j).length
theorem lbb7 (x:ba7) (k:Nat):tk7 x (k + 1) = (tk7 x k && mmb7 (igb7 x k) (igb7 x k).length):=by
 unfold tk7; rw [List.range_succ,List.all_append, ← Bool.and_assoc]; simp
theorem agb7 (x:ba7):tk7 x 2 = sl7 x:=by
 simp [tk7,li7,qk7,sl7,igb7,List.range_succ,Bool.and_assoc]
theorem vhb7 (p q r s:Bool):p = false ∨ (p = true ∧ q = false) ∨ (p = true ∧ q = true ∧ r = true) ∨ (p = true ∧ q = true ∧ r = false ∧ s = false) ∨ (p = true ∧ q = true ∧ r = false ∧ s = true):=by
 cases p <;> cases q <;> cases r <;> cases s <;> simp
def nw7 (x:ba7) (j i:Nat) (l:List (List Int)):Bool:=tk7 x j && mmb7 l i
def vn7 (x:ba7) (j i k:Nat) (l:List (List Int)) (r:List Int):Bool:=nw7 x j i l && mqb7 i r k
theorem bhb7 (x:ba7) (j i:Nat) (l:List (List Int)) (h:i < l.length):nw7 x j (i + 1) l = vn7 x j i l[i].length l l[i]:=by
 unfold vn7 nw7; rw [wkb7 _ _ h,Bool.and_assoc]
theorem qdb7 (x:ba7) (j i k:Nat) (l:List (List Int)) (r:List Int) (h:k < r.length):vn7 x j i (k + 1) l r = (vn7 x j i k l r && xkb7 i k r[k]):=by
 unfold vn7; rw [fmb7 _ _ _ h,Bool.and_assoc]
theorem dab7 {w:World} {F:Nat → Prop} {x:ba7} {cs:List Value} (h:fb7.rep w F x cs) :
  Calls Try.prog 76 #[.agg cs.toArray] w fun e w'=>e = .returned (.bool (sl7 x)) ∧ Below w.heap.size w w':=by
 obtain ⟨s,c,co,ti,rfl, -,h1,h2,h3,h4⟩:=h
 obtain ⟨a,b,off,c1,hs,hlc,hc,ha, -,hcell, -⟩:=rc7 h1
 obtain ⟨a',b',off',c1',hs',hlc',hc',ha', -,hcell', -⟩:=sf7 h2
 obtain rfl:=List.cons.inj hs |>.1
 obtain rfl:=List.cons.inj hs' |>.1
 obtain ⟨a3,b3,off3,c3,hs3,hlc3,hc3,ha3, -,hcell3⟩:=lc7 h3
 obtain ⟨a4,b4,off4,c4,hs4,hlc4,hc4,ha4, -,hcell4⟩:=lc7 h4
 obtain rfl:=List.cons.inj hs3 |>.1
 obtain rfl:=List.cons.inj hs4 |>.1
 clear hs hs' h1 h2 hs3 hs4 h3 h4
 have hst:qk7 x 0 = ihb7 x:=by simp [qk7]
 have HST:=hid hst
 clear hst
 go_enter Try.func76,Try.ntmps76
 go_upto_region 1 with fail
 go_cut [3] (fun s3 wx=>s3 = .bool (qk7 x 0) ∧ Below w.heap.size w wx ∧ w.heap.size < wx.heap.size ∧ wx.cell? ⟨w.heap.size,5,none⟩ = some (.slice a x.sats.length c1) ∧
  wx.cell? ⟨w.heap.size,6,none⟩ = some (.slice a' x.custs.length c1') ∧ wx.cell? ⟨w.heap.size,7,none⟩ = some (.slice a3 x.cost.length c3) ∧ wx.cell? ⟨w.heap.size,8,none⟩ = some (.slice a4 x.time.length c4))
 case first =>
  cases e1:gm7 x.fin 0 <;> cases e2:gm7 x.troom 0 <;> cases e3:gm7 x.broom 0
  all_goals
   have HH:Hid (ihb7 x = (gm7 x.fin 0 && gm7 x.troom 0 && gm7 x.broom 0)):=rfl
   go_wp2_with ((with_reducible refine (ipb7 _ _ _).mono ?_); rintro e w' ⟨rfl,rfl⟩)
   go_meet
   exact ⟨by rw [HST.out,HH.out,e1,e2,e3]; rfl,(Below.refl _ _).alloc (Nat.le_refl _) _,by simp,by simp,by simp,by simp,by simp⟩
 case rest =>
  obtain ⟨rfl,hb0,hz,q3,q4,q5,q6⟩:=hcut
  clear HST
  obtain ⟨w0,rfl⟩:∃ w0:World,w0 = wc:=⟨_,rfl⟩
  go_wp2
  go_loopw [3,32] (fun ok i wr => ∃ k:Nat,k ≤ x.sats.length ∧ i = .int .i64 k ∧ ok = .bool (qk7 x k) ∧ Below w0.heap.size w0 wr) (fun _ i _=>x.sats.length - (intOf i).toNat)
  case atStart=>exact ⟨0,Nat.zero_le _,rfl,rfl,Below.refl _ _⟩
  case round =>
   obtain ⟨k,hk,rfl,rfl,hb⟩:=hrel
   by_cases hlt:k < x.sats.length
   ·have hx:=nb7 (c:=c1) Try.underlying46 ny7 (ha (by omega)) hlt
    have g0:=aa7 (hb0.trans (hb.mono (by omega))) (hcell k hlt).1
    have g1:=aa7 (hb0.trans (hb.mono (by omega))) (hcell k hlt).2
    have HS:=hid (ycb7 x k hlt)
    have HB:Hid (qxb7 x.sats[k] = (gm7 x.sats[k].room 0 && gm7 x.sats[k].hold 0)):=rfl
    clear hcell hcell' ha ha'
    cases e0:qk7 x k <;> cases e1:gm7 x.sats[k].room 0 <;> cases e2:gm7 x.sats[k].hold 0
    all_goals
     go_wp2_with ((with_reducible refine (ipb7 _ _ _).mono ?_); rintro e w' ⟨rfl,rfl⟩)
     go_roundw
     case rel=>exact ⟨k + 1,by omega,by go_num,by rw [HS.out,HB.out,e0,e1,e2]; rfl,(hb.alloc hb.size _)⟩
     case measure=>simp [intOf]; omega
   ·have hks:k = x.sats.length:=by omega
    subst hks
    clear hcell ha
    have hb1:=hb0.trans (hb.mono (by omega))
    have r4:=aa7 hb q4
    have r5:=aa7 hb q5
    have r6:=aa7 hb q6
    have hz1:w.heap.size < wr.heap.size:=Nat.lt_of_lt_of_le hz hb.size
    clear q3 q4 q5 q6 hz hb0 hb
    go_wp2
    obtain ⟨w1,rfl⟩:∃ w1:World,w1 = wr:=⟨_,rfl⟩
    have HC0:qk7 x x.sats.length = li7 x 0:=by simp [li7]
    rw [HC0]
    clear HC0
    go_loopw [3,51] (fun ok i wr => ∃ k:Nat,k ≤ x.custs.length ∧ i = .int .i64 k ∧ ok = .bool (li7 x k) ∧ Below w1.heap.size w1 wr) (fun _ i _=>x.custs.length - (intOf i).toNat)
    case atStart=>exact ⟨0,Nat.zero_le _,rfl,rfl,Below.refl _ _⟩
    case round =>
     obtain ⟨k,hk,rfl,rfl,hb⟩:=hrel
     by_cases hlt:k < x.custs.length
     ·have hx:=nb7 (c:=c1') Try.underlying47 pp7 (ha' (by omega)) hlt
      have g0:=aa7 (hb1.trans (hb.mono (by omega))) (hcell' k hlt).1
      have g1:=aa7 (hb1.trans (hb.mono (by omega))) (hcell' k hlt).2.1
      have g2:=aa7 (hb1.trans (hb.mono (by omega))) (hcell' k hlt).2.2.1
      have g3:=aa7 (hb1.trans (hb.mono (by omega))) (hcell' k hlt).2.2.2
      have HS:=hid (nz7 x k hlt)
      have HB:Hid (umb7 x.custs[k] = (gm7 x.custs[k].load 1 && gm7 x.custs[k].opn 0 && gm7 x.custs[k].cls x.custs[k].opn && gm7 x.custs[k].stay 0)):=rfl
      clear hcell' ha' r4 r5 r6
      rcases cwb7 (li7 x k) (gm7 x.custs[k].load 1) (gm7 x.custs[k].opn 0) (gm7 x.custs[k].cls x.custs[k].opn) (gm7 x.custs[k].stay 0) with e0 | ⟨e0,e1⟩ | ⟨e0,e1,e2⟩ | ⟨e0,e1,e2,e3⟩ | ⟨e0,e1,e2,e3,e4⟩ | ⟨e0,e1,e2,e3,e4⟩
      all_goals
       go_wp2_with ((with_reducible refine (ipb7 _ _ _).mono ?_); rintro e w' ⟨rfl,rfl⟩)
       go_roundw
       case rel=>exact ⟨k + 1,by omega,by go_num,by rw [HS.out,HB.out]; first | (rw [e0]; rfl) | (rw [e0,e1]; rfl) | (rw [e0,e1,e2]; rfl) | (rw [e0,e1,e2,e3]; rfl) | (rw [e0,e1,e2,e3,e4]; rfl),(hb.alloc hb.size _)⟩
       case measure=>simp [intOf]; omega
     ·have hks:k = x.custs.length:=by omega
      subst hks
      clear hcell' ha' r4
      have hb2:=hb1.trans (hb.mono (by omega))
      have q5:=aa7 hb r5
      have q6:=aa7 hb r6
      have hz2:w.heap.size < wr.heap.size:=Nat.lt_of_lt_of_le hz1 hb.size
      clear r5 r6 hz1 hb1 hb
      go_wp2
      obtain ⟨w2,rfl⟩:∃ w2:World,w2 = wr:=⟨_,rfl⟩
      have HM0:li7 x x.custs.length = tk7 x 0:=by simp [tk7]
      rw [HM0]
      clear HM0
      go_loop [3,84] (fun ok i => ∃ j:Nat,j ≤ 2 ∧ i = .int .i64 j ∧ ok = .bool (tk7 x j)) (fun _ i=>2 - (intOf i).toNat)
      case atStart=>exact ⟨0,by omega,rfl,rfl⟩
      case round =>
       obtain ⟨j,hj,rfl,rfl⟩:=hrel
       by_cases hlt:j < 2
       ·have hm:∃ (l:List (List Int)) (am:Option Addr) (bm offm cm:Nat),l = igb7 x j ∧ (∀ w',(Instr.index 183 (.agg #[.slice a3 x.cost.length c3, .slice a4 x.time.length c4]) (.int .i64 (j:Int))).run Try.prog w' = .ok (.slice am l.length cm) w') ∧
          l.length ≤ cm ∧ cm ≤ 9223372036854775807 ∧ (0 < l.length → am = some ⟨bm,offm,none⟩) ∧ ∀ k (h:k < l.length), ∃ v,w2.cell? ⟨bm,offm + k,none⟩ = some v ∧ (ga7 ge7).rep w2 F l[k] [v]:=by
         have hj2:j = 0 ∨ j = 1:=by omega
         rcases hj2 with rfl | rfl
         ·exact ⟨x.cost,a3,b3,off3,c3,rfl,fun _=>by kernel_rfl,hlc3,hc3,ha3,fun k h=>let ⟨v,h1,h2⟩:=hcell3 k h; ⟨v,aa7 hb2 h1,(ga7 ge7).below h2 hb2⟩⟩
         ·exact ⟨x.time,a4,b4,off4,c4,rfl,fun _=>by kernel_rfl,hlc4,hc4,ha4,fun k h=>let ⟨v,h1,h2⟩:=hcell4 k h; ⟨v,aa7 hb2 h1,(ga7 ge7).below h2 hb2⟩⟩
        obtain ⟨l,am,bm,offm,cm,hl,hix,hlm,hcm,ham,hcm'⟩:=hm
        have HL:=hid hl
        clear hl ha3 ha4 hcell3 hcell4
        have HR0:tk7 x j = nw7 x j 0 l:=by simp [nw7,mmb7]
        rw [HR0]
        go_wp2
        go_loop [3,89] (fun ok i => ∃ k:Nat,k ≤ l.length ∧ i = .int .i64 k ∧ ok = .bool (nw7 x j k l)) (fun _ i=>l.length - (intOf i).toNat)
        case atStart=>exact ⟨0,by omega,rfl,rfl⟩
        case round =>
         obtain ⟨k,hk,rfl,rfl⟩:=hrel
         by_cases hlt2:k < l.length
         ·have hx:=la7 (c:=cm) Try.underlying26 pf7 (ham (by omega)) hlt2
          obtain ⟨v,hv,hr⟩:=hcm' k hlt2
          have HS:=hid (bhb7 x j k l hlt2)
          have HC0:nw7 x j k l = vn7 x j k 0 l l[k]:=by simp [vn7,mqb7]
          rw [HC0]
          clear hcm' ham HC0
          obtain ⟨r,hr'⟩:∃ r,r = l[k]:=⟨_,rfl⟩
          rw [← hr'] at hr
          rw [← hr']
          obtain ⟨ar,br,offr,cr,hsr,hlr,hcr,har, -,hcr2, -⟩:=bb7 hr
          obtain rfl:=List.cons.inj hsr |>.1
          have HR:=hid hr'
          clear hsr hr hr'
          go_wp2
          go_loop [3,96] (fun ok i => ∃ m:Nat,m ≤ r.length ∧ i = .int .i64 m ∧ ok = .bool (vn7 x j k m l r)) (fun _ i=>r.length - (intOf i).toNat)
          case atStart=>exact ⟨0,by omega,rfl,rfl⟩
          case round =>
           obtain ⟨m,hm,rfl,rfl⟩:=hrel
           by_cases hlt3:m < r.length
           ·have hx3:=la7 (c:=cr) Try.underlying43 xb7 (har (by omega)) hlt3
            have g:=hcr2 m hlt3
            have HS3:=hid (qdb7 x j k m l r hlt3)
            have HB3:Hid (xkb7 k m r[m] = (gm7 r[m] 0 && (((k:Int) != (m:Int)) || r[m] == 0))):=rfl
            clear hcr2 har
            rcases vhb7 (vn7 x j k m l r) (gm7 r[m] 0) ((k:Int) != (m:Int)) (r[m] == 0) with e0 | ⟨e0,e1⟩ | ⟨e0,e1,e2⟩ | ⟨e0,e1,e2,e3⟩ | ⟨e0,e1,e2,e3⟩
            all_goals
             go_wp2_with ((with_reducible refine (ipb7 _ _ _).mono ?_); rintro e w' ⟨rfl,rfl⟩)
             go_round
             case rel=>exact ⟨m + 1,by omega,by go_num,by rw [HS3.out,HB3.out]; first | (rw [e0]; rfl) | (rw [e0,e1]; rfl) | (rw [e0,e1,e2]; rfl) | (rw [e0,e1,e2,e3]; rfl)⟩
             case measure=>simp [intOf]; omega
           ·have hmr:m = r.length:=by omega
            subst hmr
            clear hcr2 har
            go_wp2
            go_round
            case rel=>exact ⟨k + 1,by omega,by go_num,by rw [HS.out, ← HR.out]⟩
            case measure=>simp [intOf]; omega
         ·have hkl:k = l.length:=by omega
          subst hkl
          have HN:Hid (tk7 x (j + 1) = nw7 x j l.length l):=by rw [lbb7]; unfold nw7; rw [HL.out]; rfl
          clear hcm' ham
          go_wp2
          go_round
          case rel=>exact ⟨j + 1,by omega,by go_num,by rw [HN.out]⟩
          case measure=>simp [intOf]; omega
       ·have hj2:j = 2:=by omega
        subst hj2
        have HE:=hid (agb7 x)
        go_wp2
        go_ret
        exact ⟨cd7 HE.out,hb2⟩
structure Ext (W:World) where
 val:World
 ok:Below W.heap.size W val
instance (W:World):Nonempty (Ext W):=⟨⟨W,Below.refl _ _⟩⟩
theorem mx7 {P:Program} {id:Nat} {Q:Exit → Act → World → Prop} {a:Act} {w:World} {l:List Oper} (hm:P.follows .mixedOrders = true) (hB:Region.lexB .any l.toArray = true)
  (h:wpQuiet P l.toArray (fun w' => ∃ e:Ext w,w' = e.val) (fun a' => ∀ w',(∃ e:Ext w,w' = e.val) → Q .normal a' w') l a):(Code.region id l.toArray true).wp P Q a w :=
 wp_region_quiet (C:=fun w' => ∃ e:Ext w,w' = e.val) hm hB ⟨⟨{ w with drawn:=w.drawn + 1 },Below.drew (Below.refl _ _)⟩,rfl⟩ (by simpa only [List.toList_toArray] using h)
theorem Calls.ext {P:Program} {f:FuncId} {args:Array Value} {W:World} {x:Ext W} {v:Value}
  (h:Calls P f args x.val fun e w'=>e = .returned v ∧ Below x.val.heap.size x.val w'):Calls P f args x.val fun e w''=>e = .returned v ∧ ∃ y:Ext W,w'' = y.val :=
 h.mono fun _ w' ⟨he,hb⟩=>⟨he,⟨w',x.ok.trans (hb.mono x.ok.size)⟩,rfl⟩
theorem Ext.cell {W:World} (x:Ext W) {a:Addr} {v:Value} (h:W.cell? a = some v):x.val.cell? a = some v:=aa7 x.ok h
def countB (x:ba7):Bool:=manyB x.tmany 60 && manyB x.bmany 60 && manyB x.sats.length 12 && manyB x.custs.length 48
def vkb7 (x:ba7):Bool:=kg7 x.cost (nodes x) && kg7 x.time (nodes x)
def check (x:ba7):Int:=if countB x then (if vkb7 x then (if sl7 x then 0 else 2) else 4) else 9
theorem qcb7 {w:World} {F:Nat → Prop} {x:ba7} {cs:List Value} (h:fb7.rep w F x cs) :
  Calls Try.prog 49 #[.agg cs.toArray] w fun e w'=>e = .returned (.int .i64 (check x)) ∧ Below w.heap.size w w':=by
 have hrep:=h
 obtain ⟨s,c,co,ti,rfl, -,h1,h2,h3,h4⟩:=h
 obtain ⟨a,b,off,c1,hs,hlc,hc, -, -, -, -⟩:=rc7 h1
 obtain ⟨a',b',off',c1',hs',hlc',hc', -, -, -, -⟩:=sf7 h2
 obtain rfl:=List.cons.inj hs |>.1
 obtain rfl:=List.cons.inj hs' |>.1
 obtain ⟨a3,b3,off3,c3,hs3,hlc3,hc3, -, -, -⟩:=lc7 h3
 obtain ⟨a4,b4,off4,c4,hs4,hlc4,hc4, -, -, -⟩:=lc7 h4
 obtain rfl:=List.cons.inj hs3 |>.1
 obtain rfl:=List.cons.inj hs4 |>.1
 clear hs hs' h1 h2 hs3 hs4
 go_enter Try.func49,Try.ntmps49
 go_upto_region 2 with fail
 go_cut [4] (fun s4 wx=>s4 = .bool (!countB x) ∧ Below w.heap.size w wx ∧ w.heap.size < wx.heap.size ∧
  wx.cell? ⟨w.heap.size,0,none⟩ = some (.int .i64 x.fin) ∧ wx.cell? ⟨w.heap.size,1,none⟩ = some (.int .i64 x.tmany) ∧ wx.cell? ⟨w.heap.size,2,none⟩ = some (.int .i64 x.troom) ∧
  wx.cell? ⟨w.heap.size,3,none⟩ = some (.int .i64 x.bmany) ∧ wx.cell? ⟨w.heap.size,4,none⟩ = some (.int .i64 x.broom) ∧
  wx.cell? ⟨w.heap.size,5,none⟩ = some (.slice a x.sats.length c1) ∧ wx.cell? ⟨w.heap.size,6,none⟩ = some (.slice a' x.custs.length c1') ∧
  wx.cell? ⟨w.heap.size,7,none⟩ = some (.slice a3 x.cost.length c3) ∧ wx.cell? ⟨w.heap.size,8,none⟩ = some (.slice a4 x.time.length c4))
 case first =>
  have HH:Hid (countB x = (manyB x.tmany 60 && manyB x.bmany 60 && manyB x.sats.length 12 && manyB x.custs.length 48)):=rfl
  rcases rxb7 (manyB x.tmany 60) (manyB x.bmany 60) (manyB x.sats.length 12) (manyB x.custs.length 48) with e0 | ⟨e0,e1⟩ | ⟨e0,e1,e2⟩ | ⟨e0,e1,e2,e3⟩ | ⟨e0,e1,e2,e3⟩
  all_goals
   go_wp2_with ((with_reducible refine (pyb7 _ _ _).mono ?_); rintro e w' ⟨rfl,rfl⟩)
   go_meet
   exact ⟨by rw [HH.out]; first | (rw [e0]; rfl) | (rw [e0,e1]; rfl) | (rw [e0,e1,e2]; rfl) | (rw [e0,e1,e2,e3]; rfl),(Below.refl _ _).alloc (Nat.le_refl _) _,by simp,by simp,by simp,by simp,by simp,by simp,by simp,by simp,by simp,by simp⟩
 case rest =>
  obtain ⟨rfl,hb0,hz,q0,q1,q2,q3,q4,q5,q6,q7,q8⟩:=hcut
  cases ec:countB x
  ·have HE:=hid (show check x = 9 by unfold check; simp [ec])
   go_wp2
   go_ret
   exact ⟨mb7 HE.out.symm,hb0⟩
  ·have hl1:x.sats.length ≤ 1000000 ∧ x.custs.length ≤ 1000000:=by
    simp [countB,manyB] at ec; omega
   go_upto_region 4 with fail
   have hrc:=fb7.below hrep hb0
   have hrc3:=gg7.below h3 hb0
   have hrc4:=gg7.below h4 hb0
   have q:∀ e:Ext wc,e.val.cell? ⟨w.heap.size,0,none⟩ = some (.int .i64 x.fin) ∧ e.val.cell? ⟨w.heap.size,1,none⟩ = some (.int .i64 x.tmany) ∧ e.val.cell? ⟨w.heap.size,2,none⟩ = some (.int .i64 x.troom) ∧
     e.val.cell? ⟨w.heap.size,3,none⟩ = some (.int .i64 x.bmany) ∧ e.val.cell? ⟨w.heap.size,4,none⟩ = some (.int .i64 x.broom) ∧ e.val.cell? ⟨w.heap.size,5,none⟩ = some (.slice a x.sats.length c1) ∧
     e.val.cell? ⟨w.heap.size,6,none⟩ = some (.slice a' x.custs.length c1') ∧ e.val.cell? ⟨w.heap.size,7,none⟩ = some (.slice a3 x.cost.length c3) ∧ e.val.cell? ⟨w.heap.size,8,none⟩ = some (.slice a4 x.time.length c4) :=
    fun e=>⟨e.cell q0,e.cell q1,e.cell q2,e.cell q3,e.cell q4,e.cell q5,e.cell q6,e.cell q7,e.cell q8⟩
   obtain ⟨p0,p1,p2,p3,p4,p5,p6,p7,p8⟩:(∀ e:Ext wc,_) ∧ (∀ e:Ext wc,_) ∧ (∀ e:Ext wc,_) ∧ (∀ e:Ext wc,_) ∧ (∀ e:Ext wc,_) ∧ (∀ e:Ext wc,_) ∧ (∀ e:Ext wc,_) ∧ (∀ e:Ext wc,_) ∧ (∀ e:Ext wc,_) :=
    ⟨fun e=>(q e).1,fun e=>(q e).2.1,fun e=>(q e).2.2.1,fun e=>(q e).2.2.2.1,fun e=>(q e).2.2.2.2.1,fun e=>(q e).2.2.2.2.2.1,fun e=>(q e).2.2.2.2.2.2.1,fun e=>(q e).2.2.2.2.2.2.2.1,fun e=>(q e).2.2.2.2.2.2.2.2⟩
   clear q
   go_cut [35] (fun s35 wx=>s35 = .bool (!vkb7 x) ∧ Below wc.heap.size wc wx)
   case first =>
    have HH:=hid (show vkb7 x = (kg7 x.cost (nodes x) && kg7 x.time (nodes x)) from rfl)
    rcases wwb7 (kg7 x.cost (nodes x)) (kg7 x.time (nodes x)) with e0 | ⟨e0,e1⟩ | ⟨e0,e1⟩
    all_goals
     refine mx7 (by kernel_rfl) (by kernel_rfl) ?_
     repeat (go_big_quiet_step (first | (go_at_call 75; exact Calls.ext (tcb7 (fb7.below hrc (Ext.ok _)) hl1.1 hl1.2)) | (go_at_call 74; (with_reducible exact Calls.ext (peb7 (gg7.below hrc3 (Ext.ok _)) e0))) | (go_at_call 74; (with_reducible exact Calls.ext (peb7 (gg7.below hrc4 (Ext.ok _)) e1)))))
     refine wpQuiet_nil ?_
     rintro _ ⟨ex,rfl⟩
     go_wp2_with fail
     go_meet
     exact ⟨by rw [HH.out]; first | (rw [e0]; rfl) | (rw [e0,e1]; rfl),ex.ok⟩
   case rest =>
    clear p0 p1 p2 p3 p4 p5 p6 p7 p8
    obtain ⟨rfl,hb1⟩:=hcut
    cases es:vkb7 x
    ·have HE:=hid (show check x = 4 by unfold check; simp [ec,es])
     go_wp2
     go_ret
     exact ⟨mb7 HE.out.symm,hb0.trans (hb1.mono hb0.size)⟩
    ·have g0:=aa7 hb1 q0
     have g1:=aa7 hb1 q1
     have g2:=aa7 hb1 q2
     have g3:=aa7 hb1 q3
     have g4:=aa7 hb1 q4
     have g5:=aa7 hb1 q5
     have g6:=aa7 hb1 q6
     have g7:=aa7 hb1 q7
     have g8:=aa7 hb1 q8
     have hb2:=hb0.trans (hb1.mono hb0.size)
     have hr2:=fb7.below hrep hb2
     clear q0 q1 q2 q3 q4 q5 q6 q7 q8 hb0 hb1 hrc hrc3 hrc4 h3 h4 hrep
     cases en:sl7 x
     ·have HE:=hid (show check x = 2 by unfold check; simp [ec,es,en])
      have HN:=hid en
      clear en
      go_wp2_with ((with_reducible refine (dab7 hr2).mono ?_); rintro e w' ⟨rfl,hb3⟩; rw [HN.out])
      go_ret
      exact ⟨mb7 HE.out.symm,hb2.trans (hb3.mono hb2.size)⟩
     ·have HE:=hid (show check x = 0 by unfold check; simp [ec,es,en])
      have HN:=hid en
      clear en
      go_wp2_with ((with_reducible refine (dab7 hr2).mono ?_); rintro e w' ⟨rfl,hb3⟩; rw [HN.out])
      go_ret
      exact ⟨mb7 HE.out.symm,hb2.trans (hb3.mono hb2.size)⟩
theorem xy7 {α:Type} {xs ys:List α} {k:Nat} (h1:k < xs.length) (h2:k < ys.length) (h:xs.take k = ys.take k) (he:xs[k] = ys[k]):xs.take (k + 1) = ys.take (k + 1):=by
 rw [List.take_succ_eq_append_getElem h1,List.take_succ_eq_append_getElem h2,h,he]
theorem lkb7 {α:Type} {xs ys:List α} {k:Nat} (h1:k < xs.length) (h2:k < ys.length) (he:xs[k] ≠ ys[k]):xs ≠ ys:=by
 rintro rfl; exact he rfl
theorem pgb7 {α:Type} {xs ys:List α} (hl:xs.length = ys.length) (h:xs.take xs.length = ys.take xs.length):xs = ys:=by
 rw [List.take_length] at h; rw [h,hl,List.take_length]
theorem heb7 {w:World} {F G:Nat → Prop} {xs ys:List Int} {u v:Value} (h:(ga7 ge7).rep w F xs [u]) (h':(ga7 ge7).rep w G ys [v]) :
  Calls Try.prog 35 #[u,v] w fun e w'=>e = .returned (.bool (decide (xs = ys))) ∧ ∃ n,w' = w.drewN n:=by
 obtain ⟨a,b,off,c,hs,hlc,hc,ha, -,hcell, -⟩:=bb7 h
 obtain ⟨a',b',off',c',hs',hlc',hc',ha', -,hcell', -⟩:=bb7 h'
 obtain rfl:=List.cons.inj hs |>.1
 obtain rfl:=List.cons.inj hs' |>.1
 clear hs hs' h h'
 by_cases hl:xs.length = ys.length
 ·have hl2:((xs.length:Int) == (ys.length:Int)) = true:=by simp [hl]
  have hl3:((xs.length:Int) != (ys.length:Int)) = false:=by simp [hl]
  have HL:=hid hl
  clear hl
  go_enter Try.func35,Try.ntmps35
  go_wp2
  go_loopw [5,13] (fun t i wr => ∃ k:Nat,k ≤ xs.length ∧ i = .int .i64 k ∧ xs.take k = ys.take k ∧ ∃ n,wr = w.drewN n)
   (fun _ i _=>xs.length - (intOf i).toNat)
  case atStart=>exact ⟨0,Nat.zero_le _,rfl,rfl,0,rfl⟩
  case round =>
   obtain ⟨k,hk,rfl,ht,nd,rfl⟩:=hrel
   by_cases hlt:k < xs.length
   ·have hlt':k < ys.length:=by have:=HL.out; omega
    have g0:=hcell k hlt
    have g1:=hcell' k hlt'
    have hx:=la7 (c:=c) Try.underlying43 xb7 (ha (by omega)) hlt
    have hx':=la7 (c:=c') Try.underlying43 xb7 (ha' (by omega)) hlt'
    have HT:=hid ht
    clear hcell hcell' ha ha' ht
    by_cases he:xs[k] = ys[k]
    ·have he2:(xs[k] != ys[k]) = false:=by simp [he]
     have HE:=hid he
     clear he
     go_wp2
     go_quiet (fail)
     go_wp2
     go_roundw
     case rel=>exact ⟨k + 1,by omega,by go_num,xy7 hlt hlt' HT.out HE.out,_,by first | rfl | exact World.drewN_drewN _ _ _⟩
     case measure=>simp [intOf]; omega
    ·have he2:(xs[k] != ys[k]) = true:=by simp [he]
     have HE:=hid he
     clear he
     go_wp2
     go_quiet (fail)
     go_wp2
     go_ret
     exact ⟨cd7 (decide_eq_false (lkb7 hlt hlt' HE.out)).symm,_,by first | rfl | exact World.drewN_drewN _ _ _⟩
   ·have hke:k = xs.length:=by omega
    subst hke
    have HT:=hid ht
    clear hcell hcell' ha ha' ht
    go_wp2
    go_ret
    exact ⟨cd7 (decide_eq_true (pgb7 HL.out HT.out)).symm,nd,rfl⟩
 ·have hl2:((xs.length:Int) == (ys.length:Int)) = false:=by simp; omega
  have hl3:((xs.length:Int) != (ys.length:Int)) = true:=by simp; omega
  have HL:=hid hl
  clear hl hcell hcell' ha ha'
  go_enter Try.func35,Try.ntmps35
  go_wp2
  go_ret
  exact ⟨cd7 (decide_eq_false (fun e=>HL.out (by rw [e]))).symm,0,rfl⟩
def ie7 (x:ba7) (sat:Int) (out:List Int) (c:Int):List Int :=
 if 0 ≤ sat ∧ sat < out.length ∧ 0 ≤ c ∧ c < x.custs.length then out.set sat.toNat (out.getD sat.toNat 0 + (x.custs.getD c.toNat ⟨0,0,0,0⟩).load) else out
def cn7 (x:ba7) (out:List Int) (b:oa7):List Int:=b.stops.foldl (ie7 x b.sat) out
def kk7 (x:ba7) (l:List oa7):List Int:=l.foldl (cn7 x) (List.replicate x.sats.length 0)
theorem gs7 (x:ba7) (sat:Int) (out:List Int) (c:Int):(ie7 x sat out c).length = out.length:=by
 unfold ie7; split <;> simp
theorem ta7 {α β:Type} (f:β → α → β) (b:β) (l:List α) (k:Nat) (h:k < l.length):(l.take (k + 1)).foldl f b = f ((l.take k).foldl f b) l[k]:=by
 rw [List.take_succ_eq_append_getElem h,List.foldl_append]; rfl
theorem tp7 (x:ba7) (sat:Int) (l:List Int):∀ out:List Int,(l.foldl (ie7 x sat) out).length = out.length:=by
 induction l with
 | nil=>intro out; rfl
 | cons c l ih=>intro out; rw [List.foldl_cons,ih,gs7]
theorem yp7 (x:ba7) (l:List oa7):∀ out:List Int,(l.foldl (cn7 x) out).length = out.length:=by
 induction l with
 | nil=>intro out; rfl
 | cons b l ih=>intro out; rw [List.foldl_cons,ih]; exact tp7 x b.sat b.stops out
def sb7 (out:List Int) (cnt:Nat):Prop := ∀ v ∈ out,0 ≤ v ∧ v ≤ 1000000000 * (cnt:Int)
theorem sb7.mono {out:List Int} {a b:Nat} (h:sb7 out a) (hab:a ≤ b):sb7 out b:=fun v hv=>⟨(h v hv).1,Int.le_trans (h v hv).2 (by omega)⟩
theorem sb7.zero (n:Nat):sb7 (List.replicate n 0) 0:=fun v hv=>by rw [List.eq_of_mem_replicate hv]; decide
theorem sb7.get {out:List Int} {cnt:Nat} (h:sb7 out cnt) {i:Nat} (hi:i < out.length):0 ≤ out[i] ∧ out[i] ≤ 1000000000 * (cnt:Int):=h _ (List.getElem_mem hi)
theorem sb7.add {out:List Int} {cnt:Nat} (h:sb7 out cnt) {i:Nat} {a b:Int} (ha:0 ≤ a ∧ a ≤ 1000000000 * (cnt:Int)) (hb:0 ≤ b ∧ b ≤ 1000000000):sb7 (out.set i (a + b)) (cnt + 1):=fun v hv=>by
 rcases List.mem_or_eq_of_mem_set hv with hv | rfl
 ·have:=h v hv; exact ⟨this.1,by push_cast; omega⟩
 ·exact ⟨by omega,by push_cast; omega⟩
def ya7 (l:List oa7) (k:Nat):Nat:=((l.take k).map fun b=>b.stops.length).sum
theorem bd7 {l:List oa7} {k:Nat} (h:k < l.length):ya7 l (k + 1) = ya7 l k + l[k].stops.length:=by
 unfold ya7; rw [List.take_succ_eq_append_getElem h,List.map_append,List.sum_append]; simp only [List.map_cons,List.map_nil,List.sum_cons,List.sum_nil,Nat.add_zero]
theorem wg7 {l:List oa7} {k:Nat}:ya7 l k ≤ ya7 l l.length:=by
 have h:l.map (fun b=>b.stops.length) = (l.take k).map (fun b=>b.stops.length) ++ (l.drop k).map (fun b=>b.stops.length):=by rw [← List.map_append,List.take_append_drop]
 unfold ya7
 rw [List.take_length,h,List.sum_append]
 exact Nat.le_add_right _ _
theorem qsb7 {w:World} {F G:Nat → Prop} {x:ba7} {cs:List Value} {l:List oa7} {v:Value} (h:fb7.rep w F x cs) (hl:mm7.rep w G l [v]) (hn:x.sats.length ≤ 1000000)
  (hcu:∀ c ∈ x.custs,0 ≤ c.load ∧ c.load ≤ 1000000000) (ht:ya7 l l.length ≤ 1000000) :
  Calls Try.prog 68 #[.agg cs.toArray,v] w fun e w' => ∃ g,e = .returned (.slice (some ⟨g,0,none⟩) x.sats.length x.sats.length) ∧ Row w' g 2 ((kk7 x l).map gb7) ∧ w.heap.size ≤ g ∧ Below w.heap.size w w':=by
 obtain ⟨s,c,co,ti,rfl, -,h1,h2, -, -⟩:=h
 obtain ⟨a,b,off,c1,hs, -, -, -, -, -, -⟩:=rc7 h1
 obtain ⟨a',b',off',c1',hs',hlc',hc',ha', -,hcell', -⟩:=sf7 h2
 obtain rfl:=List.cons.inj hs |>.1
 obtain rfl:=List.cons.inj hs' |>.1
 obtain ⟨a2,b2,off2,c2,hs2,hl2,hc2,ha2, -,hcell2⟩:=ld7 hl
 obtain rfl:=List.cons.inj hs2 |>.1
 clear hs hs' hs2 h1 h2 hl
 obtain ⟨i0,hi,hz0,hz1,hz2⟩:=info_parts ii7
 have hmk:=zi7 Try.underlying43 hi hz0 hz1 hz2 (n:=x.sats.length) hn
 clear hi hz0 hz1 hz2 i0
 go_enter Try.func68,Try.ntmps68
 go_wp2
 go_loopw [16] (fun i wr => ∃ (k:Nat) (out:List Int),k ≤ l.length ∧ i = .int .i64 k ∧ out = (l.take k).foldl (cn7 x) (List.replicate x.sats.length 0) ∧ sb7 out (ya7 l k) ∧ Row wr (w.heap.size + 1) 2 (out.map gb7) ∧
   Below w.heap.size w wr ∧ wr.cell? ⟨w.heap.size,6,none⟩ = some (.slice a' x.custs.length c1')) (fun i _=>l.length - (intOf i).toNat)
 case atStart=>exact ⟨0,_,Nat.zero_le _,rfl,rfl,sb7.zero _,by have:=Row.make (w:=w.alloc (.cells #[.int .i64 x.fin, .int .i64 x.tmany, .int .i64 x.troom, .int .i64 x.bmany, .int .i64 x.broom, .slice a x.sats.length c1, .slice a' x.custs.length c1',co,ti] 49)) (n:=x.sats.length) (e:=2); simpa using this,((Below.refl _ _).alloc (Nat.le_refl _) _).alloc (by simp) _,by simp⟩
 case round =>
  obtain ⟨k,out,hk,rfl,hout,hsm,hrow,hb,q6⟩:=hrel
  obtain ⟨wo,rfl⟩:∃ wo:World,wo = wr:=⟨_,rfl⟩
  have HOUT:=hid hout
  have HSM:=hid hsm
  have HROW:=hid hrow
  have hol:out.length = x.sats.length:=by rw [hout,yp7]; simp
  have hz:w.heap.size + 1 < wo.heap.size:=hrow.lt
  have hz0:w.heap.size < wo.heap.size:=by omega
  clear hout hsm hrow
  by_cases hlt:k < l.length
  ·have hx:=nb7 (c:=c2) Try.underlying23 uk7 (ha2 (by omega)) hlt
   obtain ⟨sv,g0,g1,hwf,hr⟩:=hcell2 k hlt
   obtain ⟨st,hst⟩:∃ st,st = l[k].sat:=⟨_,rfl⟩
   obtain ⟨sp,hsp⟩:∃ sp,sp = l[k].stops:=⟨_,rfl⟩
   rw [← hst] at g0 hwf
   rw [← hsp] at hr
   obtain ⟨a3,b3,off3,c3,hs3,hl3,hc3,ha3, -,hcell3,hwf3⟩:=bb7 hr
   obtain rfl:=List.cons.inj hs3 |>.1
   have p0:=aa7 hb g0
   have p1:=aa7 hb g1
   have hcnt:=bd7 hlt
   rw [← hsp] at hcnt
   have hcl:=wg7 (l:=l) (k:=k + 1)
   have HCNT:=hid hcnt
   have HB:=hid (show l[k] = ⟨st,sp⟩ from by rw [hst,hsp])
   have HF:=hid (ta7 (cn7 x) (List.replicate x.sats.length 0) l k hlt)
   clear hcell2 ha2 hs3 hr g0 g1 hst hsp
   have hsl:(sp.length:Int) ≤ 1000000:=by omega
   go_wp2
   go_loopw [9,23] (fun cc jj wx => ∃ (j:Nat) (o2:List Int),j ≤ sp.length ∧ jj = .int .i64 j ∧ o2 = (sp.take j).foldl (ie7 x st) out ∧ sb7 o2 (ya7 l k + j) ∧ Row wx (w.heap.size + 1) 2 (o2.map gb7) ∧
     Below w.heap.size w wx ∧ wx.cell? ⟨w.heap.size,6,none⟩ = some (.slice a' x.custs.length c1') ∧ wx.cell? ⟨wo.heap.size,0,none⟩ = some (.int .i64 st) ∧ wo.heap.size < wx.heap.size) (fun _ jj _=>sp.length - (intOf jj).toNat)
   case atStart =>
    refine ⟨0,_,Nat.zero_le _,rfl,rfl,HSM.out,HROW.out.alloc _,hb.alloc hb.size _, ?_,by simp,by simp⟩
    exact aa7 ((Below.refl _ _).alloc (Nat.le_refl _) _) q6
   case round =>
    obtain ⟨j,o2,hj,rfl,ho2,hs2,hr2,hb2,q6',q0,hzx⟩:=hrel
    clear q6
    obtain ⟨wi,rfl⟩:∃ wi:World,wi = wr:=⟨_,rfl⟩
    by_cases hjt:j < sp.length
    ·have hy:=la7 (c:=c3) Try.underlying71 di7 (ha3 (by omega)) hjt
     have g3:=aa7 hb2 (hcell3 j hjt)
     obtain ⟨c,hc⟩:∃ c,c = sp[j]:=⟨_,rfl⟩
     rw [← hc] at g3
     have HC:=hid hc
     have HTS:=hid (ta7 (ie7 x st) out sp j hjt)
     have HO2:=hid ho2
     have HS2:=hid hs2
     have HR2:=hid hr2
     have h2l:o2.length = x.sats.length:=by rw [ho2,tp7,hol]
     clear hc ho2 hs2 hr2
     by_cases ee:(0 ≤ st ∧ st < x.sats.length) ∧ 0 ≤ c ∧ c < x.custs.length
     ·obtain ⟨⟨e1,e2⟩,e3,e4⟩:=ee
      have hic:=nb7 (c:=c1') Try.underlying47 pp7 (ha' (by omega)) (k:=c.toNat) (n:=x.custs.length) (by omega)
      have his:=la7 (c:=x.sats.length) Try.underlying43 xb7 (a:=some ⟨w.heap.size + 1,0,none⟩) rfl (k:=st.toNat) (n:=x.sats.length) (by omega)
      rw [Int.toNat_of_nonneg e3] at hic
      rw [Int.toNat_of_nonneg e1,Nat.zero_add] at his
      have hcl0:=(hcell' c.toNat (by omega)).1
      have hld:=hcu _ (List.getElem_mem (l:=x.custs) (n:=c.toNat) (by omega))
      obtain ⟨ld,hlde⟩:∃ ld,ld = (x.custs[c.toNat]'(by omega)).load:=⟨_,rfl⟩
      rw [← hlde] at hcl0 hld
      have hov:=HS2.out.get (i:=st.toNat) (by omega)
      have hoc:=HR2.out.cell (j:=st.toNat) (by rw [List.length_map]; omega)
      rw [List.getElem_map] at hoc
      have hof:=HR2.out.frozen st.toNat
      obtain ⟨ov,hove⟩:∃ ov,ov = o2[st.toNat]'(by omega):=⟨_,rfl⟩
      rw [← hove] at hov hoc
      unfold gb7 at hoc
      have HN:=hid (show ie7 x st o2 c = o2.set st.toNat (ov + ld) from by
       unfold ie7; rw [if_pos (by rw [h2l]; omega),hove,hlde,List.getD_eq_getElem?_getD,List.getD_eq_getElem?_getD,List.getElem?_eq_getElem (by omega),List.getElem?_eq_getElem (by omega)]; rfl)
      have hcl1:=aa7 hb2 hcl0
      have HSM2:=hid (HS2.out.add (i:=st.toNat) hov hld)
      clear hove hlde hcl0
      have hbd:1000000000 * ((ya7 l k + j:Nat):Int) ≤ 1000000000 * 1000000:=by omega
      go_wp2
      have z0:∀ e:At (Old wi),_:=fun e=>e.cell q0
      have z1:∀ e:At (Old wi),_:=fun e=>e.cell hoc
      have z2:∀ e:At (Old wi),_:=fun e=>e.cell q6'
      have z3:∀ e:At (Old wi),_:=fun e=>e.cell hcl1
      refine ka7 (Old wi) [13] [([0,1,2,3,4,5,6,7,8,9,10,11],12,false),([],13,true)] (by kernel_rfl) (by kernel_rfl) (fun _ _ d _ _ h=>by cases d <;> exact h) (Old.drew _) ?_
      simp only [pc7,List.map_cons,List.map_nil,Array.getD_eq_getD_getElem?,List.getElem?_toArray,List.getElem?_cons_succ,List.getElem?_cons_zero,Option.getD_some,rd7]
      repeat (go_big_quiet_step (fail))
      refine wpQuiet_nil ?_
      go_wp2
      refine ⟨Old.drew _,wpQuiet_nil ?_⟩
      go_wp2
      go_roundw
      case rel =>
       have hr3:=HR2.out.drew.set (j:=st.toNat) (by rw [List.length_map]; omega) (gb7 (ov + ld))
       rw [← List.map_set] at hr3
       refine ⟨j + 1,o2.set st.toNat (ov + ld),by omega,by go_num,by rw [HTS.out, ← HO2.out, ← HC.out,HN.out],HSM2.out,hr3, ?_, ?_, ?_, ?_⟩
       ·exact (hb2.drew).setCell (by simp) _
       ·exact (World.cell?_of_block (w:=wi) (Below.heap_setCell _ _ _ _ (by show w.heap.size ≠ w.heap.size + 1; omega))).trans q6'
       ·exact (World.cell?_of_block (w:=wi) (Below.heap_setCell _ _ _ _ (by show wo.heap.size ≠ w.heap.size + 1; omega))).trans q0
       ·simpa using hzx
      case measure=>simp [intOf]; omega
     ·have HN:=hid (show ie7 x st o2 c = o2 from by unfold ie7; rw [if_neg (by rw [h2l]; omega)])
      by_cases e1:0 ≤ st
      ·by_cases e2:st < x.sats.length
       ·by_cases e3:0 ≤ c
        ·have e4 : ¬ c < x.custs.length:=by omega
         clear ee
         go_wp2
         go_roundw
         case rel=>exact ⟨j + 1,o2,by omega,by go_num,by rw [HTS.out, ← HO2.out, ← HC.out,HN.out],HS2.out.mono (by omega),HR2.out,hb2,q6',q0,hzx⟩
         case measure=>simp [intOf]; omega
        ·clear ee
         go_wp2
         go_roundw
         case rel=>exact ⟨j + 1,o2,by omega,by go_num,by rw [HTS.out, ← HO2.out, ← HC.out,HN.out],HS2.out.mono (by omega),HR2.out,hb2,q6',q0,hzx⟩
         case measure=>simp [intOf]; omega
       ·clear ee
        go_wp2
        go_roundw
        case rel=>exact ⟨j + 1,o2,by omega,by go_num,by rw [HTS.out, ← HO2.out, ← HC.out,HN.out],HS2.out.mono (by omega),HR2.out,hb2,q6',q0,hzx⟩
        case measure=>simp [intOf]; omega
      ·clear ee
       go_wp2
       go_roundw
       case rel=>exact ⟨j + 1,o2,by omega,by go_num,by rw [HTS.out, ← HO2.out, ← HC.out,HN.out],HS2.out.mono (by omega),HR2.out,hb2,q6',q0,hzx⟩
       case measure=>simp [intOf]; omega
    ·have hjl:j = sp.length:=by omega
     subst hjl
     go_wp2
     go_roundw
     case rel=>exact ⟨k + 1,o2,by omega,by go_num,by rw [HF.out,HB.out, ← HOUT.out,ho2,List.take_length]; rfl,by rw [HCNT.out]; exact hs2,hr2,hb2,q6'⟩
     case measure=>simp [intOf]; omega
  ·have hkl:k = l.length:=by omega
   subst hkl
   have HL:=hid (show kk7 x l = out from by rw [HOUT.out,List.take_length]; rfl)
   clear hcell2 ha2
   go_wp2
   go_ret
   exact ⟨_,rfl,by rw [HL.out]; exact HROW.out,by omega,hb⟩
theorem oc7 {w:World} {F:Nat → Prop} {xs:List (List ea7)} {cs:List Value} (h:wk7.rep w F xs cs) :
  ∃ (a:Option Addr) (b off c:Nat),cs = [.slice a xs.length c] ∧ xs.length ≤ c ∧ c ≤ 9223372036854775807 ∧ (0 < xs.length → a = some ⟨b,off,none⟩) ∧ (0 < xs.length → F b) ∧
   ∀ k (h:k < xs.length), ∃ v,w.cell? ⟨b,off + k,none⟩ = some v ∧ (ga7 ye7).rep w F xs[k] [v]:=lc7 h
def uhb7 (w wr:World) (t b t' b':Value):Prop :=
 Below w.heap.size w wr ∧ wr.cell? ⟨w.heap.size,0,none⟩ = some t ∧ wr.cell? ⟨w.heap.size,1,none⟩ = some b ∧ wr.cell? ⟨w.heap.size + 1,0,none⟩ = some t' ∧ wr.cell? ⟨w.heap.size + 1,1,none⟩ = some b'
theorem uhb7.drewN {w wr:World} {t b t' b':Value} (h:uhb7 w wr t b t' b') (n:Nat):uhb7 w (wr.drewN n) t b t' b':=⟨below_drewN h.1 n,h.2⟩
def mg7 (out:List Int) (s:ea7):List Int:=out.set s.sat.toNat (out.getD s.sat.toNat 0 + s.load)
def zf7 (out:List Int) (t:List ea7):List Int:=t.foldl mg7 out
def fi7 (x:ba7) (l:List (List ea7)):List Int:=l.foldl zf7 (List.replicate x.sats.length 0)
theorem mn7 (out:List Int) (s:ea7):(mg7 out s).length = out.length:=by unfold mg7; simp
theorem cl7 (l:List ea7):∀ out:List Int,(l.foldl mg7 out).length = out.length:=by
 induction l with
 | nil=>intro out; rfl
 | cons c l ih=>intro out; rw [List.foldl_cons,ih,mn7]
theorem uj7 (l:List (List ea7)):∀ out:List Int,(l.foldl zf7 out).length = out.length:=by
 induction l with
 | nil=>intro out; rfl
 | cons b l ih=>intro out; rw [List.foldl_cons,ih]; exact cl7 b out
def ra7 (l:List (List ea7)) (k:Nat):Nat:=((l.take k).map List.length).sum
theorem dd7 {l:List (List ea7)} {k:Nat} (h:k < l.length):ra7 l (k + 1) = ra7 l k + l[k].length:=by
 unfold ra7; rw [List.take_succ_eq_append_getElem h,List.map_append,List.sum_append]; simp only [List.map_cons,List.map_nil,List.sum_cons,List.sum_nil,Nat.add_zero]
theorem mh7 {l:List (List ea7)} {k:Nat}:ra7 l k ≤ ra7 l l.length:=by
 have h:l.map List.length = (l.take k).map List.length ++ (l.drop k).map List.length:=by rw [← List.map_append,List.take_append_drop]
 unfold ra7
 rw [List.take_length,h,List.sum_append]
 exact Nat.le_add_right _ _
def jd7 (x:ba7) (s:ea7):Prop:=(0 ≤ s.sat ∧ s.sat < x.sats.length) ∧ 1 ≤ s.load ∧ s.load ≤ 1000000000
theorem csb7 {w:World} {F G:Nat → Prop} {x:ba7} {p:za7} {cs ps:List Value} (h:fb7.rep w F x cs) (hp:id7.rep w G p ps) (hn:x.sats.length ≤ 1000000)
  (hok:∀ t ∈ p.trucks, ∀ s ∈ t,jd7 x s) (ht:ra7 p.trucks p.trucks.length ≤ 1000000) :
  Calls Try.prog 69 #[.agg ps.toArray, .agg cs.toArray] w fun e w' => ∃ g,e = .returned (.slice (some ⟨g,0,none⟩) x.sats.length x.sats.length) ∧ Row w' g 2 ((fi7 x p.trucks).map gb7) ∧ w.heap.size ≤ g ∧ Below w.heap.size w w':=by
 obtain ⟨s,c,co,ti,rfl, -,h1,h2, -, -⟩:=h
 obtain ⟨a,b,off,c1,hs, -, -, -, -, -, -⟩:=rc7 h1
 obtain rfl:=List.cons.inj hs |>.1
 obtain ⟨tv,bv,rfl,h3, -⟩:=hp
 obtain ⟨a2,b2,off2,c2,hs2,hl2,hc2,ha2, -,hcell2⟩:=oc7 h3
 obtain rfl:=List.cons.inj hs2 |>.1
 clear hs hs2 h1 h2 h3
 obtain ⟨i0,hi,hz0,hz1,hz2⟩:=info_parts ii7
 have hmk:=zi7 Try.underlying43 hi hz0 hz1 hz2 (n:=x.sats.length) hn
 clear hi hz0 hz1 hz2 i0
 go_enter Try.func69,Try.ntmps69
 go_wp2
 go_loopw [17] (fun i wr => ∃ (k:Nat) (out:List Int),k ≤ p.trucks.length ∧ i = .int .i64 k ∧ out = (p.trucks.take k).foldl zf7 (List.replicate x.sats.length 0) ∧ sb7 out (ra7 p.trucks k) ∧ Row wr (w.heap.size + 2) 2 (out.map gb7) ∧
   Below w.heap.size w wr) (fun i _=>p.trucks.length - (intOf i).toNat)
 case atStart=>exact ⟨0,_,Nat.zero_le _,rfl,rfl,sb7.zero _,by have:=Row.make (w:=(w.alloc (.cells #[.slice a2 p.trucks.length c2,bv] 25)).alloc (.cells #[.int .i64 x.fin, .int .i64 x.tmany, .int .i64 x.troom, .int .i64 x.bmany, .int .i64 x.broom, .slice a x.sats.length c1,c,co,ti] 49)) (n:=x.sats.length) (e:=2); simpa using this,(((Below.refl _ _).alloc (Nat.le_refl _) _).alloc (by simp) _).alloc (by simp; omega) _⟩
 case round =>
  obtain ⟨k,out,hk,rfl,hout,hsm,hrow,hb⟩:=hrel
  obtain ⟨wo,rfl⟩:∃ wo:World,wo = wr:=⟨_,rfl⟩
  have HOUT:=hid hout
  have HSM:=hid hsm
  have HROW:=hid hrow
  have hol:out.length = x.sats.length:=by rw [hout,uj7]; simp
  have hz:w.heap.size + 2 < wo.heap.size:=hrow.lt
  have hz0:w.heap.size < wo.heap.size:=by omega
  clear hout hsm hrow
  by_cases hlt:k < p.trucks.length
  ·have hx:=la7 (c:=c2) Try.underlying22 wh7 (ha2 (by omega)) hlt
   obtain ⟨sv,g0,hr⟩:=hcell2 k hlt
   obtain ⟨sp,hsp⟩:∃ sp,sp = p.trucks[k]:=⟨_,rfl⟩
   have hokk:=hok _ (List.getElem_mem hlt)
   rw [← hsp] at hr hokk
   obtain ⟨a3,b3,off3,c3,hs3,hl3,hc3,ha3, -,hcell3,hwf3⟩:=ce7 hr
   obtain rfl:=List.cons.inj hs3 |>.1
   have p0:=aa7 hb g0
   have hcnt:=dd7 hlt
   rw [← hsp] at hcnt
   have hcl:=mh7 (l:=p.trucks) (k:=k + 1)
   have HCNT:=hid hcnt
   have HB:=hid (show p.trucks[k] = sp from hsp.symm)
   have HF:=hid (ta7 zf7 (List.replicate x.sats.length 0) p.trucks k hlt)
   clear hcell2 ha2 hs3 hr g0 hsp hok
   have hsl:(sp.length:Int) ≤ 1000000:=by omega
   go_wp2
   go_loopw [24] (fun jj wx => ∃ (j:Nat) (o2:List Int),j ≤ sp.length ∧ jj = .int .i64 j ∧ o2 = (sp.take j).foldl mg7 out ∧ sb7 o2 (ra7 p.trucks k + j) ∧ Row wx (w.heap.size + 2) 2 (o2.map gb7) ∧
     Below w.heap.size w wx ∧ wo.heap.size < wx.heap.size) (fun jj _=>sp.length - (intOf jj).toNat)
   case atStart=>exact ⟨0,_,Nat.zero_le _,rfl,rfl,HSM.out,HROW.out.alloc _,hb.alloc hb.size _,by simp⟩
   case round =>
    obtain ⟨j,o2,hj,rfl,ho2,hs2,hr2,hb2,hzx⟩:=hrel
    obtain ⟨wi,rfl⟩:∃ wi:World,wi = wr:=⟨_,rfl⟩
    by_cases hjt:j < sp.length
    ·have hy:=nb7 (c:=c3) Try.underlying80 qt7 (ha3 (by omega)) hjt
     have g3:=aa7 hb2 (hcell3 j hjt).1
     have g4:=aa7 hb2 (hcell3 j hjt).2
     have hst:=hokk _ (List.getElem_mem hjt)
     obtain ⟨c,hc⟩:∃ c,c = sp[j]:=⟨_,rfl⟩
     rw [← hc] at g3 g4 hst
     obtain ⟨st,ld⟩:=c
     simp only [] at g3 g4
     have HC:=hid hc
     have HTS:=hid (ta7 mg7 out sp j hjt)
     have HO2:=hid ho2
     have HS2:=hid hs2
     have HR2:=hid hr2
     have h2l:o2.length = x.sats.length:=by rw [ho2,cl7,hol]
     obtain ⟨⟨e1,e2⟩,hld⟩:=hst
     simp only [] at e1 e2 hld
     clear hc ho2 hs2 hr2
     have his:=la7 (c:=x.sats.length) Try.underlying43 xb7 (a:=some ⟨w.heap.size + 2,0,none⟩) rfl (k:=st.toNat) (n:=x.sats.length) (by omega)
     rw [Int.toNat_of_nonneg e1,Nat.zero_add] at his
     have hov:=HS2.out.get (i:=st.toNat) (by omega)
     have hoc:=HR2.out.cell (j:=st.toNat) (by rw [List.length_map]; omega)
     rw [List.getElem_map] at hoc
     have hof:=HR2.out.frozen st.toNat
     obtain ⟨ov,hove⟩:∃ ov,ov = o2[st.toNat]'(by omega):=⟨_,rfl⟩
     rw [← hove] at hov hoc
     unfold gb7 at hoc
     have HN:=hid (show mg7 o2 ⟨st,ld⟩ = o2.set st.toNat (ov + ld) from by
      show o2.set st.toNat (o2.getD st.toNat 0 + ld) = _
      rw [hove,List.getD_eq_getElem?_getD,List.getElem?_eq_getElem (by omega)]; rfl)
     have HSM2:=hid (HS2.out.add (i:=st.toNat) hov (b:=ld) ⟨by omega,by omega⟩)
     clear hove
     have hbd:1000000000 * ((ra7 p.trucks k + j:Nat):Int) ≤ 1000000000 * 1000000:=by omega
     have hzi:w.heap.size + 2 < wi.heap.size:=by omega
     go_wp2
     generalize hwq:wi.alloc (.cells #[.int .i64 st, .int .i64 ld] 79) = wq
     have HWQ:=hid hwq
     have hob:Old wi wq:=by rw [← hwq]; exact (Below.refl _ _).alloc (Nat.le_refl _) _
     have k0:wq.cell? ⟨wi.heap.size,0,none⟩ = some (.int .i64 st):=by rw [← hwq]; simp
     have k1:wq.cell? ⟨wi.heap.size,1,none⟩ = some (.int .i64 ld):=by rw [← hwq]; simp
     have k2:=hob.cell' hoc
     have k3:=(HR2.out.below hob).frozen st.toNat
     have k4:=hb2.trans (hob.mono hb2.size)
     have HR3:=hid (HR2.out.below hob)
     have hsz:wi.heap.size < wq.heap.size:=by rw [← hwq]; simp
     clear hwq hob hoc hof
     have z0:∀ e:At (Old wq),_:=fun e=>e.cell k0
     have z1:∀ e:At (Old wq),_:=fun e=>e.cell k1
     have z2:∀ e:At (Old wq),_:=fun e=>e.cell k2
     refine ka7 (Old wq) [9] [([0,1,2,3,4,5,6,7],8,false),([],9,true)] (by kernel_rfl) (by kernel_rfl) (fun _ _ d _ _ h=>by cases d <;> exact h) (Old.drew _) ?_
     simp only [pc7,List.map_cons,List.map_nil,Array.getD_eq_getD_getElem?,List.getElem?_toArray,List.getElem?_cons_succ,List.getElem?_cons_zero,Option.getD_some,rd7]
     repeat (go_big_quiet_step (fail))
     refine wpQuiet_nil ?_
     go_wp2
     refine ⟨Old.drew _,wpQuiet_nil ?_⟩
     go_wp2
     go_roundw
     case rel =>
      have hr3:=HR3.out.drew.set (j:=st.toNat) (by rw [List.length_map]; omega) (gb7 (ov + ld))
      rw [← List.map_set] at hr3
      refine ⟨j + 1,o2.set st.toNat (ov + ld),by omega,by go_num,by rw [HTS.out, ← HO2.out, ← HC.out,HN.out],HSM2.out,hr3, ?_, ?_⟩
      ·exact (k4.drew).setCell (by simp) _
      ·simp; omega
     case measure=>simp [intOf]; omega
    ·have hjl:j = sp.length:=by omega
     subst hjl
     go_wp2
     go_roundw
     case rel=>exact ⟨k + 1,o2,by omega,by go_num,by rw [HF.out,HB.out, ← HOUT.out,ho2,List.take_length]; rfl,by rw [HCNT.out]; exact hs2,hr2,hb2⟩
     case measure=>simp [intOf]; omega
  ·have hkl:k = p.trucks.length:=by omega
   subst hkl
   have HL:=hid (show fi7 x p.trucks = out from by rw [HOUT.out,List.take_length]; rfl)
   clear hcell2 ha2
   go_wp2
   go_ret
   exact ⟨_,rfl,by rw [HL.out]; exact HROW.out,by omega,hb⟩
def setIn (i:Int):Bool:=decide (0 ≤ i) && decide (i < 64)
theorem dcc7 (i:Int) (w:World):Calls Try.prog 54 #[.int .i64 i] w fun e w'=>e = .returned (.bool (setIn i)) ∧ w' = w:=by
 by_cases h1:0 ≤ i <;> by_cases h2:i < 64
 all_goals
  go_enter Try.func54,Try.ntmps54
  go_wp2
  go_ret
  exact ⟨cd7 (by simp [setIn]; omega),rfl⟩
theorem iub7 (m i:Nat) (hm:m < 18446744073709551616):(bits BinOp.and IntKind.u64 ((m:Int) / 2 ^ i) 1 == 1) = m.testBit i:=by
 have h1:((m:Int) / 2 ^ i) = ((m / 2 ^ i:Nat):Int):=by simp
 have h2:m / 2 ^ i < 18446744073709551616:=Nat.lt_of_le_of_lt (Nat.div_le_self _ _) hm
 rw [h1,show (1:Int) = ((1:Nat):Int) from rfl,u64_and_nat _ _ h2 (by decide),nat_mask1,Nat.testBit_eq_decide_div_mod_eq]
 have h3:m / 2 ^ i % 2 = 0 ∨ m / 2 ^ i % 2 = 1:=by omega
 rcases h3 with h3 | h3 <;> rw [h3] <;> rfl
theorem oob7 (m i:Nat) (hi:i < 64) (hm:m < 18446744073709551616):bits BinOp.or IntKind.u64 (m:Int) (IntKind.u64.wrap (2 ^ i)) = ((m ||| 2 ^ i:Nat):Int):=by
 have h2:2 ^ i < 18446744073709551616:=by
  have:=Nat.pow_lt_pow_right (a:=2) (by decide) hi
  exact this
 have h1:IntKind.u64.wrap (2 ^ i) = ((2 ^ i:Nat):Int):=by
  rw [IntKind.wrap_u64,show ((2:Int) ^ i) = ((2 ^ i:Nat):Int) by simp]
  exact Int.emod_eq_of_lt (Int.natCast_nonneg _) (Int.ofNat_lt.2 h2)
 rw [h1,u64_or_nat _ _ hm h2]
theorem qp7 (m i:Nat) (hi:i < 64) (hm:m < 18446744073709551616) (w:World):Calls Try.prog 22 #[.int .u64 (m:Int), .int .i64 (i:Int)] w fun e w'=>e = .returned (.bool (m.testBit i)) ∧ w' = w:=by
 have h1:=hid (show setIn (i:Int) = true from by simp [setIn]; omega)
 have h2:=hid (iub7 m i hm)
 clear hm
 go_enter Try.func22,Try.ntmps22
 go_wp2_with (go_at_call 54; refine (dcc7 _ _).mono ?_; rintro e w' ⟨rfl,rfl⟩; rw [h1.out])
 go_ret
 exact ⟨cd7 h2.out,rfl⟩
theorem xdb7 (m i:Nat) (hi:i < 64) (hm:m < 18446744073709551616) (w:World):Calls Try.prog 53 #[.int .u64 (m:Int), .int .i64 (i:Int)] w fun e w'=>e = .returned (.int .u64 ((m ||| 2 ^ i:Nat):Int)) ∧ w' = w:=by
 have h1:=hid (show setIn (i:Int) = true from by simp [setIn]; omega)
 have h2:=hid (oob7 m i hi hm)
 clear hm
 go_enter Try.func53,Try.ntmps53
 go_wp2_with (go_at_call 54; refine (dcc7 _ _).mono ?_; rintro e w' ⟨rfl,rfl⟩; rw [h1.out])
 go_ret
 exact ⟨mb7 h2.out,rfl⟩
theorem iwb7 (m:Nat) (hm:m < 64) (w:World):Calls Try.prog 113 #[.int .u64 (m:Int)] w fun e w'=>e = .returned (.int .i64 (Lib.onesCount m:Nat)) ∧ w' = w:=by
 go_enter Try.func113,Try.ntmps113
 go_wp2
 go_ret
 refine ⟨mb7 ?_,rfl⟩
 revert m
 decide +kernel
theorem nac7 (m:Nat) (hm:m < 64) (w:World):Calls Try.prog 95 #[.int .u64 (m:Int)] w fun e w'=>e = .returned (.int .i64 (Lib.onesCount m:Nat)) ∧ w' = w:=by
 go_enter Try.func95,Try.ntmps95
 go_wp2_with (go_at_call 113; refine (iwb7 m hm _).mono ?_; rintro e w' ⟨rfl,rfl⟩)
 go_ret
 exact ⟨rfl,rfl⟩
def mc7 (x:ba7) (m:Nat) (s:ea7):Bool:=decide (s.sat < 0) || decide ((x.sats.length:Int) ≤ s.sat) || m.testBit s.sat.toNat || decide (s.load < 1) || decide (1000000000 < s.load)
def yh7 (x:ba7):Option (Nat × Int) → ea7 → Option (Nat × Int)
 | none,_=>none
 | some (m,left),s=>if mc7 x m s then none else some (m ||| 2 ^ s.sat.toNat,left - s.load)
def gh7 (x:ba7) (t:List ea7):Option (Nat × Int):=t.foldl (yh7 x) (some (0,x.troom))
def yd7 (x:ba7):List (List ea7) → Bool → Bool → Bool × Bool
 | [],r,l=>(r,l)
 | t :: ts,r,l=>match gh7 x t with
  | none=>(false,l)
  | some (_,left)=>yd7 x ts (r && decide (0 < t.length)) (l && decide (0 ≤ left))
def nc7 (x:ba7) (l:List (List ea7)):Bool × Bool:=yd7 x l true true
theorem zl7 (x:ba7) (l:List ea7):l.foldl (yh7 x) none = none:=by
 induction l with
 | nil=>rfl
 | cons s l ih=>exact ih
theorem vtb7 {m i:Nat} (hm:m < 18446744073709551616) (hi:i < 64):m ||| 2 ^ i < 18446744073709551616 :=
 Nat.or_lt_two_pow (n:=64) hm (Nat.pow_lt_pow_right (by decide) hi)
theorem yl7 {x:ba7} {m:Nat} {left:Int} {s:ea7} (h:mc7 x m s = true):yh7 x (some (m,left)) s = none:=by simp [yh7,h]
theorem on7 {x:ba7} {m:Nat} {left:Int} {s:ea7} (h:mc7 x m s = false):yh7 x (some (m,left)) s = some (m ||| 2 ^ s.sat.toNat,left - s.load):=by simp [yh7,h]
theorem yj7 {x:ba7} {t:List ea7} {ts:List (List ea7)} {r l:Bool} (h:gh7 x t = none):yd7 x (t :: ts) r l = (false,l):=by simp [yd7,h]
theorem ej7 {x:ba7} {t:List ea7} {ts:List (List ea7)} {r l:Bool} {m:Nat} {left:Int} (h:gh7 x t = some (m,left)) :
  yd7 x (t :: ts) r l = yd7 x ts (r && decide (0 < t.length)) (l && decide (0 ≤ left)):=by simp [yd7,h]
theorem vpb7 {w:World} {F G:Nat → Prop} {x:ba7} {p:za7} {cs ps:List Value} (h:fb7.rep w F x cs) (hp:id7.rep w G p ps) (hn:x.sats.length ≤ 64)
  (hr:0 ≤ x.troom ∧ x.troom ≤ 1000000000) (ht:∀ t ∈ p.trucks,t.length ≤ 1000000000) :
  Calls Try.prog 66 #[.agg ps.toArray, .agg cs.toArray] w fun e w'=>e = .returned (.tuple #[.bool (nc7 x p.trucks).1, .bool (nc7 x p.trucks).2]) ∧ Below w.heap.size w w':=by
 obtain ⟨s,c,co,ti,rfl, -,h1, -, -, -⟩:=h
 obtain ⟨a,b,off,c1,hs, -, -, -, -, -, -⟩:=rc7 h1
 obtain rfl:=List.cons.inj hs |>.1
 obtain ⟨tv,bv,rfl,h2, -⟩:=hp
 obtain ⟨a2,b2,off2,c2,hs2,hl2,hc2,ha2, -,hcell2⟩:=oc7 h2
 obtain rfl:=List.cons.inj hs2 |>.1
 clear hs hs2 h1 h2
 go_enter Try.func66,Try.ntmps66
 go_wp2
 go_loopw [4,5,15] (fun rr ll ii wr => ∃ (k:Nat) (r l:Bool),k ≤ p.trucks.length ∧ ii = .int .i64 k ∧ rr = .bool r ∧ ll = .bool l ∧ nc7 x p.trucks = yd7 x (p.trucks.drop k) r l ∧ Below w.heap.size w wr ∧
   wr.cell? ⟨w.heap.size + 1,2,none⟩ = some (.int .i64 x.troom) ∧ wr.cell? ⟨w.heap.size + 1,5,none⟩ = some (.slice a x.sats.length c1) ∧ w.heap.size + 1 < wr.heap.size) (fun _ _ i _=>p.trucks.length - (intOf i).toNat)
 case atStart=>exact ⟨0,true,true,Nat.zero_le _,rfl,rfl,rfl,rfl,((Below.refl _ _).alloc (Nat.le_refl _) _).alloc (by simp) _,by simp,by simp,by simp⟩
 case round =>
  obtain ⟨k,r,l,hk,rfl,rfl,rfl,hgo,hb,q2,q5,hz⟩:=hrel
  obtain ⟨wo,rfl⟩:∃ wo:World,wo = wr:=⟨_,rfl⟩
  by_cases hlt:k < p.trucks.length
  ·have hx:=la7 (c:=c2) Try.underlying22 wh7 (ha2 (by omega)) hlt
   obtain ⟨sv,g0,hr0⟩:=hcell2 k hlt
   obtain ⟨tr,htr⟩:∃ tr,tr = p.trucks[k]:=⟨_,rfl⟩
   have htl:=ht _ (List.getElem_mem hlt)
   rw [← htr] at hr0 htl
   obtain ⟨a3,b3,off3,c3,hs3,hl3,hc3,ha3, -,hcell3,hwf3⟩:=ce7 hr0
   obtain rfl:=List.cons.inj hs3 |>.1
   have p0:=aa7 hb g0
   have HGO:=hid (show nc7 x p.trucks = yd7 x (tr :: p.trucks.drop (k + 1)) r l from by rw [hgo,htr,List.drop_eq_getElem_cons hlt])
   clear hcell2 ha2 hgo hs3 hr0 g0 htr
   go_wp2
   go_loopw [4,5,8,9,25] (fun rr ll mm ff jj wx => ∃ (j m:Nat) (left:Int),j ≤ tr.length ∧ jj = .int .i64 j ∧ rr = .bool r ∧ ll = .bool l ∧ mm = .int .u64 m ∧ ff = .int .i64 left ∧ m < 18446744073709551616 ∧ (x.troom - 1000000000 * j ≤ left ∧ left ≤ x.troom) ∧
     gh7 x tr = (tr.drop j).foldl (yh7 x) (some (m,left)) ∧ Below w.heap.size w wx ∧ wx.cell? ⟨w.heap.size + 1,2,none⟩ = some (.int .i64 x.troom) ∧ wx.cell? ⟨w.heap.size + 1,5,none⟩ = some (.slice a x.sats.length c1) ∧
     wx.cell? ⟨wo.heap.size,0,none⟩ = some (.slice a3 tr.length c3) ∧ wo.heap.size < wx.heap.size) (fun _ _ _ _ jj _=>tr.length - (intOf jj).toNat)
   case atStart =>
    exact ⟨0,0,x.troom,Nat.zero_le _,rfl,rfl,rfl,rfl,rfl,by decide,by omega,rfl,hb.alloc (by omega) _,aa7 ((Below.refl _ _).alloc (Nat.le_refl _) _) q2,aa7 ((Below.refl _ _).alloc (Nat.le_refl _) _) q5,by simp,by simp⟩
   case round =>
    obtain ⟨j,m,left,hj,rfl,rfl,rfl,rfl,rfl,hm,hleft,hst,hb2,q2',q5',q0,hzx⟩:=hrel
    clear q2 q5
    have hz':w.heap.size + 1 < wr.heap.size:=by omega
    obtain ⟨wi,rfl⟩:∃ wi:World,wi = wr:=⟨_,rfl⟩
    by_cases hjt:j < tr.length
    ·have hy:=nb7 (c:=c3) Try.underlying80 qt7 (ha3 (by omega)) hjt
     have g3:=aa7 hb2 (hcell3 j hjt).1
     have g4:=aa7 hb2 (hcell3 j hjt).2
     obtain ⟨sp,hsp⟩:∃ sp,sp = tr[j]:=⟨_,rfl⟩
     have hwf:=hwf3 _ (List.getElem_mem hjt)
     rw [← hsp] at g3 g4 hwf
     obtain ⟨st,ld⟩:=sp
     have hnx:(tr.drop j).foldl (yh7 x) (some (m,left)) = (tr.drop (j + 1)).foldl (yh7 x) (yh7 x (some (m,left)) ⟨st,ld⟩):=by rw [List.drop_eq_getElem_cons hjt, ← hsp]; rfl
     rw [hnx] at hst
     simp only [] at g3 g4 hwf
     clear hnx hsp hcell3 ha3
     have HST:=hid hst
     clear hst
     have HBAD:=hid (show mc7 x m ⟨st,ld⟩ = true → nc7 x p.trucks = (false,l) from fun h=>by rw [HGO.out]; exact yj7 (by rw [HST.out,yl7 h,zl7]))
     have HOK:=hid (show mc7 x m ⟨st,ld⟩ = false → gh7 x tr = (tr.drop (j + 1)).foldl (yh7 x) (some (m ||| 2 ^ st.toNat,left - ld)) from fun h=>by rw [HST.out,on7 h])
     clear HST
     by_cases e1:st < 0
     ·have HB:=hid (HBAD.out (by simp [mc7,e1]))
      go_wp2
      go_ret2
      exact ⟨by rw [HB.out]; rfl,by simpa using hb2.alloc (by omega) _⟩
     ·by_cases e2:(x.sats.length:Int) ≤ st
      ·have HB:=hid (HBAD.out (by simp [mc7,e2]))
       go_wp2
       go_ret2
       exact ⟨by rw [HB.out]; rfl,by simpa using hb2.alloc (by omega) _⟩
      ·obtain ⟨sn,rfl⟩:∃ sn:Nat,st = sn:=⟨st.toNat,by omega⟩
       rw [Int.toNat_natCast] at HOK
       have hsn:sn < 64:=by omega
       cases e3:m.testBit sn
       ·by_cases e4:ld < 1
        ·have HB:=hid (HBAD.out (by simp [mc7,e4]))
         have HW:=hid (qp7 m sn hsn hm)
         clear hm
         go_wp2_with (go_at_call 22; refine (HW.out _).mono ?_; rintro e w' ⟨rfl,rfl⟩; rw [e3])
         go_ret2
         exact ⟨by rw [HB.out]; rfl,by simpa using hb2.alloc (by omega) _⟩
        ·by_cases e5:1000000000 < ld
         ·have HB:=hid (HBAD.out (by simp [mc7,e5]))
          have HW:=hid (qp7 m sn hsn hm)
          clear hm
          go_wp2_with (go_at_call 22; refine (HW.out _).mono ?_; rintro e w' ⟨rfl,rfl⟩; rw [e3])
          go_ret2
          exact ⟨by rw [HB.out]; rfl,by simpa using hb2.alloc (by omega) _⟩
         ·have HO:=hid (HOK.out (by simp [mc7,e3]; omega))
          have HW:=hid (qp7 m sn hsn hm)
          have HV:=hid (xdb7 m sn hsn hm)
          have HM:=hid (vtb7 hm hsn)
          clear hm
          go_wp2_with (first
           | (go_at_call 22; refine (HW.out _).mono ?_; rintro e w' ⟨rfl,rfl⟩; rw [e3])
           | (go_at_call 53; refine (HV.out _).mono ?_; rintro e w' ⟨rfl,rfl⟩))
          go_roundw
          case rel =>
           refine ⟨j + 1,m ||| 2 ^ sn,left - ld,by omega,by go_num,rfl,rfl,rfl,rfl,HM.out,by omega,HO.out,hb2.alloc (by omega) _, ?_, ?_, ?_, ?_⟩
           ·exact aa7 ((Below.refl _ _).alloc (Nat.le_refl _) _) q2'
           ·exact aa7 ((Below.refl _ _).alloc (Nat.le_refl _) _) q5'
           ·exact aa7 ((Below.refl _ _).alloc (Nat.le_refl _) _) q0
           ·simp; omega
          case measure=>simp [intOf]; omega
       ·have HB:=hid (HBAD.out (by simp [mc7,e3]))
        have HW:=hid (qp7 m sn hsn hm)
        clear hm
        go_wp2_with (go_at_call 22; refine (HW.out _).mono ?_; rintro e w' ⟨rfl,rfl⟩; rw [e3])
        go_ret2
        exact ⟨by rw [HB.out]; rfl,by simpa using hb2.alloc (by omega) _⟩
    ·have hjl:j = tr.length:=by omega
     subst hjl
     have HG:=hid (show nc7 x p.trucks = yd7 x (p.trucks.drop (k + 1)) (r && decide (0 < tr.length)) (l && decide (0 ≤ left)) from by rw [HGO.out]; exact ej7 (m:=m) (by rw [hst,List.drop_length]; rfl))
     clear hst HGO hcell3 ha3
     have HL:=hid hleft
     clear hleft hj
     cases r <;> cases l <;> by_cases f1:0 < tr.length <;> by_cases f2:0 ≤ left
     all_goals
      go_wp2
      go_roundw
      case rel=>exact ⟨k + 1,_,_,by omega,by go_num,rfl,rfl,by rw [HG.out]; simp [f1,f2],hb2,q2',q5',by omega⟩
      case measure=>simp [intOf]; omega
  ·have hkl:k = p.trucks.length:=by omega
   subst hkl
   have HG:=hid (show nc7 x p.trucks = (r,l) from by rw [hgo,List.drop_length]; rfl)
   clear hcell2 ha2 hgo
   go_wp2
   go_ret2
   exact ⟨by rw [HG.out]; rfl,hb⟩
end Go.Proofs.Ytabadfkikdefeaa
