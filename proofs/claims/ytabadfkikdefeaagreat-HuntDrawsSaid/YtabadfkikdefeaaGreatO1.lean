/- Texts of the proof, joined: Lib, Tail. -/
import Derived.WalkKit
import Derived.Deep.QuietTactic
import Derived.BigQuiet
import Derived.Outline
import Derived.WalkLawsBesides
import Derived.WalkSpells
import Derived.OrdersHeld
import Derived.StillTail
set_option linter.all false
set_option maxRecDepth 100000
set_option maxHeartbeats 6400000
namespace Go.Proofs.YtabadfkikdefeaaGreat
open Go.RowKit
theorem hid {p:Prop}(h:p):Hid p:=h
def Agree (F:Nat→Prop) (w w':World):Prop:=∀b,F b→w'.heap[b]? = w.heap[b]?
theorem as7 {w:World}{a:Addr}{v:Value}(h:w.cell? a=some v):a.block<w.heap.size:=by
 unfold World.cell? at h
 split at h
 ·rename_i c _ _ hc
  exact (Array.getElem?_eq_some_iff.1 hc).1
 ·cases h
theorem rx7 {F:Nat→Prop}{w w':World}(h:Agree F w w') {a:Addr}(ha:F a.block):w'.cell? a=w.cell? a :=
 World.cell?_of_block (h _ ha)
def nb7 (x:Int):Prop:=-9223372036854775808≤x∧x≤9223372036854775807
structure Shape (α:Type) where
 sz:Nat
 rep:World→(Nat→Prop)→α→List Value→Prop
 len:∀{w F x cs},rep w F x cs→cs.length=sz
 keep:∀{w w' F x cs},rep w F x cs→Agree F w w'→rep w' F x cs
 weak:∀{w F G x cs},rep w F x cs→(∀b,F b→G b)→rep w G x cs
 lt:∀{w F x cs},rep w F x cs→rep w (fun b=>F b∧b<w.heap.size) x cs
theorem Shape.below {α:Type}(S:Shape α) {w w':World}{F:Nat→Prop}{x:α}{cs:List Value}(h:S.rep w F x cs) (hb:Below w.heap.size w w'):S.rep w' F x cs :=
 S.weak (S.keep (S.lt h) fun b k=>hb.block b k.2) fun _ k=>k.1
theorem Shape.any {α:Type}(S:Shape α) {w:World}{F:Nat→Prop}{x:α}{cs:List Value}(h:S.rep w F x cs):S.rep w (fun _=>True) x cs:=S.weak h fun _ _=>trivial
theorem Shape.old {α:Type}(S:Shape α) {w:World}{F:Nat→Prop}{x:α}{cs:List Value}(h:S.rep w F x cs):S.rep w (fun b=>b<w.heap.size) x cs:=S.weak (S.lt h) fun _ k=>k.2
def wc7 {α:Type} (n:Nat) (P:α→List Value→Prop) (hl:∀{x cs},P x cs→cs.length=n):Shape α where
 sz:=n
 rep:=fun _ _ x cs=>P x cs
 len:=hl
 keep:=fun h _=>h
 weak:=fun h _=>h
 lt:=fun h=>h
def kw7:Shape Int:=wc7 1 (fun x cs=>cs=[.int .i64 x]∧nb7 x) (by rintro x cs ⟨rfl,_⟩;rfl)
def u8S:Shape Int:=wc7 1 (fun x cs=>cs=[.int .u8 x]∧0≤x∧x≤255) (by rintro x cs ⟨rfl,_⟩;rfl)
def pdb7 {α:Type} (S:Shape α) (w:World) (F:Nat→Prop) (xs:List α) (cs:List Value):Prop :=
 ∃(a:Option Addr) (b off c:Nat),cs=[.slice a xs.length c]∧xs.length≤c∧c≤maxLen∧(0<xs.length→a=some ⟨b,off,none⟩∧F b) ∧
  ∀i (h:i<xs.length),∃es,S.rep w F xs[i] es∧∀j,j<S.sz→w.cell? ⟨b,off+i*S.sz+j,none⟩=es[j]?
def ua7 {α:Type} (S:Shape α) (h0:0<S.sz:=by decide):Shape (List α) where
 sz:=1
 rep:=pdb7 S
 len:=by rintro w F x cs ⟨a,b,off,c,rfl,_⟩;rfl
 keep:=by
  rintro w w' F x cs ⟨a,b,off,c,rfl,h1,h2,h3,h4⟩ ha
  refine⟨a,b,off,c,rfl,h1,h2,h3,fun i hi=>?_⟩
  obtain⟨es,he,hc⟩:=h4 i hi
  refine⟨es,S.keep he ha,fun j hj=>?_⟩
  rw[← hc j hj]
  exact rx7 ha (h3 (by omega)).2
 weak:=by
  rintro w F G x cs ⟨a,b,off,c,rfl,h1,h2,h3,h4⟩ ha
  refine⟨a,b,off,c,rfl,h1,h2,fun h=>⟨(h3 h).1,ha _ (h3 h).2⟩,fun i hi=>?_⟩
  obtain⟨es,he,hc⟩:=h4 i hi
  exact⟨es,S.weak he ha,hc⟩
 lt:=by
  rintro w F x cs ⟨a,b,off,c,rfl,h1,h2,h3,h4⟩
  refine⟨a,b,off,c,rfl,h1,h2,fun h=>⟨(h3 h).1,(h3 h).2, ?_⟩,fun i hi=>?_⟩
  ·obtain⟨es,he,hc⟩:=h4 0 h
   have hl:=S.len he
   have:=hc 0 h0
   rw[List.getElem?_eq_getElem (by omega)]at this
   exact as7 this
  ·obtain⟨es,he,hc⟩:=h4 i hi
   exact⟨es,S.lt he,hc⟩
theorem tq7 {w:World}{F:Nat→Prop}{xs:List Int}{cs:List Value}(h:(ua7 kw7).rep w F xs cs) :
  ∃(a:Option Addr) (b off c:Nat),cs=[.slice a xs.length c]∧xs.length≤c∧c≤9223372036854775807∧(0<xs.length→a=some ⟨b,off,none⟩)∧(0<xs.length→F b) ∧
   (∀k (h:k<xs.length),w.cell? ⟨b,off+k,none⟩=some (.int .i64 xs[k]))∧∀x∈xs,nb7 x:=by
 obtain⟨a,b,off,c,rfl,h1,h2,h3,h4⟩:=h
 refine⟨a,b,off,c,rfl,h1,h2,fun h=>(h3 h).1,fun h=>(h3 h).2,fun k hk=>?_,fun x hx=>?_⟩
 ·obtain⟨es,⟨rfl,_⟩,hc⟩:=h4 k hk
  have:=hc 0 (by decide)
  simpa[kw7,wc7]using this
 ·obtain⟨k,hk,rfl⟩:=List.getElem_of_mem hx
  obtain⟨es,he,_⟩:=h4 k hk
  exact he.2
theorem rm7 {w:World}{F:Nat→Prop}{xs:List Int}{cs:List Value}(h:(ua7 u8S).rep w F xs cs) :
  ∃(a:Option Addr) (b off c:Nat),cs=[.slice a xs.length c]∧xs.length≤c∧c≤9223372036854775807∧(0<xs.length→a=some ⟨b,off,none⟩)∧(0<xs.length→F b) ∧
   (∀k (h:k<xs.length),w.cell? ⟨b,off+k,none⟩=some (.int .u8 xs[k]))∧∀x∈xs,0≤x∧x≤255:=by
 obtain⟨a,b,off,c,rfl,h1,h2,h3,h4⟩:=h
 refine⟨a,b,off,c,rfl,h1,h2,fun h=>(h3 h).1,fun h=>(h3 h).2,fun k hk=>?_,fun x hx=>?_⟩
 ·obtain⟨es,⟨rfl,_⟩,hc⟩:=h4 k hk
  have:=hc 0 (by decide)
  simpa[u8S,wc7]using this
 ·obtain⟨k,hk,rfl⟩:=List.getElem_of_mem hx
  obtain⟨es,he,_⟩:=h4 k hk
  exact he.2
structure kkb7 where
 room:Int
 hold:Int
 deriving DecidableEq
structure zx7 where
 load:Int
 opn:Int
 cls:Int
 stay:Int
 deriving DecidableEq
structure ra7 where
 sat:Int
 load:Int
 deriving DecidableEq
structure cb7 where
 sat:Int
 stops:List Int
 deriving DecidableEq
structure geb7 where
 trucks:List (List ra7)
 bikes:List cb7
 deriving DecidableEq
structure cm7 where
 fin:Int
 tmany:Int
 troom:Int
 bmany:Int
 broom:Int
 sats:List kkb7
 custs:List zx7
 cost:List (List Int)
 time:List (List Int)
 deriving DecidableEq
def cub7:Shape kkb7:=wc7 2 (fun x cs=>cs=[.int .i64 x.room,.int .i64 x.hold]∧nb7 x.room∧nb7 x.hold) (by rintro x cs ⟨rfl,_⟩;rfl)
def sqb7:Shape zx7:=wc7 4 (fun x cs=>cs=[.int .i64 x.load,.int .i64 x.opn,.int .i64 x.cls,.int .i64 x.stay]∧nb7 x.load∧nb7 x.opn∧nb7 x.cls∧nb7 x.stay) (by rintro x cs ⟨rfl,_⟩;rfl)
def em7:Shape ra7:=wc7 2 (fun x cs=>cs=[.int .i64 x.sat,.int .i64 x.load]∧nb7 x.sat∧nb7 x.load) (by rintro x cs ⟨rfl,_⟩;rfl)
def peb7:Shape cb7 where
 sz:=2
 rep:=fun w F x cs=>∃v,cs=[.int .i64 x.sat,v]∧nb7 x.sat∧(ua7 kw7).rep w F x.stops [v]
 len:=by rintro w F x cs ⟨v,rfl,_⟩;rfl
 keep:=by rintro w w' F x cs ⟨v,rfl,h1,h2⟩ ha;exact⟨v,rfl,h1,(ua7 kw7).keep h2 ha⟩
 weak:=by rintro w F G x cs ⟨v,rfl,h1,h2⟩ ha;exact⟨v,rfl,h1,(ua7 kw7).weak h2 ha⟩
 lt:=by rintro w F x cs ⟨v,rfl,h1,h2⟩;exact⟨v,rfl,h1,(ua7 kw7).lt h2⟩
def qhb7:Shape (List (List ra7)):=ua7 (ua7 em7)
def ufb7:Shape (List cb7):=ua7 peb7
def wab7:Shape (List kkb7):=ua7 cub7
def pq7:Shape (List zx7):=ua7 sqb7
def xo7:Shape (List (List Int)):=ua7 (ua7 kw7)
def krb7:Shape cm7 where
 sz:=9
 rep:=fun w F x cs=>∃s c co ti,cs=[.int .i64 x.fin,.int .i64 x.tmany,.int .i64 x.troom,.int .i64 x.bmany,.int .i64 x.broom,s,c,co,ti] ∧
  (nb7 x.fin∧nb7 x.tmany∧nb7 x.troom∧nb7 x.bmany∧nb7 x.broom)∧wab7.rep w F x.sats [s]∧pq7.rep w F x.custs [c]∧xo7.rep w F x.cost [co]∧xo7.rep w F x.time [ti]
 len:=by rintro w F x cs ⟨_,_,_,_,rfl,_⟩;rfl
 keep:=by rintro w w' F x cs ⟨_,_,_,_,rfl,h0,h1,h2,h3,h4⟩ ha;exact⟨_,_,_,_,rfl,h0,wab7.keep h1 ha,pq7.keep h2 ha,xo7.keep h3 ha,xo7.keep h4 ha⟩
 weak:=by rintro w F G x cs ⟨_,_,_,_,rfl,h0,h1,h2,h3,h4⟩ ha;exact⟨_,_,_,_,rfl,h0,wab7.weak h1 ha,pq7.weak h2 ha,xo7.weak h3 ha,xo7.weak h4 ha⟩
 lt:=by rintro w F x cs ⟨_,_,_,_,rfl,h0,h1,h2,h3,h4⟩;exact⟨_,_,_,_,rfl,h0,wab7.lt h1,pq7.lt h2,xo7.lt h3,xo7.lt h4⟩
theorem vm7 {w:World}{F:Nat→Prop}{xs:List ra7}{cs:List Value}(h:(ua7 em7).rep w F xs cs) :
  ∃(a:Option Addr) (b off c:Nat),cs=[.slice a xs.length c]∧xs.length≤c∧c≤9223372036854775807∧(0<xs.length→a=some ⟨b,off,none⟩)∧(0<xs.length→F b) ∧
   (∀k (h:k<xs.length),w.cell? ⟨b,off+k*2,none⟩=some (.int .i64 xs[k].sat)∧w.cell? ⟨b,off+k*2+1,none⟩=some (.int .i64 xs[k].load))∧∀x∈xs,nb7 x.sat∧nb7 x.load:=by
 obtain⟨a,b,off,c,rfl,h1,h2,h3,h4⟩:=h
 refine⟨a,b,off,c,rfl,h1,h2,fun h=>(h3 h).1,fun h=>(h3 h).2,fun k hk=>?_,fun x hx=>?_⟩
 ·obtain⟨es,⟨rfl,_⟩,hc⟩:=h4 k hk
  have e0:=hc 0 (by decide)
  have e1:=hc 1 (by decide)
  exact⟨by simpa[em7,wc7]using e0,by simpa[em7,wc7]using e1⟩
 ·obtain⟨k,hk,rfl⟩:=List.getElem_of_mem hx
  obtain⟨es,he,_⟩:=h4 k hk
  exact he.2
theorem ai7 {w w':World}{a:Addr}{v:Value}(hb:Below w.heap.size w w') (h:w.cell? a=some v):w'.cell? a=some v:=by
 rw[hb.cell (as7 h)];exact h
theorem hm7 {P:Program}{t e:TypeId}{sz:Nat}(ht:P.underlying t=some (.slice e)) (hsz:∀w,(sizeOf e).run P w = .ok sz w) {a:Option Addr}{b off n c k:Nat}(ha:a=some ⟨b,off,none⟩) (hk:k<n) :
  ∀w,(Instr.indexAt t (.slice a n c) (.int .i64 (k:Int))).run P w = .ok (.pointer (some ⟨b,off+k*sz,none⟩)) w:=by
 intro w
 subst ha
 have he:P.elem t=e:=by simp[Program.elem,ht]
 have ht':P.underlying t=some (.slice (P.elem t)):=by rw[he];exact ht
 rw[run_indexAt_slice w t _ _ _ _ _ ht',if_pos ⟨by omega,by omega⟩,he,hsz]
 simp only[Result.andThen]
 congr 3
 simp[Addr.add]
theorem ut7 {P:Program}{t e:TypeId}(ht:P.underlying t=some (.slice e)) (hsz:∀w,(sizeOf e).run P w = .ok 1 w) {a:Option Addr}{b off n c k:Nat}(ha:a=some ⟨b,off,none⟩) (hk:k<n) :
  ∀w,(Instr.indexAt t (.slice a n c) (.int .i64 (k:Int))).run P w = .ok (.pointer (some ⟨b,off+k,none⟩)) w:=by
 have h:=hm7 ht hsz (c:=c) ha hk
 simpa only[Nat.mul_one]using h
theorem gx7 {a w w':World}(h:Below a.heap.size a w) (hb:Below w.heap.size w w'):Below a.heap.size a w':=h.trans (hb.mono h.size)
theorem Calls.val {P:Program}{f:FuncId}{args:Array Value}{w:World}{R:World→Prop}{v v':Value}(h:Calls P f args w fun e w'=>e = .returned v∧R w') (hv:v=v') :
  Calls P f args w fun e w'=>e = .returned v'∧R w':=hv ▸ h
theorem Calls.bool {P:Program}{f:FuncId}{args:Array Value}{w:World}{R:World→Prop}{b b':Bool}(h:Calls P f args w fun e w'=>e = .returned (.bool b)∧R w') (hb:b=b') :
  Calls P f args w fun e w'=>e = .returned (.bool b')∧R w':=hb ▸ h
theorem yc7 {a b:Bool}(h:a=b):Ending.returned (.bool a) = .returned (.bool b):=by rw[h]
section
variable {P:Program} {ops:Array Oper} {Q:Exit→Act→World→Prop} {md:Region.Mode} {S:World→Prop}
def mc7 (P:Program) (md:Region.Mode) (ops:Array Oper) (Q:Exit→Act→World→Prop) (S:World→Prop) (fins:List Nat):Nat→Array Bool→Act→World→Prop
 | 0,listed,a,w=>Region.ready md ops listed=[]∧Q .normal a w
 | fuel+1,listed,a,w =>
  (Region.ready md ops listed=[]→Q .normal a w) ∧
  ∀i∈Region.ready md ops listed,wpOp P ops Q i (fun a' w'=>(i∈fins∧wpAny P md ops Q fuel (listed.setIfInBounds i true) a' w')∨(S w'∧mc7 P md ops Q S fins fuel (listed.setIfInBounds i true) a' w')) a w
theorem fd7 {fins:List Nat}:∀(fuel:Nat) (listed:Array Bool) (a:Act) (w:World),mc7 P md ops Q S fins fuel listed a w→wpAny P md ops Q fuel listed a w
 | 0,_,_,_,h=>h
 | fuel+1,_,_,_,h=>⟨h.1,fun i hi=>wpOp_mono (fun a' w' h'=>h'.elim (·.2) fun h=>fd7 fuel _ a' w' h.2) (h.2 i hi)⟩
theorem orF {fins:List Nat}{i fuel:Nat}{l:Array Bool}{a:Act}{w:World}(h:(i∈fins∨S w)∧mc7 P md ops Q S fins fuel l a w):(i∈fins∧wpAny P md ops Q fuel l a w)∨(S w∧mc7 P md ops Q S fins fuel l a w) :=
 h.1.elim (fun h1=>.inl ⟨h1,fd7 _ _ _ _ h.2⟩) fun h1=>.inr ⟨h1,h.2⟩
def Closed (md:Region.Mode) (ops:Array Oper) (listed:Array Bool):Prop :=
 ∀j oj,ops[j]? = some oj→listed.getD j false=true→∀e∈oj.after,Region.binds md e=true→listed.getD e.on false=true
theorem Closed.set {i:Nat}{listed:Array Bool}(h:Closed md ops listed) (hi:i∈Region.ready md ops listed):Closed md ops (listed.setIfInBounds i true):=by
 obtain⟨_,oi,hoi,hall⟩:=mem_ready.1 hi
 intro j oj hj hl e he hb
 by_cases hij:i=j
 ·subst hij
  have:oj=oi:=Option.some.inj (hj.symm.trans hoi)
  subst this
  exact getD_set_true (hall e he hb)
 ·rw[getD_set_ne false hij]at hl
  exact getD_set_true (h j oj hj hl e he hb)
def bq7 (md:Region.Mode) (ops:Array Oper):Nat→Nat→Nat→Bool
 | 0,_,_=>false
 | f+1,j,i=>Region.waitsFor md ops j i || (List.range ops.size).any fun k=>Region.waitsFor md ops j k&&bq7 md ops f k i
theorem th7 {listed:Array Bool}(hc:Closed md ops listed):∀(f j i:Nat),bq7 md ops f j i=true→(∀oj,ops[j]? = some oj→∀e∈oj.after,Region.binds md e=true→listed.getD e.on false=true)→listed.getD i false=true
 | 0,_,_,h,_=>by cases h
 | f+1,j,i,h,hp=>by
  simp only[bq7,Bool.or_eq_true,List.any_eq_true,Bool.and_eq_true]at h
  rcases h with h | ⟨k,_,h1,h2⟩
  ·obtain⟨oj,hoj,e,he,hb,hon⟩:=Region.waitsFor_spec h
   rw[← hon];exact hp oj hoj e he hb
  ·obtain⟨oj,hoj,e,he,hb,hon⟩:=Region.waitsFor_spec h1
   have hk:listed.getD k false=true:=by rw[← hon];exact hp oj hoj e he hb
   exact th7 hc f k i h2 fun ok hok e he hb=>hc k ok hok hk e he hb
theorem ri7 {fins:List Nat}{i:Nat}{oi:Oper}{v:Value}(hi:ops[i]? = some oi) (hsel:∀(j:Nat) (o:Oper) cs b,ops[j]? = some o→o.op ≠ .select cs b)
  (hQ:∀c a w,Q (.panic c) (a.put oi.dst v) w→Q (.panic c) a w) (hnf:i ∉ fins) (hfin:∀j∈fins,bq7 md ops ops.size j i=true) :
  ∀(fuel:Nat) (listed:Array Bool) (a:Act) (w:World),Closed md ops listed →
   (∀j oj,ops[j]? = some oj→j≠i→listed.getD j true=false→(∀e∈oj.after,Region.binds md e=true→e.on≠i)→oi.apart ops oj=true) →
   i∈Region.ready md ops listed→YieldsIf P ops S oi v a→S w →
   mc7 P md ops Q S fins fuel (listed.setIfInBounds i true) (a.put oi.dst v) w→mc7 P md ops Q S fins (fuel+1) listed a w:=by
 intro fuel
 induction fuel with
 | zero =>
  intro listed a w _ _ hr hy hS H
  refine⟨fun h=>(by rw[h]at hr;cases hr),fun j hj=>?_⟩
  by_cases hji:j=i
  ·subst hji;exact hy.wpOp hi hS (.inr ⟨hS,H⟩)
  ·have:=ready_mono hj hji
   rw[H.1]at this
   cases this
 | succ fuel ih =>
  intro listed a w hcl hfree hr hy hS H
  refine⟨fun h=>(by rw[h]at hr;cases hr),fun j hj=>?_⟩
  by_cases hji:j=i
  ·subst hji;exact hy.wpOp hi hS (.inr ⟨hS,H⟩)
  ·have h1:=H.2 j (ready_mono hj hji)
   obtain⟨hjun,oj,hoj,hall⟩:=mem_ready.1 hj
   have hnot:∀e∈oj.after,Region.binds md e=true→e.on≠i:=fun e he hb heq=>by
    have h1:=hall e he hb
    have h0:=(mem_ready.1 hr).1
    rw[heq]at h1
    rcases Nat.lt_or_ge i listed.size with h' | h'
    ·simp[h']at h0 h1;rw[h0]at h1;cases h1
    ·simp[Array.getElem?_eq_none h']at h1
   have hjf:j ∉ fins:=fun hf=>by
    have h1:=th7 hcl _ _ _ (hfin j hf) (fun oj' hoj'=>by
     have:oj'=oj:=Option.some.inj (hoj'.symm.trans hoj)
     subst this
     exact hall)
    rw[getD_both (mem_ready.1 hr).1]at h1
    cases h1
   have h2:=wpOp_putIf hoj (hfree j oj hoj hji hjun hnot) (fun cs b=>hsel i oi cs b hi) (fun cs b=>hsel j oj cs b hoj) hQ hy h1
   have hfree':∀k ok,ops[k]? = some ok→k≠i→(listed.setIfInBounds j true).getD k true=false →
     (∀e∈ok.after,Region.binds md e=true→e.on≠i)→oi.apart ops ok=true:=fun k ok hk hki hun hno=>by
    refine hfree k ok hk hki ?_ hno
    by_cases hjk:j=k
    ·subst hjk;exact hjun
    ·rw[getD_set_ne true hjk]at hun;exact hun
   refine wpOp_mono (fun a' w' h3=>?_) h2
   have h4:=h3.2.resolve_left fun h=>hjf h.1
   refine .inr ⟨h4.1,ih (listed.setIfInBounds j true) a' w' (hcl.set hj) hfree' (ready_mono hr (Ne.symm hji)) h3.1 h4.1 ?_⟩
   rw[Array.setIfInBounds_comm _ _ hji]
   exact h4.2
def oob7:Op→Bool
 | .move _ | .assign _ | .pick .. | .build .. | .load .. | .binOp .. | .unOp .. | .convert .. | .slice .. | .fieldAddr .. | .field .. | .indexAddr .. | .index .. | .extract .. | .typeAssert .. | .nilCheck _=>true
 | .call { callee:=.builtin .len,.. }=>true
 | .call { callee:=.builtin .max,.. }=>true
 | .call { callee:=.builtin .min,.. }=>true
 | _=>false
theorem co7 {x:Sem Value}{w w':World}{r:Next}(h:((do pure (Next.value (← x))):Sem Next).run P w = .ok r w'):∃v,r = .value v:=by
 rw[Sem.run_bind]at h
 cases hx:x.run P w with
 | ok v w1=>rw[hx]at h;simp only[Result.andThen]at h;exact⟨v,(Result.ok.inj h).1.symm⟩
 | halt k w1=>rw[hx]at h;simp[Result.andThen]at h
theorem xe7 {α:Type}{x:Sem α}{f:α→Sem Next}(hf:∀a w w' r,(f a).run P w = .ok r w'→∃v,r=Next.value v) {w w':World}{r:Next}(h:(x >>= f).run P w = .ok r w'):∃v,r = .value v:=by
 rw[Sem.run_bind]at h
 cases hx:x.run P w with
 | ok v w1=>rw[hx]at h;exact hf v w1 w' r h
 | halt k w1=>rw[hx]at h;simp[Result.andThen]at h
theorem rbb7 {ρ:Operand→Value}{o:Oper}(h:oob7 o.op=true) {w w':World}{r:Next}(hr:(execOp ρ o).run P w = .ok r w'):∃v,r = .value v:=by
 obtain⟨dst,op,type,pos,after,guard⟩:=o
 cases op <;> simp only[oob7,Bool.false_eq_true]at h
 case move=>exact⟨_,(Result.ok.inj hr).1.symm⟩
 case assign=>exact⟨_,(Result.ok.inj hr).1.symm⟩
 case pick c x y =>
  rw[show execOp ρ ⟨dst,.pick c x y,type,pos,after,guard⟩=(do pure (.value (if ← asBool (ρ c) then ρ x else ρ y))) from rfl,Sem.run_bind]at hr
  cases hx:(asBool (ρ c)).run P w with
  | ok v w1=>rw[hx]at hr;simp only[Result.andThen]at hr;exact⟨_,(Result.ok.inj hr).1.symm⟩
  | halt k w1=>rw[hx]at hr;simp[Result.andThen]at hr
 case call c =>
  obtain⟨callee,args,ats⟩:=c
  cases callee with
  | value f=>exact Bool.noConfusion h
  | invoke r m=>exact Bool.noConfusion h
  | builtin b =>
   cases b
   case len=>exact co7 (x:=Builtin.len_ ats type (args.map ρ)) hr
   case max=>exact co7 (x:=Builtin.max_ ats type (args.map ρ)) hr
   case min=>exact co7 (x:=Builtin.min_ ats type (args.map ρ)) hr
   all_goals exact Bool.noConfusion h
 case nilCheck x =>
  rw[show execOp ρ ⟨dst,.nilCheck x,type,pos,after,guard⟩=_ from rfl]at hr
  unfold execOp at hr
  simp only[]at hr
  split at hr
  ·simp[runtimePanic]at hr
  ·simp[runtimePanic]at hr
  ·simp[runtimePanic]at hr
  ·split at hr
   ·simp[runtimePanic]at hr
   ·refine xe7 (fun a w w' r h=>xe7 (fun b w w' r h=>?_) h) hr
    split at h
    ·refine xe7 (fun a2 w2 w3 r2 h2=>?_) h
     exact⟨_,(Result.ok.inj h2).1.symm⟩
    ·exact⟨_,(Result.ok.inj h).1.symm⟩
   ·exact⟨_,(Result.ok.inj hr).1.symm⟩
  ·exact⟨_,(Result.ok.inj hr).1.symm⟩
 all_goals exact co7 hr
structure At (S:World→Prop) where
 val:World
 ok:S val
def in7 (ops:Array Oper):List (List Nat×Nat×Bool)→List (List Oper×Oper×Bool):=fun l=>l.map fun (lq,i,f)=>(lq.map fun j=>ops.getD j default,ops.getD i default,f)
def qh7 (md:Region.Mode) (ops:Array Oper) (fins:List Nat):List Nat→Array Bool→Option (Array Bool)
 | [],listed=>some listed
 | i::rest,listed =>
  if (Region.ready md ops listed).contains i&&Region.free md ops listed i&&decide (i ∉ fins)&&fins.all (fun j=>bq7 md ops ops.size j i)&&oob7 (ops.getD i default).op&&decide (i<ops.size) then qh7 md ops fins rest (listed.setIfInBounds i true) else none
def udb7 (md:Region.Mode) (ops:Array Oper) (fins:List Nat):List (List Nat×Nat×Bool)→Array Bool→Bool
 | [],listed=>(Region.ready md ops listed).isEmpty
 | (lq,i,f)::rest,listed =>
  match qh7 md ops fins lq listed with
  | none=>false
  | some listed'=>decide (Region.ready md ops listed'=[i])&&(f==fins.contains i)&&(!f || lq.isEmpty&&rest.all (fun x=>x.2.2&&x.1.isEmpty))&&decide (i<ops.size)&&udb7 md ops fins rest (listed'.setIfInBounds i true)
def td7:List (List Nat×Nat×Bool)→Nat
 | []=>0
 | (lq,_,_)::rest=>lq.length+1+td7 rest
theorem qp7 {o:Oper}{a:Act}{K:Act→Prop}(hv:oob7 o.op=true) (h:o.quiet P a (fun w'=>∃e:At S,w'=e.val) K) (hw:Region.wanted o (yielded ops a.tmps)=true) :
  ∃v,YieldsIf P ops S o v a∧K (a.put o.dst v):=by
 obtain⟨v,h1,h2⟩:=h
 refine⟨v,.inl ⟨hw,fun w' hS'=>?_⟩,h2⟩
 have h3:=h1 w' ⟨⟨w',hS'⟩,rfl⟩
 unfold Oper.quietAt at h3
 cases hr:(execOp a.eval o).run P w' with
 | halt k w1=>rw[hr]at h3;simp only[Oper.quietUpon]at h3
 | ok r w1 =>
  obtain⟨u,rfl⟩:=rbb7 hv hr
  rw[hr]at h3
  simp only[Oper.quietUpon]at h3
  rw[h3.1,h3.2]
theorem fq7 {i:Nat}{o:Oper}{K:Act→World→Prop}{a:Act}{w:World}(ho:ops[i]? = some o) (h:wpList P ops (Exit.then K Q) [o] a w):wpOp P ops Q i K a w:=by
 unfold wpOp
 simp only[ho]
 unfold wpList at h
 split
 ·rename_i hw
  simp only[hw,if_true]at h
  rcases h with h | h
  ·refine .inl ?_
   unfold Oper.wp at *
   generalize (execOp a.eval o).run P w=r at *
   cases r with
   | ok n w' =>
    cases n
    case enter f args=>exact Calls.mono h fun e w'' he=>by cases e <;> exact he
    case row row args=>exact Rows.mono h fun _ _ he=>he
    all_goals exact h
   | halt x w'=>cases x <;> exact h
  ·exact .inr h
 ·rename_i hw
  simp only[hw]at h
  exact h
theorem of7 {fins:List Nat}(hs:Region.noSelect ops=true) (hQ:∀c a d v w,Q (.panic c) (Act.put a d v) w→Q (.panic c) a w) {K:Act→Prop}{w:World}(hS:S w) {fuel:Nat} :
  ∀(lq:List Nat) (listed listed':Array Bool) (a:Act),Closed md ops listed→qh7 md ops fins lq listed=some listed'→wpQuiet P ops (fun w'=>∃e:At S,w'=e.val) K (lq.map fun j=>ops.getD j default) a →
   (∀a',Closed md ops listed'→K a'→mc7 P md ops Q S fins fuel listed' a' w)→mc7 P md ops Q S fins (lq.length+fuel) listed a w
 | [],listed,listed',a,hcl,hB,h,hK=>by
  simp only[qh7,Option.some.injEq]at hB
  subst hB
  rw[List.length_nil,Nat.zero_add]
  exact hK a hcl h
 | i::lq,listed,listed',a,hcl,hB,h,hK=>by
  simp only[qh7]at hB
  split at hB
  case isFalse=>cases hB
  rename_i hc
  simp only[Bool.and_eq_true,decide_eq_true_eq,List.all_eq_true]at hc
  obtain⟨⟨⟨⟨⟨h1,h2⟩,h3⟩,h4⟩,h5⟩,h6⟩:=hc
  have ho:ops[i]? = some (ops.getD i default):=by simp[Array.getD,h6]
  rw[show (i::lq).length+fuel=(lq.length+fuel)+1 by simp;omega]
  by_cases hw:Region.wanted (ops.getD i default) (yielded ops a.tmps)=true
  ·have h7:(ops.getD i default).quiet P a (fun w'=>∃e:At S,w'=e.val) (wpQuiet P ops (fun w'=>∃e:At S,w'=e.val) K (lq.map fun j=>ops.getD j default)):=by
    simp only[List.map_cons,wpQuiet,hw,if_true]at h
    exact h
   obtain⟨v,hy,hn⟩:=qp7 (ops:=ops) h5 h7 hw
   exact ri7 ho (Region.noSelect_spec hs) (fun c a w=>hQ c a _ _ w) h3 h4 _ listed a w hcl (Region.free_spec ho h2) (by simpa using h1) hy hS
    (of7 hs hQ hS lq _ _ _ (hcl.set (by simpa using h1)) hB hn hK)
  ·have h7:wpQuiet P ops (fun w'=>∃e:At S,w'=e.val) K (lq.map fun j=>ops.getD j default) (a.put (ops.getD i default).dst undef):=by
    simp only[List.map_cons,wpQuiet,hw]at h
    exact h
   exact ri7 ho (Region.noSelect_spec hs) (fun c a w=>hQ c a _ _ w) h3 h4 _ listed a w hcl (Region.free_spec ho h2) (by simpa using h1) (.inr ⟨by simpa using hw,rfl⟩) hS
    (of7 hs hQ hS lq _ _ _ (hcl.set (by simpa using h1)) hB h7 hK)
end
def Old (W:World) (w':World):Prop:=Below W.heap.size W w'
instance (W:World):Nonempty (At (Old W)):=⟨⟨W,Below.refl _ _⟩⟩
theorem At.cell {W:World}(x:At (Old W)) {a:Addr}{v:Value}(h:W.cell? a=some v):x.val.cell? a=some v:=ai7 x.ok h
theorem Old.drew (W:World):Old W W.drew:=Below.drew (Below.refl _ _)
theorem Old.step {W w w':World}(h:Old W w) (hb:Below w.heap.size w w'):Old W w':=gx7 h hb
end Go.Proofs.YtabadfkikdefeaaGreat
