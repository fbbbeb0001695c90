/- Texts of the proof, joined: Lib, Tail. -/
import Derived.WalkKit
import Derived.Deep.QuietTactic
import Derived.BigQuiet
import Derived.Outline
import Derived.WalkLawsBesides
import Derived.WalkSpells
import Derived.OrdersHeld
import Derived.StillTail
set_option linter.all false
set_option maxRecDepth 100000
set_option maxHeartbeats 6400000
namespace Go.Proofs.YtabadfkikdefeaaGreat
open Go.RowKit
theorem hid {p:Prop}(h:p):Hid p:=h
def Agree (F:Nat→Prop) (w w':World):Prop:=∀b,F b→w'.heap[b]? = w.heap[b]?
theorem mhb7 {w:World}{a:Addr}{v:Value}(h:w.cell? a=some v):a.block<w.heap.size:=by
 unfold World.cell? at h
 split at h
 ·rename_i c _ _ hc
  exact (Array.getElem?_eq_some_iff.1 hc).1
 ·cases h
theorem wnb7 {F:Nat→Prop}{w w':World}(h:Agree F w w') {a:Addr}(ha:F a.block):w'.cell? a=w.cell? a :=
 World.cell?_of_block (h _ ha)
theorem Agree.of_below {B:Nat}{w w':World}(h:Below B w w'):Agree (fun b=>b<B) w w':=fun b hb=>h.block b hb
def za7 (x:Int):Prop:=-9223372036854775808≤x∧x≤9223372036854775807
structure Shape (α:Type) where
 sz:Nat
 rep:World→(Nat→Prop)→α→List Value→Prop
 len:∀{w F x cs},rep w F x cs→cs.length=sz
 keep:∀{w w' F x cs},rep w F x cs→Agree F w w'→rep w' F x cs
 weak:∀{w F G x cs},rep w F x cs→(∀b,F b→G b)→rep w G x cs
 lt:∀{w F x cs},rep w F x cs→rep w (fun b=>F b∧b<w.heap.size) x cs
theorem Shape.below {α:Type}(S:Shape α) {w w':World}{F:Nat→Prop}{x:α}{cs:List Value}(h:S.rep w F x cs) (hb:Below w.heap.size w w'):S.rep w' F x cs :=
 S.weak (S.keep (S.lt h) fun b k=>hb.block b k.2) fun _ k=>k.1
theorem Shape.belowB {α:Type}(S:Shape α) {B:Nat}{w w':World}{x:α}{cs:List Value}(h:S.rep w (fun b=>b<B) x cs) (hb:Below B w w'):S.rep w' (fun b=>b<B) x cs :=
 S.keep h fun b k=>hb.block b k
theorem Shape.any {α:Type}(S:Shape α) {w:World}{F:Nat→Prop}{x:α}{cs:List Value}(h:S.rep w F x cs):S.rep w (fun _=>True) x cs:=S.weak h fun _ _=>trivial
theorem Shape.old {α:Type}(S:Shape α) {w:World}{F:Nat→Prop}{x:α}{cs:List Value}(h:S.rep w F x cs):S.rep w (fun b=>b<w.heap.size) x cs:=S.weak (S.lt h) fun _ k=>k.2
def xc7 {α:Type} (n:Nat) (P:α→List Value→Prop) (hl:∀{x cs},P x cs→cs.length=n):Shape α where
 sz:=n
 rep:=fun _ _ x cs=>P x cs
 len:=hl
 keep:=fun h _=>h
 weak:=fun h _=>h
 lt:=fun h=>h
def hf7:Shape Int:=xc7 1 (fun x cs=>cs=[.int .i64 x]∧za7 x) (by rintro x cs ⟨rfl,_⟩;rfl)
def u8S:Shape Int:=xc7 1 (fun x cs=>cs=[.int .u8 x]∧0≤x∧x≤255) (by rintro x cs ⟨rfl,_⟩;rfl)
def jkb7 {α:Type} (S:Shape α) (w:World) (F:Nat→Prop) (xs:List α) (cs:List Value):Prop :=
 ∃(a:Option Addr) (b off c:Nat),cs=[.slice a xs.length c]∧xs.length≤c∧c≤maxLen∧(0<xs.length→a=some ⟨b,off,none⟩∧F b) ∧
  ∀i (h:i<xs.length),∃es,S.rep w F xs[i] es∧∀j,j<S.sz→w.cell? ⟨b,off+i*S.sz+j,none⟩=es[j]?
def ia7 {α:Type} (S:Shape α) (h0:0<S.sz:=by decide):Shape (List α) where
 sz:=1
 rep:=jkb7 S
 len:=by rintro w F x cs ⟨a,b,off,c,rfl,_⟩;rfl
 keep:=by
  rintro w w' F x cs ⟨a,b,off,c,rfl,h1,h2,h3,h4⟩ ha
  refine⟨a,b,off,c,rfl,h1,h2,h3,fun i hi=>?_⟩
  obtain⟨es,he,hc⟩:=h4 i hi
  refine⟨es,S.keep he ha,fun j hj=>?_⟩
  rw[← hc j hj]
  exact wnb7 ha (h3 (by omega)).2
 weak:=by
  rintro w F G x cs ⟨a,b,off,c,rfl,h1,h2,h3,h4⟩ ha
  refine⟨a,b,off,c,rfl,h1,h2,fun h=>⟨(h3 h).1,ha _ (h3 h).2⟩,fun i hi=>?_⟩
  obtain⟨es,he,hc⟩:=h4 i hi
  exact⟨es,S.weak he ha,hc⟩
 lt:=by
  rintro w F x cs ⟨a,b,off,c,rfl,h1,h2,h3,h4⟩
  refine⟨a,b,off,c,rfl,h1,h2,fun h=>⟨(h3 h).1,(h3 h).2, ?_⟩,fun i hi=>?_⟩
  ·obtain⟨es,he,hc⟩:=h4 0 h
   have hl:=S.len he
   have:=hc 0 h0
   rw[List.getElem?_eq_getElem (by omega)]at this
   exact mhb7 this
  ·obtain⟨es,he,hc⟩:=h4 i hi
   exact⟨es,S.lt he,hc⟩
theorem bb7 {w:World}{F:Nat→Prop}{xs:List Int}{cs:List Value}(h:(ia7 hf7).rep w F xs cs) :
  ∃(a:Option Addr) (b off c:Nat),cs=[.slice a xs.length c]∧xs.length≤c∧c≤9223372036854775807∧(0<xs.length→a=some ⟨b,off,none⟩)∧(0<xs.length→F b) ∧
   (∀k (h:k<xs.length),w.cell? ⟨b,off+k,none⟩=some (.int .i64 xs[k]))∧∀x∈xs,za7 x:=by
 obtain⟨a,b,off,c,rfl,h1,h2,h3,h4⟩:=h
 refine⟨a,b,off,c,rfl,h1,h2,fun h=>(h3 h).1,fun h=>(h3 h).2,fun k hk=>?_,fun x hx=>?_⟩
 ·obtain⟨es,⟨rfl,_⟩,hc⟩:=h4 k hk
  have:=hc 0 (by decide)
  simpa[hf7,xc7]using this
 ·obtain⟨k,hk,rfl⟩:=List.getElem_of_mem hx
  obtain⟨es,he,_⟩:=h4 k hk
  exact he.2
theorem job7 {w:World}{F:Nat→Prop}{xs:List Int}{cs:List Value}(h:(ia7 u8S).rep w F xs cs) :
  ∃(a:Option Addr) (b off c:Nat),cs=[.slice a xs.length c]∧xs.length≤c∧c≤9223372036854775807∧(0<xs.length→a=some ⟨b,off,none⟩)∧(0<xs.length→F b) ∧
   (∀k (h:k<xs.length),w.cell? ⟨b,off+k,none⟩=some (.int .u8 xs[k]))∧∀x∈xs,0≤x∧x≤255:=by
 obtain⟨a,b,off,c,rfl,h1,h2,h3,h4⟩:=h
 refine⟨a,b,off,c,rfl,h1,h2,fun h=>(h3 h).1,fun h=>(h3 h).2,fun k hk=>?_,fun x hx=>?_⟩
 ·obtain⟨es,⟨rfl,_⟩,hc⟩:=h4 k hk
  have:=hc 0 (by decide)
  simpa[u8S,xc7]using this
 ·obtain⟨k,hk,rfl⟩:=List.getElem_of_mem hx
  obtain⟨es,he,_⟩:=h4 k hk
  exact he.2
theorem cd7 {α:Type}{S:Shape α}{h0:0<S.sz}{w:World}{F:Nat→Prop}{xs:List (List α)}{cs:List Value}(h:(ia7 (ia7 S h0) Nat.one_pos).rep w F xs cs) :
  ∃(a:Option Addr) (b off c:Nat),cs=[.slice a xs.length c]∧xs.length≤c∧c≤9223372036854775807∧(0<xs.length→a=some ⟨b,off,none⟩)∧(0<xs.length→F b) ∧
   ∀k (h:k<xs.length),∃v,w.cell? ⟨b,off+k,none⟩=some v∧(ia7 S h0).rep w F xs[k] [v]:=by
 obtain⟨a,b,off,c,rfl,h1,h2,h3,h4⟩:=h
 refine⟨a,b,off,c,rfl,h1,h2,fun h=>(h3 h).1,fun h=>(h3 h).2,fun k hk=>?_⟩
 obtain⟨es,he,hc⟩:=h4 k hk
 have hl:=(ia7 S h0).len he
 have:=hc 0 Nat.one_pos
 match es,hl with
 | [v],_=>exact⟨v,by simpa[ia7]using this,he⟩
structure uob7 where
 room:Int
 hold:Int
 deriving DecidableEq
structure ar7 where
 load:Int
 opn:Int
 cls:Int
 stay:Int
 deriving DecidableEq
structure ea7 where
 sat:Int
 load:Int
 deriving DecidableEq
structure ga7 where
 sat:Int
 stops:List Int
 deriving DecidableEq
structure ab7 where
 trucks:List (List ea7)
 bikes:List ga7
 deriving DecidableEq
structure ba7 where
 fin:Int
 tmany:Int
 troom:Int
 bmany:Int
 broom:Int
 sats:List uob7
 custs:List ar7
 cost:List (List Int)
 time:List (List Int)
 deriving DecidableEq
def clc7:Shape uob7:=xc7 2 (fun x cs=>cs=[.int .i64 x.room,.int .i64 x.hold]∧za7 x.room∧za7 x.hold) (by rintro x cs ⟨rfl,_⟩;rfl)
def crb7:Shape ar7:=xc7 4 (fun x cs=>cs=[.int .i64 x.load,.int .i64 x.opn,.int .i64 x.cls,.int .i64 x.stay]∧za7 x.load∧za7 x.opn∧za7 x.cls∧za7 x.stay) (by rintro x cs ⟨rfl,_⟩;rfl)
def oe7:Shape ea7:=xc7 2 (fun x cs=>cs=[.int .i64 x.sat,.int .i64 x.load]∧za7 x.sat∧za7 x.load) (by rintro x cs ⟨rfl,_⟩;rfl)
def cq7:Shape ga7 where
 sz:=2
 rep:=fun w F x cs=>∃v,cs=[.int .i64 x.sat,v]∧za7 x.sat∧(ia7 hf7).rep w F x.stops [v]
 len:=by rintro w F x cs ⟨v,rfl,_⟩;rfl
 keep:=by rintro w w' F x cs ⟨v,rfl,h1,h2⟩ ha;exact⟨v,rfl,h1,(ia7 hf7).keep h2 ha⟩
 weak:=by rintro w F G x cs ⟨v,rfl,h1,h2⟩ ha;exact⟨v,rfl,h1,(ia7 hf7).weak h2 ha⟩
 lt:=by rintro w F x cs ⟨v,rfl,h1,h2⟩;exact⟨v,rfl,h1,(ia7 hf7).lt h2⟩
def mm7:Shape (List (List ea7)):=ia7 (ia7 oe7)
def oo7:Shape (List ga7):=ia7 cq7
def wd7:Shape ab7 where
 sz:=2
 rep:=fun w F x cs=>∃t b,cs=[t,b]∧mm7.rep w F x.trucks [t]∧oo7.rep w F x.bikes [b]
 len:=by rintro w F x cs ⟨t,b,rfl,_⟩;rfl
 keep:=by rintro w w' F x cs ⟨t,b,rfl,h1,h2⟩ ha;exact⟨t,b,rfl,mm7.keep h1 ha,oo7.keep h2 ha⟩
 weak:=by rintro w F G x cs ⟨t,b,rfl,h1,h2⟩ ha;exact⟨t,b,rfl,mm7.weak h1 ha,oo7.weak h2 ha⟩
 lt:=by rintro w F x cs ⟨t,b,rfl,h1,h2⟩;exact⟨t,b,rfl,mm7.lt h1,oo7.lt h2⟩
def smb7:Shape (List uob7):=ia7 clc7
def hz7:Shape (List ar7):=ia7 crb7
def sh7:Shape (List (List Int)):=ia7 (ia7 hf7)
def kb7:Shape ba7 where
 sz:=9
 rep:=fun w F x cs=>∃s c co ti,cs=[.int .i64 x.fin,.int .i64 x.tmany,.int .i64 x.troom,.int .i64 x.bmany,.int .i64 x.broom,s,c,co,ti] ∧
  (za7 x.fin∧za7 x.tmany∧za7 x.troom∧za7 x.bmany∧za7 x.broom)∧smb7.rep w F x.sats [s]∧hz7.rep w F x.custs [c]∧sh7.rep w F x.cost [co]∧sh7.rep w F x.time [ti]
 len:=by rintro w F x cs ⟨_,_,_,_,rfl,_⟩;rfl
 keep:=by rintro w w' F x cs ⟨_,_,_,_,rfl,h0,h1,h2,h3,h4⟩ ha;exact⟨_,_,_,_,rfl,h0,smb7.keep h1 ha,hz7.keep h2 ha,sh7.keep h3 ha,sh7.keep h4 ha⟩
 weak:=by rintro w F G x cs ⟨_,_,_,_,rfl,h0,h1,h2,h3,h4⟩ ha;exact⟨_,_,_,_,rfl,h0,smb7.weak h1 ha,hz7.weak h2 ha,sh7.weak h3 ha,sh7.weak h4 ha⟩
 lt:=by rintro w F x cs ⟨_,_,_,_,rfl,h0,h1,h2,h3,h4⟩;exact⟨_,_,_,_,rfl,h0,smb7.lt h1,hz7.lt h2,sh7.lt h3,sh7.lt h4⟩
theorem td7 {w:World}{F:Nat→Prop}{xs:List uob7}{cs:List Value}(h:smb7.rep w F xs cs) :
  ∃(a:Option Addr) (b off c:Nat),cs=[.slice a xs.length c]∧xs.length≤c∧c≤9223372036854775807∧(0<xs.length→a=some ⟨b,off,none⟩)∧(0<xs.length→F b) ∧
   (∀k (h:k<xs.length),w.cell? ⟨b,off+k*2,none⟩=some (.int .i64 xs[k].room)∧w.cell? ⟨b,off+k*2+1,none⟩=some (.int .i64 xs[k].hold))∧∀x∈xs,za7 x.room∧za7 x.hold:=by
 obtain⟨a,b,off,c,rfl,h1,h2,h3,h4⟩:=h
 refine⟨a,b,off,c,rfl,h1,h2,fun h=>(h3 h).1,fun h=>(h3 h).2,fun k hk=>?_,fun x hx=>?_⟩
 ·obtain⟨es,⟨rfl,_⟩,hc⟩:=h4 k hk
  have e0:=hc 0 (by decide)
  have e1:=hc 1 (by decide)
  exact⟨by simpa[clc7,xc7]using e0,by simpa[clc7,xc7]using e1⟩
 ·obtain⟨k,hk,rfl⟩:=List.getElem_of_mem hx
  obtain⟨es,he,_⟩:=h4 k hk
  exact he.2
theorem sd7 {w:World}{F:Nat→Prop}{xs:List ea7}{cs:List Value}(h:(ia7 oe7).rep w F xs cs) :
  ∃(a:Option Addr) (b off c:Nat),cs=[.slice a xs.length c]∧xs.length≤c∧c≤9223372036854775807∧(0<xs.length→a=some ⟨b,off,none⟩)∧(0<xs.length→F b) ∧
   (∀k (h:k<xs.length),w.cell? ⟨b,off+k*2,none⟩=some (.int .i64 xs[k].sat)∧w.cell? ⟨b,off+k*2+1,none⟩=some (.int .i64 xs[k].load))∧∀x∈xs,za7 x.sat∧za7 x.load:=by
 obtain⟨a,b,off,c,rfl,h1,h2,h3,h4⟩:=h
 refine⟨a,b,off,c,rfl,h1,h2,fun h=>(h3 h).1,fun h=>(h3 h).2,fun k hk=>?_,fun x hx=>?_⟩
 ·obtain⟨es,⟨rfl,_⟩,hc⟩:=h4 k hk
  have e0:=hc 0 (by decide)
  have e1:=hc 1 (by decide)
  exact⟨by simpa[oe7,xc7]using e0,by simpa[oe7,xc7]using e1⟩
 ·obtain⟨k,hk,rfl⟩:=List.getElem_of_mem hx
  obtain⟨es,he,_⟩:=h4 k hk
  exact he.2
theorem zc7 {w:World}{F:Nat→Prop}{xs:List ga7}{cs:List Value}(h:oo7.rep w F xs cs) :
  ∃(a:Option Addr) (b off c:Nat),cs=[.slice a xs.length c]∧xs.length≤c∧c≤9223372036854775807∧(0<xs.length→a=some ⟨b,off,none⟩)∧(0<xs.length→F b) ∧
   ∀k (h:k<xs.length),∃v,w.cell? ⟨b,off+k*2,none⟩=some (.int .i64 xs[k].sat)∧w.cell? ⟨b,off+k*2+1,none⟩=some v∧za7 xs[k].sat∧(ia7 hf7).rep w F xs[k].stops [v]:=by
 obtain⟨a,b,off,c,rfl,h1,h2,h3,h4⟩:=h
 refine⟨a,b,off,c,rfl,h1,h2,fun h=>(h3 h).1,fun h=>(h3 h).2,fun k hk=>?_⟩
 obtain⟨es,⟨v,rfl,hw,hr⟩,hc⟩:=h4 k hk
 have e0:=hc 0 (by decide)
 have e1:=hc 1 (by decide)
 exact⟨v,by simpa[cq7]using e0,by simpa[cq7]using e1,hw,hr⟩
theorem dh7 {w:World}{F:Nat→Prop}{xs:List ar7}{cs:List Value}(h:hz7.rep w F xs cs) :
  ∃(a:Option Addr) (b off c:Nat),cs=[.slice a xs.length c]∧xs.length≤c∧c≤9223372036854775807∧(0<xs.length→a=some ⟨b,off,none⟩)∧(0<xs.length→F b) ∧
   (∀k (h:k<xs.length),w.cell? ⟨b,off+k*4,none⟩=some (.int .i64 xs[k].load)∧w.cell? ⟨b,off+k*4+1,none⟩=some (.int .i64 xs[k].opn) ∧
    w.cell? ⟨b,off+k*4+2,none⟩=some (.int .i64 xs[k].cls)∧w.cell? ⟨b,off+k*4+3,none⟩=some (.int .i64 xs[k].stay)) ∧
   ∀x∈xs,za7 x.load∧za7 x.opn∧za7 x.cls∧za7 x.stay:=by
 obtain⟨a,b,off,c,rfl,h1,h2,h3,h4⟩:=h
 refine⟨a,b,off,c,rfl,h1,h2,fun h=>(h3 h).1,fun h=>(h3 h).2,fun k hk=>?_,fun x hx=>?_⟩
 ·obtain⟨es,⟨rfl,_⟩,hc⟩:=h4 k hk
  have e0:=hc 0 (by decide)
  have e1:=hc 1 (by decide)
  have e2:=hc 2 (by decide)
  have e3:=hc 3 (by decide)
  exact⟨by simpa[crb7,xc7]using e0,by simpa[crb7,xc7]using e1,by simpa[crb7,xc7]using e2,by simpa[crb7,xc7]using e3⟩
 ·obtain⟨k,hk,rfl⟩:=List.getElem_of_mem hx
  obtain⟨es,he,_⟩:=h4 k hk
  exact he.2
theorem aa7 {w w':World}{a:Addr}{v:Value}(hb:Below w.heap.size w w') (h:w.cell? a=some v):w'.cell? a=some v:=by
 rw[hb.cell (mhb7 h)];exact h
theorem vb7 {P:Program}{t e:TypeId}{sz:Nat}(ht:P.underlying t=some (.slice e)) (hsz:∀w,(sizeOf e).run P w = .ok sz w) {a:Option Addr}{b off n c k:Nat}(ha:a=some ⟨b,off,none⟩) (hk:k<n) :
  ∀w,(Instr.indexAt t (.slice a n c) (.int .i64 (k:Int))).run P w = .ok (.pointer (some ⟨b,off+k*sz,none⟩)) w:=by
 intro w
 subst ha
 have he:P.elem t=e:=by simp[Program.elem,ht]
 have ht':P.underlying t=some (.slice (P.elem t)):=by rw[he];exact ht
 rw[run_indexAt_slice w t _ _ _ _ _ ht',if_pos ⟨by omega,by omega⟩,he,hsz]
 simp only[Result.andThen]
 congr 3
 simp[Addr.add]
theorem ka7 {P:Program}{t e:TypeId}(ht:P.underlying t=some (.slice e)) (hsz:∀w,(sizeOf e).run P w = .ok 1 w) {a:Option Addr}{b off n c k:Nat}(ha:a=some ⟨b,off,none⟩) (hk:k<n) :
  ∀w,(Instr.indexAt t (.slice a n c) (.int .i64 (k:Int))).run P w = .ok (.pointer (some ⟨b,off+k,none⟩)) w:=by
 have h:=vb7 ht hsz (c:=c) ha hk
 simpa only[Nat.mul_one]using h
theorem cgc7 (p q:Bool):p=false∨(p=true∧q=false)∨(p=true∧q=true):=by cases p <;> cases q <;> simp
theorem chc7 (p q r s:Bool):p=false∨(p=true∧q=false)∨(p=true∧q=true∧r=false)∨(p=true∧q=true∧r=true∧s=false)∨(p=true∧q=true∧r=true∧s=true):=by
 cases p <;> cases q <;> cases r <;> cases s <;> simp
theorem qgc7 (p q r s t:Bool):p=false∨(p=true∧q=false)∨(p=true∧q=true∧r=false)∨(p=true∧q=true∧r=true∧s=false)∨(p=true∧q=true∧r=true∧s=true∧t=false) ∨
  (p=true∧q=true∧r=true∧s=true∧t=true):=by
 cases p <;> cases q <;> cases r <;> cases s <;> cases t <;> simp
theorem ca7 {a w w':World}(h:Below a.heap.size a w) (hb:Below w.heap.size w w'):Below a.heap.size a w':=h.trans (hb.mono h.size)
theorem Calls.val {P:Program}{f:FuncId}{args:Array Value}{w:World}{R:World→Prop}{v v':Value}(h:Calls P f args w fun e w'=>e = .returned v∧R w') (hv:v=v') :
  Calls P f args w fun e w'=>e = .returned v'∧R w':=hv ▸ h
theorem Calls.bool {P:Program}{f:FuncId}{args:Array Value}{w:World}{R:World→Prop}{b b':Bool}(h:Calls P f args w fun e w'=>e = .returned (.bool b)∧R w') (hb:b=b') :
  Calls P f args w fun e w'=>e = .returned (.bool b')∧R w':=hb ▸ h
theorem rb7 {a b:Bool}(h:a=b):Ending.returned (.bool a) = .returned (.bool b):=by rw[h]
theorem yb7 {k:IntKind}{a b:Int}(h:a=b):Ending.returned (.int k a) = .returned (.int k b):=by rw[h]
theorem vq7 {α:Type}(p:α→Bool) (l:List α) (k:Nat) (h:k<l.length):(l.take (k+1)).all p=((l.take k).all p&&p l[k]):=by
 rw[List.take_succ_eq_append_getElem h,List.all_append];simp
section
variable {P:Program} {ops:Array Oper} {Q:Exit→Act→World→Prop} {md:Region.Mode} {S:World→Prop}
def kg7 (P:Program) (md:Region.Mode) (ops:Array Oper) (Q:Exit→Act→World→Prop) (S:World→Prop) (fins:List Nat):Nat→Array Bool→Act→World→Prop
 | 0,listed,a,w=>Region.ready md ops listed=[]∧Q .normal a w
 | fuel+1,listed,a,w =>
  (Region.ready md ops listed=[]→Q .normal a w) ∧
  ∀i∈Region.ready md ops listed,wpOp P ops Q i (fun a' w'=>(i∈fins∧wpAny P md ops Q fuel (listed.setIfInBounds i true) a' w')∨(S w'∧kg7 P md ops Q S fins fuel (listed.setIfInBounds i true) a' w')) a w
theorem xk7 {fins:List Nat}:∀(fuel:Nat) (listed:Array Bool) (a:Act) (w:World),kg7 P md ops Q S fins fuel listed a w→wpAny P md ops Q fuel listed a w
 | 0,_,_,_,h=>h
 | fuel+1,_,_,_,h=>⟨h.1,fun i hi=>wpOp_mono (fun a' w' h'=>h'.elim (·.2) fun h=>xk7 fuel _ a' w' h.2) (h.2 i hi)⟩
theorem orF {fins:List Nat}{i fuel:Nat}{l:Array Bool}{a:Act}{w:World}(h:(i∈fins∨S w)∧kg7 P md ops Q S fins fuel l a w):(i∈fins∧wpAny P md ops Q fuel l a w)∨(S w∧kg7 P md ops Q S fins fuel l a w) :=
 h.1.elim (fun h1=>.inl ⟨h1,xk7 _ _ _ _ h.2⟩) fun h1=>.inr ⟨h1,h.2⟩
def Closed (md:Region.Mode) (ops:Array Oper) (listed:Array Bool):Prop :=
 ∀j oj,ops[j]? = some oj→listed.getD j false=true→∀e∈oj.after,Region.binds md e=true→listed.getD e.on false=true
theorem Closed.set {i:Nat}{listed:Array Bool}(h:Closed md ops listed) (hi:i∈Region.ready md ops listed):Closed md ops (listed.setIfInBounds i true):=by
 obtain⟨_,oi,hoi,hall⟩:=mem_ready.1 hi
 intro j oj hj hl e he hb
 by_cases hij:i=j
 ·subst hij
  have:oj=oi:=Option.some.inj (hj.symm.trans hoi)
  subst this
  exact getD_set_true (hall e he hb)
 ·rw[getD_set_ne false hij]at hl
  exact getD_set_true (h j oj hj hl e he hb)
def qeb7 (md:Region.Mode) (ops:Array Oper):Nat→Nat→Nat→Bool
 | 0,_,_=>false
 | f+1,j,i=>Region.waitsFor md ops j i || (List.range ops.size).any fun k=>Region.waitsFor md ops j k&&qeb7 md ops f k i
theorem op7 {listed:Array Bool}(hc:Closed md ops listed):∀(f j i:Nat),qeb7 md ops f j i=true→(∀oj,ops[j]? = some oj→∀e∈oj.after,Region.binds md e=true→listed.getD e.on false=true)→listed.getD i false=true
 | 0,_,_,h,_=>by cases h
 | f+1,j,i,h,hp=>by
  simp only[qeb7,Bool.or_eq_true,List.any_eq_true,Bool.and_eq_true]at h
  rcases h with h | ⟨k,_,h1,h2⟩
  ·obtain⟨oj,hoj,e,he,hb,hon⟩:=Region.waitsFor_spec h
   rw[← hon];exact hp oj hoj e he hb
  ·obtain⟨oj,hoj,e,he,hb,hon⟩:=Region.waitsFor_spec h1
   have hk:listed.getD k false=true:=by rw[← hon];exact hp oj hoj e he hb
   exact op7 hc f k i h2 fun ok hok e he hb=>hc k ok hok hk e he hb
theorem ht7 {fins:List Nat}{i:Nat}{oi:Oper}{v:Value}(hi:ops[i]? = some oi) (hsel:∀(j:Nat) (o:Oper) cs b,ops[j]? = some o→o.op ≠ .select cs b)
  (hQ:∀c a w,Q (.panic c) (a.put oi.dst v) w→Q (.panic c) a w) (hnf:i ∉ fins) (hfin:∀j∈fins,qeb7 md ops ops.size j i=true) :
  ∀(fuel:Nat) (listed:Array Bool) (a:Act) (w:World),Closed md ops listed →
   (∀j oj,ops[j]? = some oj→j≠i→listed.getD j true=false→(∀e∈oj.after,Region.binds md e=true→e.on≠i)→oi.apart ops oj=true) →
   i∈Region.ready md ops listed→YieldsIf P ops S oi v a→S w →
   kg7 P md ops Q S fins fuel (listed.setIfInBounds i true) (a.put oi.dst v) w→kg7 P md ops Q S fins (fuel+1) listed a w:=by
 intro fuel
 induction fuel with
 | zero =>
  intro listed a w _ _ hr hy hS H
  refine⟨fun h=>(by rw[h]at hr;cases hr),fun j hj=>?_⟩
  by_cases hji:j=i
  ·subst hji;exact hy.wpOp hi hS (.inr ⟨hS,H⟩)
  ·have:=ready_mono hj hji
   rw[H.1]at this
   cases this
 | succ fuel ih =>
  intro listed a w hcl hfree hr hy hS H
  refine⟨fun h=>(by rw[h]at hr;cases hr),fun j hj=>?_⟩
  by_cases hji:j=i
  ·subst hji;exact hy.wpOp hi hS (.inr ⟨hS,H⟩)
  ·have h1:=H.2 j (ready_mono hj hji)
   obtain⟨hjun,oj,hoj,hall⟩:=mem_ready.1 hj
   have hnot:∀e∈oj.after,Region.binds md e=true→e.on≠i:=fun e he hb heq=>by
    have h1:=hall e he hb
    have h0:=(mem_ready.1 hr).1
    rw[heq]at h1
    rcases Nat.lt_or_ge i listed.size with h' | h'
    ·simp[h']at h0 h1;rw[h0]at h1;cases h1
    ·simp[Array.getElem?_eq_none h']at h1
   have hjf:j ∉ fins:=fun hf=>by
    have h1:=op7 hcl _ _ _ (hfin j hf) (fun oj' hoj'=>by
     have:oj'=oj:=Option.some.inj (hoj'.symm.trans hoj)
     subst this
     exact hall)
    rw[getD_both (mem_ready.1 hr).1]at h1
    cases h1
   have h2:=wpOp_putIf hoj (hfree j oj hoj hji hjun hnot) (fun cs b=>hsel i oi cs b hi) (fun cs b=>hsel j oj cs b hoj) hQ hy h1
   have hfree':∀k ok,ops[k]? = some ok→k≠i→(listed.setIfInBounds j true).getD k true=false →
     (∀e∈ok.after,Region.binds md e=true→e.on≠i)→oi.apart ops ok=true:=fun k ok hk hki hun hno=>by
    refine hfree k ok hk hki ?_ hno
    by_cases hjk:j=k
    ·subst hjk;exact hjun
    ·rw[getD_set_ne true hjk]at hun;exact hun
   refine wpOp_mono (fun a' w' h3=>?_) h2
   have h4:=h3.2.resolve_left fun h=>hjf h.1
   refine .inr ⟨h4.1,ih (listed.setIfInBounds j true) a' w' (hcl.set hj) hfree' (ready_mono hr (Ne.symm hji)) h3.1 h4.1 ?_⟩
   rw[Array.setIfInBounds_comm _ _ hji]
   exact h4.2
def sjc7:Op→Bool
 | .move _ | .assign _ | .pick .. | .build .. | .load .. | .binOp .. | .unOp .. | .convert .. | .slice .. | .fieldAddr .. | .field .. | .indexAddr .. | .index .. | .extract .. | .typeAssert .. | .nilCheck _=>true
 | .call { callee:=.builtin .len,.. }=>true
 | .call { callee:=.builtin .max,.. }=>true
 | .call { callee:=.builtin .min,.. }=>true
 | _=>false
theorem nab7 {x:Sem Value}{w w':World}{r:Next}(h:((do pure (Next.value (← x))):Sem Next).run P w = .ok r w'):∃v,r = .value v:=by
 rw[Sem.run_bind]at h
 cases hx:x.run P w with
 | ok v w1=>rw[hx]at h;simp only[Result.andThen]at h;exact⟨v,(Result.ok.inj h).1.symm⟩
 | halt k w1=>rw[hx]at h;simp[Result.andThen]at h
theorem tm7 {α:Type}{x:Sem α}{f:α→Sem Next}(hf:∀a w w' r,(f a).run P w = .ok r w'→∃v,r=Next.value v) {w w':World}{r:Next}(h:(x >>= f).run P w = .ok r w'):∃v,r = .value v:=by
 rw[Sem.run_bind]at h
 cases hx:x.run P w with
 | ok v w1=>rw[hx]at h;exact hf v w1 w' r h
 | halt k w1=>rw[hx]at h;simp[Result.andThen]at h
theorem itb7 {ρ:Operand→Value}{o:Oper}(h:sjc7 o.op=true) {w w':World}{r:Next}(hr:(execOp ρ o).run P w = .ok r w'):∃v,r = .value v:=by
 obtain⟨dst,op,type,pos,after,guard⟩:=o
 cases op <;> simp only[sjc7,Bool.false_eq_true]at h
 case move=>exact⟨_,(Result.ok.inj hr).1.symm⟩
 case assign=>exact⟨_,(Result.ok.inj hr).1.symm⟩
 case pick c x y =>
  rw[show execOp ρ ⟨dst,.pick c x y,type,pos,after,guard⟩=(do pure (.value (if ← asBool (ρ c) then ρ x else ρ y))) from rfl,Sem.run_bind]at hr
  cases hx:(asBool (ρ c)).run P w with
  | ok v w1=>rw[hx]at hr;simp only[Result.andThen]at hr;exact⟨_,(Result.ok.inj hr).1.symm⟩
  | halt k w1=>rw[hx]at hr;simp[Result.andThen]at hr
 case call c =>
  obtain⟨callee,args,ats⟩:=c
  cases callee with
  | value f=>exact Bool.noConfusion h
  | invoke r m=>exact Bool.noConfusion h
  | builtin b =>
   cases b
   case len=>exact nab7 (x:=Builtin.len_ ats type (args.map ρ)) hr
   case max=>exact nab7 (x:=Builtin.max_ ats type (args.map ρ)) hr
   case min=>exact nab7 (x:=Builtin.min_ ats type (args.map ρ)) hr
   all_goals exact Bool.noConfusion h
 case nilCheck x =>
  rw[show execOp ρ ⟨dst,.nilCheck x,type,pos,after,guard⟩=_ from rfl]at hr
  unfold execOp at hr
  simp only[]at hr
  split at hr
  ·simp[runtimePanic]at hr
  ·simp[runtimePanic]at hr
  ·simp[runtimePanic]at hr
  ·split at hr
   ·simp[runtimePanic]at hr
   ·refine tm7 (fun a w w' r h=>tm7 (fun b w w' r h=>?_) h) hr
    split at h
    ·refine tm7 (fun a2 w2 w3 r2 h2=>?_) h
     exact⟨_,(Result.ok.inj h2).1.symm⟩
    ·exact⟨_,(Result.ok.inj h).1.symm⟩
   ·exact⟨_,(Result.ok.inj hr).1.symm⟩
  ·exact⟨_,(Result.ok.inj hr).1.symm⟩
 all_goals exact nab7 hr
structure At (S:World→Prop) where
 val:World
 ok:S val
def me7 (P:Program) (ops:Array Oper) (S:World→Prop) (Q:Exit→Act→World→Prop):List (List Oper×Oper×Bool)→Act→World→Prop
 | [],a,w=>Q .normal a w
 | (lq,o,true)::rest,a,w=>wpQuiet P ops (fun w'=>∃e:At S,w'=e.val) (fun a'=>wpList P ops (Exit.then (fun a'' w''=>me7 P ops S Q rest a'' w'') Q) [o] a' w) lq a
 | (lq,o,false)::rest,a,w=>wpQuiet P ops (fun w'=>∃e:At S,w'=e.val) (fun a'=>wpList P ops (Exit.then (fun a'' w''=>S w''∧me7 P ops S Q rest a'' w'') Q) [o] a' w) lq a
def gd7 (ops:Array Oper):List (List Nat×Nat×Bool)→List (List Oper×Oper×Bool):=fun l=>l.map fun (lq,i,f)=>(lq.map fun j=>ops.getD j default,ops.getD i default,f)
def eq7 (md:Region.Mode) (ops:Array Oper) (fins:List Nat):List Nat→Array Bool→Option (Array Bool)
 | [],listed=>some listed
 | i::rest,listed =>
  if (Region.ready md ops listed).contains i&&Region.free md ops listed i&&decide (i ∉ fins)&&fins.all (fun j=>qeb7 md ops ops.size j i)&&sjc7 (ops.getD i default).op&&decide (i<ops.size) then eq7 md ops fins rest (listed.setIfInBounds i true) else none
def lnb7 (md:Region.Mode) (ops:Array Oper) (fins:List Nat):List (List Nat×Nat×Bool)→Array Bool→Bool
 | [],listed=>(Region.ready md ops listed).isEmpty
 | (lq,i,f)::rest,listed =>
  match eq7 md ops fins lq listed with
  | none=>false
  | some listed'=>decide (Region.ready md ops listed'=[i])&&(f==fins.contains i)&&(!f || lq.isEmpty&&rest.all (fun x=>x.2.2&&x.1.isEmpty))&&decide (i<ops.size)&&lnb7 md ops fins rest (listed'.setIfInBounds i true)
def ue7:List (List Nat×Nat×Bool)→Nat
 | []=>0
 | (lq,_,_)::rest=>lq.length+1+ue7 rest
theorem reb7 {o:Oper}{a:Act}{K:Act→Prop}(hv:sjc7 o.op=true) (h:o.quiet P a (fun w'=>∃e:At S,w'=e.val) K) (hw:Region.wanted o (yielded ops a.tmps)=true) :
  ∃v,YieldsIf P ops S o v a∧K (a.put o.dst v):=by
 obtain⟨v,h1,h2⟩:=h
 refine⟨v,.inl ⟨hw,fun w' hS'=>?_⟩,h2⟩
 have h3:=h1 w' ⟨⟨w',hS'⟩,rfl⟩
 unfold Oper.quietAt at h3
 cases hr:(execOp a.eval o).run P w' with
 | halt k w1=>rw[hr]at h3;simp only[Oper.quietUpon]at h3
 | ok r w1 =>
  obtain⟨u,rfl⟩:=itb7 hv hr
  rw[hr]at h3
  simp only[Oper.quietUpon]at h3
  rw[h3.1,h3.2]
theorem at7 {i:Nat}{o:Oper}{K:Act→World→Prop}{a:Act}{w:World}(ho:ops[i]? = some o) (h:wpList P ops (Exit.then K Q) [o] a w):wpOp P ops Q i K a w:=by
 unfold wpOp
 simp only[ho]
 unfold wpList at h
 split
 ·rename_i hw
  simp only[hw,if_true]at h
  rcases h with h | h
  ·refine .inl ?_
   unfold Oper.wp at *
   generalize (execOp a.eval o).run P w=r at *
   cases r with
   | ok n w' =>
    cases n
    case enter f args=>exact Calls.mono h fun e w'' he=>by cases e <;> exact he
    case row row args=>exact Rows.mono h fun _ _ he=>he
    all_goals exact h
   | halt x w'=>cases x <;> exact h
  ·exact .inr h
 ·rename_i hw
  simp only[hw]at h
  exact h
theorem km7 {fins:List Nat}(hs:Region.noSelect ops=true) (hQ:∀c a d v w,Q (.panic c) (Act.put a d v) w→Q (.panic c) a w) {K:Act→Prop}{w:World}(hS:S w) {fuel:Nat} :
  ∀(lq:List Nat) (listed listed':Array Bool) (a:Act),Closed md ops listed→eq7 md ops fins lq listed=some listed'→wpQuiet P ops (fun w'=>∃e:At S,w'=e.val) K (lq.map fun j=>ops.getD j default) a →
   (∀a',Closed md ops listed'→K a'→kg7 P md ops Q S fins fuel listed' a' w)→kg7 P md ops Q S fins (lq.length+fuel) listed a w
 | [],listed,listed',a,hcl,hB,h,hK=>by
  simp only[eq7,Option.some.injEq]at hB
  subst hB
  rw[List.length_nil,Nat.zero_add]
  exact hK a hcl h
 | i::lq,listed,listed',a,hcl,hB,h,hK=>by
  simp only[eq7]at hB
  split at hB
  case isFalse=>cases hB
  rename_i hc
  simp only[Bool.and_eq_true,decide_eq_true_eq,List.all_eq_true]at hc
  obtain⟨⟨⟨⟨⟨h1,h2⟩,h3⟩,h4⟩,h5⟩,h6⟩:=hc
  have ho:ops[i]? = some (ops.getD i default):=by simp[Array.getD,h6]
  rw[show (i::lq).length+fuel=(lq.length+fuel)+1 by simp;omega]
  by_cases hw:Region.wanted (ops.getD i default) (yielded ops a.tmps)=true
  ·have h7:(ops.getD i default).quiet P a (fun w'=>∃e:At S,w'=e.val) (wpQuiet P ops (fun w'=>∃e:At S,w'=e.val) K (lq.map fun j=>ops.getD j default)):=by
    simp only[List.map_cons,wpQuiet,hw,if_true]at h
    exact h
   obtain⟨v,hy,hn⟩:=reb7 (ops:=ops) h5 h7 hw
   exact ht7 ho (Region.noSelect_spec hs) (fun c a w=>hQ c a _ _ w) h3 h4 _ listed a w hcl (Region.free_spec ho h2) (by simpa using h1) hy hS
    (km7 hs hQ hS lq _ _ _ (hcl.set (by simpa using h1)) hB hn hK)
  ·have h7:wpQuiet P ops (fun w'=>∃e:At S,w'=e.val) K (lq.map fun j=>ops.getD j default) (a.put (ops.getD i default).dst undef):=by
    simp only[List.map_cons,wpQuiet,hw]at h
    exact h
   exact ht7 ho (Region.noSelect_spec hs) (fun c a w=>hQ c a _ _ w) h3 h4 _ listed a w hcl (Region.free_spec ho h2) (by simpa using h1) (.inr ⟨by simpa using hw,rfl⟩) hS
    (km7 hs hQ hS lq _ _ _ (hcl.set (by simpa using h1)) hB h7 hK)
theorem fjb7 {fins:List Nat}(hs:Region.noSelect ops=true) (hQ:∀c a d v w,Q (.panic c) (Act.put a d v) w→Q (.panic c) a w) :
  ∀(l:List (List Nat×Nat×Bool)) (listed:Array Bool) (a:Act) (w:World),Closed md ops listed→lnb7 md ops fins l listed=true→(S w∨l.all (fun x=>x.2.2&&x.1.isEmpty)=true) →
   me7 P ops S Q (gd7 ops l) a w→kg7 P md ops Q S fins (ue7 l) listed a w
 | [],listed,a,w,_,hB,_,h=>⟨by simpa[lnb7]using hB,h⟩
 | (lq,i,f)::rest,listed,a,w,hcl,hB,hS,h=>by
  simp only[lnb7]at hB
  split at hB
  case h_1=>cases hB
  rename_i listed' hq
  simp only[Bool.and_eq_true,decide_eq_true_eq,beq_iff_eq]at hB
  obtain⟨⟨⟨⟨h1,h2⟩,h3⟩,h4⟩,h5⟩:=hB
  have ho:ops[i]? = some (ops.getD i default):=by simp[Array.getD,h4]
  have step:∀(K:Act→World→Prop) (a':Act) (w1:World),wpList P ops (Exit.then K Q) [ops.getD i default] a' w1→(∀a'' w'',K a'' w''→(i∈fins∨S w'')∧kg7 P md ops Q S fins (ue7 rest) (listed'.setIfInBounds i true) a'' w'') →
    kg7 P md ops Q S fins (ue7 rest+1) listed' a' w1:=fun K a' w1 hl hK=>by
   refine⟨fun h0=>(by rw[h1]at h0;cases h0),fun j hj=>?_⟩
   rw[h1,List.mem_singleton]at hj
   subst hj
   exact wpOp_mono (fun a'' w'' hk=>orF (hK a'' w'' hk)) (at7 ho hl)
  have hfu:ue7 ((lq,i,f)::rest)=lq.length+(ue7 rest+1):=by simp only[ue7];omega
  rw[hfu]
  cases f with
  | false =>
   have hS1:S w:=by
    rcases hS with hS | hS
    ·exact hS
    ·simp at hS
   simp only[gd7,List.map_cons,me7]at h
   exact km7 hs hQ hS1 lq listed listed' a hcl hq h fun a' hcl' hl=>step _ a' w hl fun a'' w'' ⟨hs2,hm⟩=>⟨.inr hs2,fjb7 hs hQ rest _ a'' w'' (hcl'.set (by rw[h1];exact List.mem_singleton.2 rfl)) h5 (.inl hs2) hm⟩
  | true =>
   have hif:i∈fins:=by simpa using h2.symm
   simp only[Bool.not_true,Bool.false_or,Bool.and_eq_true,List.isEmpty_iff]at h3
   obtain⟨rfl,hr⟩:=h3
   simp only[eq7,Option.some.injEq]at hq
   subst hq
   simp only[gd7,List.map_cons,List.map_nil,me7,wpQuiet]at h
   rw[List.length_nil,Nat.zero_add]
   exact step _ a w h fun a'' w'' hm=>⟨.inl hif,fjb7 hs hQ rest _ a'' w'' (hcl.set (by rw[h1];exact List.mem_singleton.2 rfl)) h5 (.inr hr) hm⟩
theorem ma7 {id:Nat}{a:Act}{w:World}(S:World→Prop) (fins:List Nat) (l:List (List Nat×Nat×Bool)) (hm:P.follows .mixedOrders=true)
  (hB:(Region.noSelect ops&&lnb7 .any ops fins l (Array.replicate ops.size false)&&decide (ue7 l=ops.size))=true) (hQ:∀c a d v w,Q (.panic c) (Act.put a d v) w→Q (.panic c) a w) (hS:S w.drew)
  (h:me7 P ops S Q (gd7 ops l) a w.drew):(Code.region id ops true).wp P Q a w:=by
 simp only[Bool.and_eq_true,decide_eq_true_eq]at hB
 refine wp_region_any hm (xk7 (S:=S) (fins:=fins) _ _ _ _ ?_)
 rw[← hB.2]
 exact fjb7 hB.1.1 hQ l _ a _ (fun j oj _ hl=>by rw[getD_replicate_false]at hl;cases hl) (by rw[hB.2];exact hB.1.2) (.inl hS) h
end
def Old (W:World) (w':World):Prop:=Below W.heap.size W w'
instance (W:World):Nonempty (At (Old W)):=⟨⟨W,Below.refl _ _⟩⟩
theorem At.cell {W:World}(x:At (Old W)) {a:Addr}{v:Value}(h:W.cell? a=some v):x.val.cell? a=some v:=aa7 x.ok h
theorem Old.cell' {W w:World}(x:Old W w) {a:Addr}{v:Value}(h:W.cell? a=some v):w.cell? a=some v:=aa7 x h
theorem Old.drew (W:World):Old W W.drew:=Below.drew (Below.refl _ _)
theorem Old.step {W w w':World}(h:Old W w) (hb:Below w.heap.size w w'):Old W w':=ca7 h hb
end Go.Proofs.YtabadfkikdefeaaGreat
