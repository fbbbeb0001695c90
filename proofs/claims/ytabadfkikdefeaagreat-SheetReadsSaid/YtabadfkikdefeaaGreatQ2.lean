/- Texts of the proof, joined: A2, A3, A4. -/
import Derived.Laws.Tables
import Derived.Maps.AppendAt
import Derived.Great.BuildSlice
import Derived.Laws.OwnMore
import Derived.Test.YtabadfkikdefeaaGreatR1
set_option linter.all false
set_option maxRecDepth 100000
set_option maxHeartbeats 6400000
namespace Go.Proofs.YtabadfkikdefeaaGreat.Ab
open Go.RowKit
def mf7 (rho:Nat→Prop) (w:World):AV→Value→Prop
 | .int k n,v=>v = .int k n
 | .bool b,v=>v = .bool b
 | .flt n,v=>v = .float .f64 n
 | .str s,v=>v = .string s
 | .nilp,v=>v = .pointer none
 | .nils,v=>v = .slice none 0 0
 | .sl n sz f,v=>∃a b off c,v = .slice a n c∧n≤c∧c≤maxLen∧(0<n→a=some ⟨b,off,none⟩∧rho b)∧∀i,i<n→∀j,j<sz→∃u,w.cell? ⟨b,off+i*sz+j,none⟩=some u∧mf7 rho w (f i j) u
 | .rp n f,v=>∃b off,v = .pointer (some ⟨b,off,none⟩)∧rho b∧∀j,j<n→∃u,w.cell? ⟨b,off+j,none⟩=some u∧mf7 rho w (f j) u
 | .ptr ..,_=>False
 | .h ..,_=>False
 | .ws ..,_=>False
 | .wu ..,_=>False
 | .wp ..,_=>False
 | .junk,_=>True
structure Mp where
 phi:Nat→Nat
 off:Nat→Nat
 rho:Nat→Prop
 tau:Nat→Option (TypeId×List CK)
def WSl (M:Mp) (w:World) (t:TypeId) (ck:List CK) (n:Nat) (v:Value):Prop :=
 ∃a c,v = .slice a n c∧n≤c∧c≤maxLen∧(a=none→c=0)∧∀ad,a=some ad→∃b cur,ad=⟨b,0,none⟩∧M.tau b=some (t,ck)∧w.heap[b]? = some (.cells cur t (0,0))∧c*ck.length=cur.size
def WPt (M:Mp) (w:World) (t:TypeId) (ck:List CK) (o:Nat) (v:Value):Prop :=
 ∃b cur i,v = .pointer (some ⟨b,i*ck.length+o,none⟩)∧M.tau b=some (t,ck)∧w.heap[b]? = some (.cells cur t (0,0))∧(i+1)*ck.length≤cur.size
def kcb7 (M:Mp) (w:World):CK→Value→Prop
 | .i k,v=>∃n,v = .int k n∧inK k n
 | .s t ck b,v=>∃n,n≤b∧WSl M w t ck n v
structure cob7 (E0:Nat) (M:Mp) (H:List Root) (w:World):Prop where
 new:∀b q,M.tau b=some q→E0≤b∧¬M.rho b
 row:∀b q id fz ty sz r,M.tau b=some q→da7 H id = .live fz ty sz r→M.phi id≠b
 cells:∀b t ck,M.tau b=some (t,ck)→∃cur,w.heap[b]? = some (.cells cur t (0,0))∧0<ck.length∧(∃n,n*ck.length=cur.size)∧∀k,k<cur.size→∃v,cur[k]? = some v∧∀q,ck[k % ck.length]? = some q→kcb7 M w q v
def Con (M:Mp) (H:List Root) (w:World):AV→Value→Prop
 | .ptr id n i o,v=>(id<H.length∧v.oneCell'=true)∧∀fz ty sz r,da7 H id = .live fz ty sz r→n≤r.len∧(r.len=n→v = .pointer (some ⟨M.phi id,M.off id+i*sz+o,none⟩))
 | .h id st len,v=>(id<H.length∧v.oneCell'=true)∧∀fz ty sz r,da7 H id = .live fz ty sz r→st+len≤r.len∧(st+len=r.len→∃cap cur ad,v = .slice (some ad) len cap∧len≤cap∧cap≤maxLen∧w.heap[M.phi id]? = some (.cells cur ty (0,0))∧M.off id+(st+cap)*sz=cur.size∧(0<cap→ad=⟨M.phi id,M.off id+st*sz,none⟩))
 | .int k n,v=>mf7 M.rho w (.int k n) v
 | .bool b,v=>mf7 M.rho w (.bool b) v
 | .flt n,v=>mf7 M.rho w (.flt n) v
 | .str s,v=>mf7 M.rho w (.str s) v
 | .nilp,v=>mf7 M.rho w .nilp v
 | .nils,v=>mf7 M.rho w .nils v
 | .sl n sz f,v=>mf7 M.rho w (.sl n sz f) v
 | .rp n f,v=>mf7 M.rho w (.rp n f) v
 | .ws t ck n,v=>WSl M w t ck n v
 | .wu t ck b,v=>∃n,n≤b∧WSl M w t ck n v
 | .wp t ck o,v=>WPt M w t ck o v
 | .junk,_=>True
def of7 (M:Mp) (H:List Root) (w:World):List AV→List Value→Prop
 | [],vs=>vs=[]
 | a::l,vs=>∃v r,vs=v::r∧Con M H w a v∧of7 M H w l r
mutual
def ic7 (M:Mp) (H:List Root) (w:World):RV→Value→Prop
 | .c a,v=>Con M H w a v
 | .agg l,v=>∃vs:List Value,v = .agg vs.toArray∧of7 M H w l vs
 | .fn f caps,v=>∃vs:List Value,v = .func (.func f) #[] vs.toArray∧of7 M H w caps vs
 | .tup l,v=>∃vs:List Value,v = .tuple vs.toArray∧ud7 M H w l vs
 | .ifc t x,v=>∃u,v = .iface t u∧ic7 M H w x u
def ud7 (M:Mp) (H:List Root) (w:World):List RV→List Value→Prop
 | [],vs=>vs=[]
 | a::l,vs=>∃v r,vs=v::r∧ic7 M H w a v∧ud7 M H w l r
end
def zk7 (M:Mp) (H:List Root) (w:World) (bx:Bool) (a:AV) (v:Value):Prop:=if bx then Con M H w a v else mf7 M.rho w a v
def frb7 (M:Mp) (H:List Root) (w:World) (b off:Nat) (ty:TypeId) (sz:Nat) (r:Row):Prop :=
 ∃cur,w.heap[b]? = some (.cells cur ty (0,0))∧0<sz∧off+r.len*sz≤cur.size∧(∃cap,off+cap*sz=cur.size)∧(r.one=true→off=0∧cur.size=sz)∧∀i,i<r.len→∀o,o<sz→∃v,cur[off+i*sz+o]? = some v∧v.oneCell'=true∧zk7 M H w r.isBox (r.get i o) v
structure Env where
 W0:World
 rho0:Nat→Prop
 df:List Deferred
 ex:Nat→Prop
 exk:(∀b,¬ex b)∨∀w,qq7 w
def Env.of (w:World) (rho:Nat→Prop):Env:=⟨w,rho,[],fun _=>False,.inl fun _ h=>h⟩
def Env.own (E:Env) (b:Nat):Prop:=E.W0.heap.size≤b∨E.ex b
structure Bel (E:Env) (w:World):Prop where
 os:w.os=E.W0.os
 tape:w.tape=E.W0.tape
 output:w.output=E.W0.output
 size:E.W0.heap.size≤w.heap.size
 block:∀k,k<E.W0.heap.size→¬E.ex k→w.heap[k]? = E.W0.heap[k]?
def zu7 (rho:Nat→Prop) (w:World):Prop:=qq7 w∧∀g x,glV g=some x→rho g
theorem zu7.mono {rho rho':Nat→Prop}{w:World}(h:zu7 rho w) (hr:∀b,rho b→rho' b):zu7 rho' w:=⟨h.1,fun g x e=>hr _ (h.2 g x e)⟩
structure Rel (E:Env) (M:Mp) (H:List Root) (w:World):Prop where
 bel:Bel E w
 low:∀id fz ty sz r,da7 H id = .live fz ty sz r→E.own (M.phi id)
 row:∀id fz ty sz r,da7 H id = .live fz ty sz r→frb7 M H w (M.phi id) (M.off id) ty sz r
 froz:∀id ty sz r,da7 H id = .live true ty sz r→M.rho (M.phi id)
 thaw:∀id ty sz r,da7 H id = .live false ty sz r→¬M.rho (M.phi id)
 inj:∀i j t s r t' s' r',da7 H i = .live false t s r→da7 H j = .live false t' s' r'→M.phi i=M.phi j→i=j
 rlt:∀b,M.rho b→b<w.heap.size
 src:(∀b,M.rho b→E.rho0 b∨E.own b)∧zu7 M.rho E.W0
 tau:cob7 E.W0.heap.size M H w
def Kp (M:Mp) (H:List Root) (w:World) (M':Mp) (H':List Root) (w':World):Prop:=∀a v,Con M H w a v→Con M' H' w' a v
section
variable (P:Program)
def Enters (f : FuncId) : Prop := ∃ fn c, P.funcs[f]? = some fn ∧ (fn.name == "runtime.NumGoroutine") = false ∧ fn.body = some c
def bj7 (g:Option Nat) (w w':World):Prop:=w.heap.size≤w'.heap.size∧∀b,b<w.heap.size→some b≠g→w'.heap[b]? = w.heap[b]?
abbrev Pu:=Option (Option Nat)
def isW:Pu→Prop
 | none=>True
 | some _=>False
def wD:Option Nat→RV→Prop
 | some k,.c (.ptr id _ _ _)=>id=k
 | _,_=>False
def wOn:Pu→RV→Prop
 | none,_=>True
 | some g,p=>wD g p
def aD:Option Nat→RV→Prop
 | some k,.c (.h id _ _)=>id=k
 | _,_=>False
def wAp:Pu→Bool→RV→Prop
 | none,_,_=>True
 | some _,true,.c .nils=>True
 | some g,true,p=>aD g p
 | some _,false,_=>False
def nwk (ty:Ty) (t:TypeId):Bool :=
 match (ty t).k with
 | .sl e=>match (ty e).wk with
  | some (_::_)=>false
  | _=>true
 | _=>true
def dtb7 (nf n:Nat) (dd:Option Nat):Pu:=if nf≤n then some dd else none
class Pan where
 px:RV→List Root→Prop
instance noPan:Pan:=⟨fun _ _=>False⟩
def vjc7 [Pan] (x:RV) (H:List Root):Prop :=
 match x with
 | .ifc t y=>Pan.px (.ifc t y) H
 | _=>False
def zx7 [Pan] (E:Env) (M:Mp) (H:List Root) (w:World) (ch:List PanicEntry) (w':World):Prop :=
 ∃M' H' r v,ch=[{ v:=v,recovered:=false }]∧Rel E M' H' w'∧Kp M H w M' H' w'∧H.length≤H'.length∧ic7 M' H' w' r v∧Pan.px r H'
def ne7 [Pan] (pu:Pu) (f:FuncId) (args:List RV) (H:List Root) (K:RV→List Root→Prop):Prop :=
 Enters P f∧∀E M w vs,Rel E M H w→ud7 M H w args vs→Calls P f vs.toArray w fun e w'=>(∃M' H' r v,e = .returned v∧Rel E M' H' w'∧Kp M H w M' H' w'∧ic7 M' H' w' r v∧(∀g,pu=some g→bj7 (g.map M.phi) w w')∧H.length≤H'.length∧K r H')∨∃ch,e = .panicked ch∧zx7 E M H w ch w'
end
section
variable (P:Program)
def qjc7 (t:TypeId) (f:Nat):RV→Option RV
 | .agg l=>match P.underlying t with
  | some (.struct fs)=>match fs[f]? with
   | some fd=>match P.underlying fd.type with
    | some (.struct _)=>none
    | some (.array _ _)=>none
    | some _=>if fd.offset<l.length then some (.c (nth l fd.offset)) else none
    | none=>none
   | none=>none
  | _=>none
 | _=>none
def djc7 (t:TypeId):Bool :=
 match P.underlying t with
 | some (.interface _)=>false
 | some _=>true
 | none=>false
def ojc7 (x:Option RV) (K:RV→Prop):Prop :=
 match x with
 | some r=>K r
 | none=>False
end
section
variable (P:Program) (ty:Ty)
def cjc7 (k:TyK) (H:List Root) (s x:RV) (K:RV→List Root→Prop):Prop :=
 match k with
 | .sl e=>match (ty e).wk with
  | none=>xxb7 ty k H s x K
  | some []=>xxb7 ty k H s x K
  | some (c::cs)=>appW ty e (c::cs) s x (fun r=>K r H)
 | _=>False
def apK (so:Option ByteArray) (ts:List TypeId) (t u:TypeId) (H:List Root) (s x:RV) (K:RV→List Root→Prop):Prop :=
 match so with
 | some b=>(ts=[t,u]∧(ty u).k = .str)∧gfc7 ty (ty t).k H s b K
 | none=>ts=[t,t]∧cjc7 ty (ty t).k H s x K
theorem orb7 {ty:Ty}{ts:List TypeId}{t u:TypeId}{H:List Root}{s x:RV}{K:RV→List Root→Prop}(h:apK ty (strOf x) ts t u H s x K) :
  (∃b,x = .c (.str b)∧(ts=[t,u]∧(ty u).k = .str)∧gfc7 ty (ty t).k H s b K)∨(ts=[t,t]∧cjc7 ty (ty t).k H s x K):=by
 cases x with
 | c a=>cases a with
  | str b=>exact .inl ⟨b,rfl,h⟩
  | _=>exact .inr h
 | _=>exact .inr h
def enc7 (e:TyE) (ck:List CK) (o:Nat) (v:RV) (K:Prop):Prop :=
 ((pc7 v).length=e.sz∧0<e.sz∧kN e.k∧o+e.sz≤ck.length∧ckE ((ck.drop o).take e.sz) (pc7 v))∧K
def mjc7 (e:TyE) (H:List Root) (p v:RV) (K:List Root→Prop):Prop :=
 match p with
 | .c (.wp _ ck o)=>enc7 e ck o v (K H)
 | _=>kub7 e H p v K
def eff [Pan] (pu:Pu) (tm:Tm) (rd:Operand→Bool×RV) (H:List Root) (o:Oper) (K:AS→Prop):Prop :=
 match o.op with
 | .box t x=>((pc7 (rd x).2).length=(ty t).sz∧0<(ty t).sz∧njL (pc7 (rd x).2)=true)∧K ⟨zj7 tm true o.dst (.c (.ptr H.length 1 0 0)),H++[.live false t (ty t).sz (.box (pc7 (rd x).2))]⟩
 | .alloc t=>(0<(ty t).sz∧kN (ty t).k)∧K ⟨zj7 tm true o.dst (.c (.ptr H.length 1 0 0)),H++[.live false t (ty t).sz (.box (ty t).zero)]⟩
 | .store t p v=>wOn pu (rd p).2∧mjc7 (ty t) H (rd p).2 (rd v).2 (fun H=>K ⟨zj7 tm true o.dst (.c .junk),H⟩)
 | .buildSlice t n ps=>match (ty t).k with
  | .sl e=>match (ty e).wk with
   | none=>rjc7 ty e H n (ig7 (fun i=>(i*(ty e).sz,(ty e).sz)) rd (rep (ty e).zero n) ps.toList) (fun r H=>K ⟨zj7 tm true o.dst r,H⟩)
   | some []=>ijc7 ty e H n (ig7 (fun i=>(i*(ty e).sz,(ty e).sz)) rd (rep (ty e).zero n) ps.toList) (fun r H=>K ⟨zj7 tm true o.dst r,H⟩)
   | some (c::cs)=>pjc7 ty e (c::cs) n (ig7 (fun i=>(i*(ty e).sz,(ty e).sz)) rd (rep (ty e).zero n) ps.toList) (fun r=>K ⟨zj7 tm true o.dst r,H⟩)
  | _=>False
 | .makeSlice t n c=>xwb7 ty (ty t).k H (rd n).2 (rd c).2 (fun r H=>K ⟨zj7 tm true o.dst r,H⟩)
 | .call c=>match c.callee with
  | .builtin .append=>match c.args.toList with
   | [s,x]=>wAp pu (nwk ty (c.argTypes.getD 0 0)) (rd s).2∧apK ty (strOf (rd x).2) c.argTypes.toList (c.argTypes.getD 0 0) (c.argTypes.getD 1 0) H (rd s).2 (rd x).2 (fun r H=>K ⟨zj7 tm true o.dst r,H⟩)
   | _=>False
  | .value f=>match (rd f).2 with
   | .fn f caps=>ne7 P pu f (rds rd c.args.toList++caps.map .c) H (fun r H=>K ⟨zj7 tm true o.dst r,H⟩)
   | _=>False
  | _=>False
 | .field t x f=>ojc7 (qjc7 P t f (rd x).2) (fun r=>K ⟨zj7 tm true o.dst r,H⟩)
 | .makeInterface t x=>djc7 P t=true∧K ⟨zj7 tm true o.dst (.ifc t (rd x).2),H⟩
 | .panic x=>vjc7 (rd x).2 H
 | _=>False
def bfc7:List Oper→Nat→Option Oper
 | [],_=>none
 | o::_,0=>some o
 | _::l,n+1=>bfc7 l n
def guardOf (tm:Tm) (ops:Array Oper):Option (Nat×Bool)→Option Bool
 | none=>some true
 | some (j,want)=>match bfc7 ops.toList j with
  | some o=>match o.dst with
   | some d=>match lk tm d with
    | (g,.c (.bool b))=>some (g&&(if want then b else !b))
    | _=>none
   | none=>none
  | none=>none
def qjb7 (H:List Root) (k:Nat):Prop :=
 match da7 H k with
 | .live fz _ _ r=>fz=false∧r.len=1
 | .dead=>False
def stb (dd:Option Nat) (A:Nat→Prop):Prop :=
 match dd with
 | none=>True
 | some k=>A k
def cqb7 (g:Option Bool) (dd:Option Nat) (σ:AS) (o:Oper) (K:AS→Prop):Prop :=
 match g with
 | none=>False
 | some g=>gOk g (wab7 σ.rd o.op)∧stb dd (fun k=>qjb7 σ.H k∧(g=true→(opV ty g σ.rd (ja7 σ.H k .dead) o.op).1))∧(g=true→(opV ty g σ.rd σ.H o.op).1)∧K ⟨zj7 σ.tm g o.dst (opV ty g σ.rd σ.H o.op).2,σ.H⟩
def tac7 (g:Bool) (A B:Prop):Prop:=(g=true→A)∧(g=false→B)
def jjc7 [Pan] (g:Option Bool) (pu:Pu) (σ:AS) (o:Oper) (K:AS→Prop):Prop :=
 match g with
 | none=>False
 | some g=>gOk g (wab7 σ.rd o.op)∧tac7 g (eff P ty pu σ.tm σ.rd σ.H o K) (K ⟨zj7 σ.tm g o.dst (.c .junk),σ.H⟩)
def kbb7 [Pan] (pu:Pu) (dd:Option Nat) (ops:Array Oper) (σ:AS) (o:Oper) (K:AS→Prop):Prop :=
 if isV o.op then cqb7 ty (guardOf σ.tm ops o.guard) dd σ o K
 else stb dd (qjb7 σ.H)∧jjc7 P ty (guardOf σ.tm ops o.guard) pu σ o K
def jx7 [Pan] (nf:Nat) (dd:Option Nat) (ops:Array Oper):List Oper→(AS→Prop)→AS→Prop
 | [],K,σ=>K σ
 | o::l,K,σ=>kbb7 P ty (dtb7 nf l.length dd) dd ops σ o (jx7 nf dd ops l K)
def pick (ops:Array Oper):List Nat→List Oper
 | []=>[]
 | i::l=>ops.getD i default::pick ops l
def fs7 (n:AS→Prop) (Q:Exit→AS→Prop):Exit→AS→Prop
 | .normal,σ=>n σ
 | e,σ=>Q e σ
def inB (id:Nat) (Q:Exit→AS→Prop):Exit→AS→Prop
 | .exit j,σ=>if j=id then Q .normal σ else Q (.exit j) σ
 | e,σ=>Q e σ
def gqb7 (v:Bool×RV) (A B:Prop):Prop :=
 match v with
 | (true,.c (.bool b))=>(b=true→A)∧(b=false→B)
 | _=>False
def asg:Code→List Nat
 | .region _ ops _=>ops.toList.filterMap (·.dst)
 | .seq a b=>asg a++asg b
 | .cond _ a b=>asg a++asg b
 | .block _ a=>asg a
 | .loop a=>asg a
 | .scope a=>asg a
 | .rangeFunc _ _ a b=>asg a++asg b
 | _=>[]
def qtb7 (c:Code) (fx:List Nat):Bool:=fx.all fun t => !(asg c).contains t
def gets (tm:Tm):List Nat→List (Bool×RV)
 | []=>[]
 | t::l=>lk tm t::gets tm l
def zo7:List RV→List (Bool×RV)
 | []=>[]
 | v::l=>(true,v)::zo7 l
def setT:List Nat→List RV→Tm→Tm
 | t::l,v::vs,tm=>(t,true,v)::setT l vs tm
 | _,_,tm=>tm
def fxT (tm:Tm):List Nat→Tm
 | []=>[]
 | t::l=>(t,lk tm t)::fxT tm l
def AV.scp (k:Nat):AV→Bool
 | .ptr id .. => decide (id<k)
 | .h id .. => decide (id<k)
 | _=>true
def snb7 (k:Nat):List AV→Bool
 | []=>true
 | a::l=>a.scp k&&snb7 k l
mutual
def khc7 (k:Nat):RV→Bool
 | .c a=>a.scp k
 | .agg l=>snb7 k l
 | .fn _ l=>snb7 k l
 | .tup l=>yz7 k l
 | .ifc _ x=>khc7 k x
def yz7 (k:Nat):List RV→Bool
 | []=>true
 | a::l=>khc7 k a&&yz7 k l
end
def mib7 (k:Nat):List (List AV)→Bool
 | []=>true
 | l::m=>snb7 k l&&mib7 k m
def igb7 (k:Nat):List Root→Bool
 | []=>true
 | .live _ _ _ (.box l)::H=>snb7 k l&&igb7 k H
 | .live _ _ _ (.own l)::H=>mib7 k l&&igb7 k H
 | _::H=>igb7 k H
def pos:List Nat→Nat→Nat→Option Nat
 | [],_,_=>none
 | a::l,id,k=>if a=id then some k else pos l id (k+1)
def rnb7 (n:Nat) (ids:List Nat) (id:Nat):Option Nat:=if id<n then some id else pos ids id n
def rsb7 (m i o:Nat):Option Nat→AV
 | some j=>.ptr j m i o
 | none=>.junk
def mkH (st len:Nat):Option Nat→AV
 | some j=>.h j st len
 | none=>.junk
def by7 (n:Nat) (ids:List Nat):AV→AV
 | .ptr id m i o=>rsb7 m i o (rnb7 n ids id)
 | .h id st len=>mkH st len (rnb7 n ids id)
 | x=>x
def pkb7 (n:Nat) (ids:List Nat):List AV→List AV
 | []=>[]
 | x::l=>by7 n ids x::pkb7 n ids l
mutual
def ybc7 (n:Nat) (ids:List Nat):RV→RV
 | .c a=>.c (by7 n ids a)
 | .agg l=>.agg (pkb7 n ids l)
 | .fn f l=>.fn f (pkb7 n ids l)
 | .tup l=>.tup (qvb7 n ids l)
 | .ifc t x=>.ifc t (ybc7 n ids x)
def qvb7 (n:Nat) (ids:List Nat):List RV→List RV
 | []=>[]
 | x::l=>ybc7 n ids x::qvb7 n ids l
end
def cbb7 (n:Nat) (ids:List Nat):List (List AV)→List (List AV)
 | []=>[]
 | l::m=>pkb7 n ids l::cbb7 n ids m
def cx7 (n:Nat) (ids:List Nat):Row→Row
 | .box l=>.box (pkb7 n ids l)
 | .own l=>.own (cbb7 n ids l)
 | r=>r
def vg7 (n:Nat) (ids:List Nat):Root→Root
 | .live fz t sz r=>.live fz t sz (cx7 n ids r)
 | .dead=>.dead
def tib7 (n:Nat) (ids:List Nat):List Root→List Root
 | []=>[]
 | r::l=>vg7 n ids r::tib7 n ids l
def rt7 (n:Nat) (ids:List Nat) (H:List Root):List Nat→List Root
 | []=>[]
 | i::l=>vg7 n ids (da7 H i)::rt7 n ids H l
def yhb7 (n:Nat) (ids:List Nat) (H:List Root):List Root:=tib7 n ids (H.take n)++rt7 n ids H ids
def wvb7 (n:Nat) (ids:List Nat):Tm→Tm
 | []=>[]
 | (k,g,v)::l=>(k,g,ybc7 n ids v)::wvb7 n ids l
def renG (n:Nat) (ids:List Nat):List (Bool×RV)→List (Bool×RV)
 | []=>[]
 | (g,v)::l=>(g,ybc7 n ids v)::renG n ids l
def okI (n:Nat):List Nat→Bool
 | []=>true
 | i::l=>decide (n≤i) && !l.contains i&&okI n l
def zic7 (body:(Exit→AS→Prop)→AS→Prop) (c:Code) (Q:Exit→AS→Prop) (σ:AS):Prop :=
 ∃(ι:Type) (fx vy:List Nat) (inv:ι→Prop) (vals:ι→List RV) (H:ι→List Root) (μ:ι→Nat),
  qtb7 c fx=true∧(∃s,inv s∧gets σ.tm vy=zo7 (vals s)∧σ.H=H s)∧(∀s,inv s→(H s).length=σ.H.length∧yz7 σ.H.length (vals s)=true∧igb7 σ.H.length (H s)=true∧(vals s).length=vy.length) ∧
  ∀s,inv s→body (fs7 (fun σ'=>∃s',inv s'∧gets σ'.tm vy=zo7 (vals s')∧σ'.H.take σ.H.length=H s'∧μ s'<μ s) Q) ⟨setT vy (vals s) (fxT σ.tm fx),H s⟩
def uzb7 (body:(Exit→AS→Prop)→AS→Prop) (c:Code) (Q:Exit→AS→Prop) (σ:AS):Prop :=
 ∃(ι:Type) (d:Nat) (fx vy:List Nat) (inv:ι→Prop) (vals:ι→List RV) (H:ι→List Root) (μ:ι→Nat),
  qtb7 c fx=true∧(∃s,inv s∧gets σ.tm vy=zo7 (vals s)∧σ.H++List.replicate d .dead=H s)∧(∀s,inv s→(H s).length=σ.H.length+d) ∧
  ∀s,inv s→body (fs7 (fun σ'=>∃s' ids,inv s'∧(ids.length=d∧okI σ.H.length ids=true)∧renG σ.H.length ids (gets σ'.tm vy)=zo7 (vals s')∧yhb7 σ.H.length ids σ'.H=H s'∧μ s'<μ s) Q) ⟨setT vy (vals s) (fxT σ.tm fx),H s⟩
def bhb7 [Pan] (ops:Array Oper) (q:List Nat×Nat×Option Nat) (K:AS→Prop) (σ:AS):Prop :=
 match q with
 | ([],nf,dd)=>jx7 P ty nf dd ops ops.toList K σ
 | (l,nf,dd)=>jx7 P ty nf dd ops (pick ops l) K σ
inductive Tw where
 | d
 | no
 | br (w i:Nat) (t r:Tw)
inductive DD where
 | r (k:Nat)
 | t (ks:List Nat) (T:Tw) (r fins:List Nat)
def ngc7:Root→Nat
 | .live _ _ _ r=>r.len
 | .dead=>0
def pec7:Root→Prop
 | .live fz _ _ r=>fz=false∧0<r.len
 | .dead=>True
def tic7 (n:Nat):Root→Prop
 | .live _ _ _ r=>r.len=n∧0<r.len
 | .dead=>True
def gR (k:Nat):Root→Option Nat
 | .live .. => some k
 | .dead=>none
def puW (w:Nat) (H:List Root):Pu :=
 match w with
 | 0=>some none
 | 1=>none
 | k+2=>some (gR k (da7 H k))
def dpc7 (w:Nat) (H0 H:List Root):Prop :=
 match w with
 | k+2=>tic7 (ngc7 (da7 H0 k)) (da7 H k)
 | _=>True
def dv7 (H:List Root):List Nat→Prop
 | []=>True
 | k::ks=>pec7 (da7 H k)∧dv7 H ks
def killL:List Nat→List Root→List Root
 | [],H=>H
 | k::ks,H=>killL ks (ja7 H k .dead)
def jhb7 (g:Option Bool) (ks:List Nat) (σ:AS) (o:Oper) (K:AS→Prop):Prop :=
 match g with
 | none=>False
 | some g=>gOk g (wab7 σ.rd o.op)∧(g=true→(opV ty g σ.rd (killL ks σ.H) o.op).1)∧(g=true→(opV ty g σ.rd σ.H o.op).1)∧K ⟨zj7 σ.tm g o.dst (opV ty g σ.rd σ.H o.op).2,σ.H⟩
def bcb7 (ops:Array Oper) (ks:List Nat):List Oper→(AS→Prop)→AS→Prop
 | [],K,σ=>K σ
 | o::l,K,σ=>jhb7 ty (guardOf σ.tm ops o.guard) ks σ o (bcb7 ops ks l K)
def sm7 [Pan] (ops:Array Oper) (H0:List Root) (r:List Nat):Tw→(AS→Prop)→AS→Prop
 | .d,K,σ=>jx7 P ty r.length none ops (pick ops r) K σ
 | .no,_,_=>True
 | .br w i t q,K,σ=>(dpc7 w H0 σ.H∧kbb7 P ty (puW w σ.H) none ops σ (ops.getD i default) (sm7 ops H0 r t K))∧sm7 ops H0 r q K σ
def gec7 [Pan] (ops:Array Oper) (q:List Nat×Nat×Option DD) (K:AS→Prop) (σ:AS):Prop :=
 match q with
 | (lq,_,some (.t ks T r _))=>dv7 σ.H ks∧bcb7 ty ops ks (pick ops lq) (sm7 P ty ops σ.H r T K) σ
 | (l,nf,some (.r k))=>bhb7 P ty ops (l,nf,some k) K σ
 | (l,nf,none)=>bhb7 P ty ops (l,nf,none) K σ
def so7 (body:(Exit→AS→Prop)→AS→Prop):List Unit→(Exit→AS→Prop)→AS→Prop
 | [],_,_=>False
 | _::l,Q,σ=>body (fs7 (so7 body l Q) Q) σ
def awp [Pan] (ord:Nat→List Nat×Nat×Option DD):Code→(Exit→AS→Prop)→AS→Prop
 | .skip,Q,σ=>Q .normal σ
 | .region id ops dr,Q,σ=>if dr then gec7 P ty ops (ord id) (Q .normal) σ else jx7 P ty ops.toList.length none ops ops.toList (Q .normal) σ
 | .seq a b,Q,σ=>awp ord a (fs7 (awp ord b Q) Q) σ
 | .cond c a b,Q,σ=>gqb7 (σ.rd c) (awp ord a Q σ) (awp ord b Q σ)
 | .block id a,Q,σ=>awp ord a (inB id Q) σ
 | .exit id,Q,σ=>Q (.exit id) σ
 | .ret,Q,σ=>Q .ret σ
 | .loop c,Q,σ=>zic7 (awp ord c) c Q σ∨uzb7 (awp ord c) c Q σ∨∃l:List Unit,so7 (awp ord c) l Q σ
 | _,_,_=>False
def qib7 (ops:Array Oper) (nf:Nat):List Nat→List (List Nat×Nat×Bool)
 | []=>[]
 | i::l=>match isV (ops.getD i default).op&&decide (nf≤l.length),qib7 ops nf l with
  | true,(q,j,false)::r=>(i::q,j,false)::r
  | _,r=>([],i,decide (l.length<nf))::r
end
section heap
theorem ki7 (H:List Root) (x:Root) (id:Nat):da7 (H++[x]) id=if id=H.length then x else da7 H id:=by
 induction H generalizing id with
 | nil=>cases id <;> simp[da7]
 | cons a l ih=>cases id with
  | zero=>simp[da7]
  | succ n=>simp only[List.cons_append,da7,ih,List.length_cons];simp
theorem ao7 {H:List Root}{id:Nat}(h:H.length≤id):da7 H id = .dead:=by
 induction H generalizing id with
 | nil=>rfl
 | cons a l ih=>cases id with
  | zero=>simp at h
  | succ n=>exact ih (by simpa using h)
theorem sf7 {H:List Root}{id:Nat}{fz:Bool}{ty:TypeId}{sz:Nat}{r:Row}(h:da7 H id = .live fz ty sz r):id<H.length:=by
 rcases Nat.lt_or_ge id H.length with h1 | h1
 ·exact h1
 ·rw[ao7 h1]at h;cases h
theorem va7 (H:List Root) (id:Nat) (x:Root):(ja7 H id x).length=H.length:=by
 induction H generalizing id with
 | nil=>rfl
 | cons a l ih=>cases id <;> simp[ja7,ih]
theorem rc7 (H:List Root) (id:Nat) (x:Root) (j:Nat):da7 (ja7 H id x) j=if j=id∧id<H.length then x else da7 H j:=by
 induction H generalizing id j with
 | nil=>simp[ja7,da7]
 | cons a l ih=>cases id <;> cases j <;> simp[ja7,da7,ih]
theorem vl7 (H:List Root) (k id:Nat):da7 (H.take k) id=if id<k then da7 H id else .dead:=by
 induction H generalizing k id with
 | nil=>simp[da7]
 | cons a l ih=>cases k <;> cases id <;> simp[da7,ih]
end heap
theorem mf7.keep {rho rho':Nat→Prop}{w w':World}(hb:∀b,rho b→w'.heap[b]? = w.heap[b]?) (hr:∀b,rho b→rho' b):∀{a:AV}{v:Value},mf7 rho w a v→mf7 rho' w' a v
 | .int ..,_,h=>h
 | .bool _,_,h=>h
 | .flt _,_,h=>h
 | .str _,_,h=>h
 | .nilp,_,h=>h
 | .nils,_,h=>h
 | .junk,_,_=>trivial
 | .ws ..,_,h=>h.elim
 | .wu ..,_,h=>h.elim
 | .wp ..,_,h=>h.elim
 | .sl n sz f,v,⟨a,b,off,c,h1,h2,h3,h4,h5⟩=>⟨a,b,off,c,h1,h2,h3,fun hn=>⟨(h4 hn).1,hr _ (h4 hn).2⟩,fun i hi j hj=>by
   obtain⟨u,hu,hc⟩:=h5 i hi j hj
   refine⟨u, ?_,mf7.keep hb hr hc⟩
   rw[← hu]
   exact World.cell?_of_block (hb _ (h4 (by omega)).2)⟩
 | .rp n f,v,⟨b,off,h1,h2,h3⟩=>⟨b,off,h1,hr _ h2,fun j hj=>by
   obtain⟨u,hu,hc⟩:=h3 j hj
   refine⟨u, ?_,mf7.keep hb hr hc⟩
   rw[← hu]
   exact World.cell?_of_block (hb _ h2)⟩
def gl7 (M:Mp) (w:World) (M':Mp) (w':World):Prop :=
 (∀b q,M.tau b=some q→M'.tau b=some q)∧∀b t ck cur,M.tau b=some (t,ck)→w.heap[b]? = some (.cells cur t (0,0))→∃cur',w'.heap[b]? = some (.cells cur' t (0,0))∧cur'.size=cur.size
theorem gl7.of {M M':Mp}{w w':World}(h:M'.tau=M.tau) (hb:∀b q,M.tau b=some q→w'.heap[b]? = w.heap[b]?):gl7 M w M' w' :=
 ⟨fun b q hq=>by rw[h];exact hq,fun b t ck cur hq hc=>⟨cur,by rw[hb _ _ hq];exact hc,rfl⟩⟩
theorem WSl.keep {M M':Mp}{w w':World}(k:gl7 M w M' w') {t:TypeId}{ck:List CK}{n:Nat}{v:Value}(h:WSl M w t ck n v):WSl M' w' t ck n v:=by
 obtain⟨a,c,h1,h2,h3,h4,h5⟩:=h
 refine⟨a,c,h1,h2,h3,h4,fun ad e=>?_⟩
 obtain⟨b,cur,e1,e2,e3,e4⟩:=h5 ad e
 obtain⟨cur',k1,k2⟩:=k.2 b t ck cur e2 e3
 exact⟨b,cur',e1,k.1 _ _ e2,k1,by omega⟩
theorem WPt.keep {M M':Mp}{w w':World}(k:gl7 M w M' w') {t:TypeId}{ck:List CK}{o:Nat}{v:Value}(h:WPt M w t ck o v):WPt M' w' t ck o v:=by
 obtain⟨b,cur,i,e1,e2,e3,e4⟩:=h
 obtain⟨cur',k1,k2⟩:=k.2 b t ck cur e2 e3
 exact⟨b,cur',i,e1,k.1 _ _ e2,k1,by omega⟩
theorem kcb7.keep {M M':Mp}{w w':World}(k:gl7 M w M' w') {q:CK}{v:Value}(h:kcb7 M w q v):kcb7 M' w' q v:=by
 cases q with
 | i kk=>exact h
 | s t ck b=>obtain⟨n,hb,h⟩:=h;exact⟨n,hb,h.keep k⟩
theorem cob7.lt {E0:Nat}{M:Mp}{H:List Root}{w:World}(h:cob7 E0 M H w) {b:Nat}{q:TypeId×List CK}(hq:M.tau b=some q):b<w.heap.size:=by
 obtain⟨t,ck⟩:=q
 obtain⟨cur,h1,-⟩:=h.cells b t ck hq
 exact (Array.getElem?_eq_some_iff.1 h1).1
theorem cob7.keep {E0:Nat}{M M':Mp}{H H':List Root}{w w':World}(h:cob7 E0 M H w) (ht:M'.tau=M.tau) (hb:∀b q,M.tau b=some q→w'.heap[b]? = w.heap[b]?) (hr:∀b q,M.tau b=some q→¬M'.rho b)
  (hp:∀b q id fz ty sz r,M.tau b=some q→da7 H' id = .live fz ty sz r→M'.phi id≠b):cob7 E0 M' H' w':=by
 have k:=gl7.of (w:=w) (w':=w') ht hb
 refine⟨fun b q hq=>?_,fun b q id fz ty sz r hq hl=>?_,fun b t ck hq=>?_⟩
 ·rw[ht]at hq;exact⟨(h.new b q hq).1,hr b q hq⟩
 ·rw[ht]at hq;exact hp b q id fz ty sz r hq hl
 ·rw[ht]at hq
  obtain⟨cur,h1,h2,h3,h4⟩:=h.cells b t ck hq
  refine⟨cur,by rw[hb b _ hq];exact h1,h2,h3,fun i hi=>?_⟩
  obtain⟨v,g1,g2⟩:=h4 i hi
  exact⟨v,g1,fun q hq=>(g2 q hq).keep k⟩
theorem Con.of0 {M:Mp}{H:List Root}{w:World}{a:AV}{v:Value}(h:mf7 M.rho w a v):Con M H w a v:=by
 cases a <;> first | exact h | exact h.elim | trivial
theorem Con.to0 {M:Mp}{H:List Root}{w:World}{a:AV}{v:Value}(hf:a.fr=true) (h:Con M H w a v):mf7 M.rho w a v:=by
 cases a <;> first | exact h | (simp[AV.fr]at hf)
section
variable {M:Mp} {H:List Root} {w:World}
theorem of7.of_getElem:∀{l:List AV}{vs:List Value},vs.length=l.length→(∀i v,vs[i]? = some v→Con M H w (nth l i) v)→of7 M H w l vs
 | [],[],_,_=>rfl
 | a::l,v::vs,hl,h=>⟨v,vs,rfl,h 0 v rfl,of7.of_getElem (by simpa using hl) fun i u hu=>h (i+1) u (by simpa using hu)⟩
 | [],_::_,h,_=>by simp at h
 | _::_,[],h,_=>by simp at h
theorem of7.len:∀{l:List AV}{vs:List Value},of7 M H w l vs→vs.length=l.length
 | [],_,h=>by cases h;rfl
 | a::l,_,⟨v,r,h,_,h2⟩=>by subst h;simp[of7.len h2]
theorem of7.get:∀{l:List AV}{vs:List Value},of7 M H w l vs→∀i v,vs[i]? = some v→Con M H w (nth l i) v
 | [],_,h,i,v,hv=>by cases h;simp at hv
 | a::l,_,⟨v,r,h,h1,h2⟩,0,u,hu=>by subst h;cases hu;exact h1
 | a::l,_,⟨v,r,h,h1,h2⟩,i+1,u,hu=>by subst h;exact of7.get h2 i u (by simpa using hu)
theorem qhb7 (f:Nat→AV):∀n k,(tab f k n).length=n
 | 0,_=>rfl
 | n+1,k=>by simp[tab,qhb7 f n]
theorem dbb7 (f:Nat→AV):∀n k i,i<n→nth (tab f k n) i=f (k+i)
 | n+1,k,0,_=>rfl
 | n+1,k,i+1,h=>by simp only[tab,nth];rw[dbb7 f n (k+1) i (by omega)];congr 1;omega
theorem fu7:∀(l:List AV) (i:Nat) (a:AV),(trb7 l i a).length=l.length
 | [],_,_=>rfl
 | _::_,0,_=>rfl
 | _::l,i+1,a=>by simp[trb7,fu7 l i a]
theorem rbb7:∀(l:List AV) (i:Nat) (a:AV) (j:Nat),nth (trb7 l i a) j=if j=i∧i<l.length then a else nth l j
 | [],i,a,j=>by simp[trb7,nth]
 | b::l,0,a,0=>by simp[trb7,nth]
 | b::l,0,a,j+1=>by simp[trb7,nth]
 | b::l,i+1,a,0=>by simp[trb7,nth]
 | b::l,i+1,a,j+1=>by simp[trb7,nth,rbb7 l i a j]
theorem ohb7:∀(cs l:List AV) (o:Nat),(pat l o cs).length=l.length
 | [],_,_=>rfl
 | a::cs,l,o=>by simp[pat,ohb7 cs,fu7]
theorem urb7:∀(cs l:List AV) (o j:Nat),o+cs.length≤l.length→nth (pat l o cs) j=if o≤j∧j<o+cs.length then nth cs (j-o) else nth l j
 | [],l,o,j,_=>by simp only[pat,List.length_nil,Nat.add_zero];rw[if_neg (by omega)]
 | a::cs,l,o,j,h=>by
  simp only[List.length_cons]at h
  simp only[pat,List.length_cons]
  rw[urb7 cs _ _ _ (by rw[fu7];omega),rbb7]
  by_cases h1:j=o
  ·subst h1
   rw[if_neg (by omega),if_pos ⟨rfl,by omega⟩,if_pos (by omega),Nat.sub_self];rfl
  ·by_cases h2:o+1≤j∧j<o+1+cs.length
   ·rw[if_pos h2,if_pos (by omega),show j-o=(j-(o+1))+1 by omega];rfl
   ·rw[if_neg h2,if_neg (fun h=>h1 h.1),if_neg (by omega)]
theorem jz7:∀(l m:List AV) (i:Nat),nth (l++m) i=if i<l.length then nth l i else nth m (i-l.length)
 | [],m,i=>by simp
 | a::l,m,0=>by simp[nth]
 | a::l,m,i+1=>by simp[nth,jz7 l m i]
end
def Seen (M:Mp) (H:List Root) (b:Nat):Prop:=M.rho b∨(∃id fz ty sz r,da7 H id = .live fz ty sz r∧b=M.phi id)∨∃q,M.tau b=some q
def Same (M:Mp) (H:List Root) (w w':World):Prop:=∀b,Seen M H b→w'.heap[b]? = w.heap[b]?
def zvB:AV→Value→Bool
 | .int k n,.int k' n'=>decide (k=k')&&decide (n=n')
 | .bool b,.bool b'=>b==b'
 | .flt n,.float .f64 n'=>decide (n=n')
 | .str s,.string s'=>decide (s.data.toList=s'.data.toList)
 | .nilp,.pointer none=>true
 | .nils,.slice none 0 0=>true
 | _,_=>false
def zvL:List AV→List Value→Bool
 | [],[]=>true
 | a::l,v::vs=>zvB a v&&zvL l vs
 | _,_=>false
theorem gub7 {rho:Nat→Prop}{w:World}{a:AV}{v:Value}(h:zvB a v=true):mf7 rho w a v:=by
 cases a <;> cases v <;> simp[zvB]at h <;> try exact h.elim
 case int.int=>obtain⟨rfl,rfl⟩:=h;rfl
 case bool.bool=>subst h;rfl
 case flt.float k _=>cases k <;> simp[zvB]at h;subst h;rfl
 case str.string s t =>
  obtain⟨⟨s⟩⟩:=s;obtain⟨⟨t⟩⟩:=t
  simp at h;subst h;rfl
 case nilp.pointer p=>cases p <;> simp[zvB]at h;rfl
 case nils.slice a l c =>
  cases a with
  | some a=>simp[zvB]at h
  | none =>
   cases l with
   | succ _=>simp[zvB]at h
   | zero=>cases c with
    | succ _=>simp[zvB]at h
    | zero=>rfl
theorem otb7 {a:AV}{v:Value}(h:zvB a v=true):v.oneCell'=true:=by
 cases a <;> cases v <;> first | rfl | simp[zvB]at h
theorem lab7:∀{l:List AV}{vs:List Value},zvL l vs=true→vs.length=l.length
 | [],[],_=>rfl
 | _::_,_::_,h=>by simp[zvL]at h;simp[lab7 h.2]
 | [],_::_,h=>by simp[zvL]at h
 | _::_,[],h=>by simp[zvL]at h
theorem sbb7:∀{l:List AV}{vs:List Value},zvL l vs=true→∀i v,vs[i]? = some v→zvB (nth l i) v=true
 | [],[],_,i,v,hv=>by simp at hv
 | _::_,_::_,h,0,v,hv=>by simp[zvL]at h;cases hv;exact h.1
 | _::_,_::_,h,i+1,v,hv=>by simp[zvL]at h;exact sbb7 h.2 i v (by simpa using hv)
 | [],_::_,h,_,_,_=>by simp[zvL]at h
 | _::_,[],h,_,_,_=>by simp[zvL]at h
def kOk (P:Program) (ty:Ty) (t:TypeId):TyK→Prop
 | .i k=>P.underlying t=some (.int k)
 | .b=>P.underlying t=some .bool
 | .str=>P.underlying t=some .string
 | .sc=>∃d,P.underlying t=some d∧(match d with | .struct _ | .array _ _=>False | _=>True)
 | .st fs=>∃fields,P.underlying t=some (.struct fields)∧fields.toList.map (fun f=>(f.offset,P.cellsOf f.type))=fs∧∀f∈fields.toList,(P.info? f.type).isSome=true
 | .ar n esz=>∃e,P.underlying t=some (.array n e)∧P.cellsOf e=esz∧(P.info? e).isSome=true
 | .sl e=>P.underlying t=some (.slice e)∧(match (ty e).k with | .no=>False | _=>True)
 | .no=>True
structure wec7 (P:Program) (ty:Ty) (t:TypeId):Prop where
 k:kOk P ty t (ty t).k
 i:(match (ty t).k with | .no=>True | _=>∃i z,P.info? t=some i∧i.size=(ty t).sz∧i.bytes=(ty t).bytes∧i.zero=some z∧zvL (ty t).zero z.cells.toList=true∧z.cells.size=(ty t).sz)
def uh7 (P:Program) (ty:Ty):Prop:=∀t,wec7 P ty t
theorem uh7.info {P:Program}{ty:Ty}(h:uh7 P ty) {t:TypeId}(hk:(match (ty t).k with | .no=>False | _=>True)):∃i z,P.info? t=some i∧i.size=(ty t).sz∧i.bytes=(ty t).bytes∧i.zero=some z∧zvL (ty t).zero z.cells.toList=true∧z.cells.size=(ty t).sz:=by
 have:=(h t).i
 cases hh:(ty t).k <;> simp only[hh]at this hk <;> first | exact this | exact hk.elim
structure St (E:Env) (nt:Nat) (M:Mp) (σ:AS) (a:Act) (w:World):Prop where
 rel:Rel E M σ.H w
 tms:∀t,(lk σ.tm t).1=true→ic7 M σ.H w (lk σ.tm t).2 (a.tmps.getD t undef)
 off:∀t,(lk σ.tm t).1=false→a.tmps.getD t undef=undef
 sz:a.tmps.size=nt
 df:a.defers=E.df
section val
variable {P:Program} {ty:Ty} {E:Env} {nt:Nat} {M:Mp} {σ:AS} {a:Act} {w:World}
theorem iob7 (v:Value):ic7 M σ.H w (jab7 v) v:=by
 unfold jab7
 split <;> first | (simp only[ic7];first | rfl | trivial)
theorem St.rd (h:St E nt M σ a w) {x:Operand}(hg:(σ.rd x).1=true):ic7 M σ.H w (σ.rd x).2 (a.eval x):=by
 cases x with
 | tmp t=>exact h.tms t hg
 | const v=>exact iob7 v
 | global g=>trivial
 | func f=>exact⟨[],rfl,rfl⟩
theorem ge7 {k:IntKind}{n:Int}{v:Value}(h:ic7 M σ.H w (.c (.int k n)) v):v = .int k n:=h
theorem fbb7 {b:Bool}{v:Value}(h:ic7 M σ.H w (.c (.bool b)) v):v = .bool b:=h
theorem vr7 {k:IntKind}{n:Int}(h:inK k n):k.wrap n=n:=by
 cases k <;> simp only[inK]at h <;> simp only[IntKind.wrap,IntKind.signed,IntKind.bits,Int.reducePow,Nat.reduceSub,Bool.true_and,Bool.false_and,decide_eq_true_eq,Bool.false_eq_true,if_false]
 all_goals (try split)
 all_goals (try simp only[ge_iff_le,decide_eq_true_eq]at *)
 all_goals omega
theorem hhb7 (op:BinOp) (t:TypeId) (x y:Operand) (k k':IntKind) (m n:Int) (w:World):(eqGuard op t x y (.int k m) (.int k' n)).run P w = .ok () w:=by
 cases op <;> rfl
theorem os7 (op:BinOp) (t:TypeId) (x y:Operand) (m n:Bool) (w:World):(eqGuard op t x y (.bool m) (.bool n)).run P w = .ok () w:=by
 cases op <;> rfl
theorem bic7 (op:BinOp) (t:TypeId) (k:IntKind) (m n:Int) (h:(ib7 op k m n).1):∃v,ic7 M σ.H w (ib7 op k m n).2 v∧∀w',(binOp op t (.int k m) (.int k n)).run P w' = .ok v w':=by
 cases op <;> simp only[ib7,fgc7,no]at h ⊢ <;> try exact h.elim
 case add=>exact⟨_,rfl,fun w'=>by simp[binOp,Op.intArith,vr7 h]⟩
 case sub=>exact⟨_,rfl,fun w'=>by simp[binOp,Op.intArith,vr7 h]⟩
 case mul=>exact⟨_,rfl,fun w'=>by simp[binOp,Op.intArith,vr7 h]⟩
 case quo=>exact⟨_,rfl,fun w'=>by simp[binOp,Op.intDiv,vr7 h.2,h.1]⟩
 case rem=>exact⟨_,rfl,fun w'=>by simp[binOp,Op.intDiv,h]⟩
 case eql=>exact⟨_,rfl,fun w'=>by simp[binOp,Op.intCmp];rfl⟩
 case neq=>exact⟨_,rfl,fun w'=>by simp[binOp,Op.intCmp];rfl⟩
 case lss=>exact⟨_,rfl,fun w'=>by simp[binOp,Op.intCmp]⟩
 case leq=>exact⟨_,rfl,fun w'=>by simp[binOp,Op.intCmp]⟩
 case gtr=>exact⟨_,rfl,fun w'=>by simp[binOp,Op.intCmp]⟩
 case geq=>exact⟨_,rfl,fun w'=>by simp[binOp,Op.intCmp]⟩
theorem bs7 {s:ByteArray}{v:Value}(h:ic7 M σ.H w (.c (.str s)) v):v = .string s:=h
theorem whb7 (op:BinOp) (t:TypeId) (x y:Operand) (m n:ByteArray) (w:World):(eqGuard op t x y (.string m) (.string n)).run P w = .ok () w:=by
 cases op <;> simp[eqGuard]
theorem ogc7 (op:BinOp) (t:TypeId) {m n:ByteArray}(h:(wac7 op m n).1):∃r,ic7 M σ.H w (wac7 op m n).2 r∧∀w',(binOp op t (.string m) (.string n)).run P w' = .ok r w':=by
 have e:∀o,(o = .add∨o = .eql∨o = .neq)→∀w',(binOp o t (.string m) (.string n)).run P w'=(Op.stringOp o m n).run P w':=by
  rintro o (rfl | rfl | rfl) w' <;> rfl
 have q:(m.toList==n.toList)=eqS m n:=by rw[ByteArray.toList_eq,ByteArray.toList_eq];unfold eqS;rw[Bool.eq_iff_iff,beq_iff_eq,decide_eq_true_eq]
 unfold wac7 at h ⊢
 split at h
 ·exact⟨_,rfl,fun w'=>by rw[e _ (.inl rfl)];exact run_string_add_sum w' m n h⟩
 ·exact⟨_,rfl,fun w'=>by rw[e _ (.inr (.inl rfl))];simp only[Op.stringOp,q];rfl⟩
 ·exact⟨_,rfl,fun w'=>by rw[e _ (.inr (.inr rfl))];simp only[Op.stringOp,q];rfl⟩
 ·exact h.elim
theorem mgc7 (hT:uh7 P ty) (op:BinOp) (t:TypeId) (x y:Operand) (yt:TypeId) {p q:RV}{u v:Value}(hp:ic7 M σ.H w p u) (hq:ic7 M σ.H w q v) (h:(jvb7 op (ty t).k p q).1) :
  ∃r,ic7 M σ.H w (jvb7 op (ty t).k p q).2 r∧∀w',(do eqGuard op t x y u v;binOp op t u v).run P w' = .ok r w':=by
 unfold jvb7 at h ⊢
 split at h
 ·rename_i k m k' n
  obtain⟨hk,h⟩:=h
  subst hk
  obtain rfl:=ge7 hp
  obtain rfl:=ge7 hq
  obtain⟨r,h1,h2⟩:=bic7 (P:=P) (M:=M) (σ:=σ) (w:=w) op t k m n h
  refine⟨r,h1,fun w'=>?_⟩
  rw[Sem.run_bind,hhb7]
  exact h2 w'
 ·rename_i m n
  obtain rfl:=fbb7 hp
  obtain rfl:=fbb7 hq
  split at h
  ·rename_i hk
   have hu:P.underlying t=some .bool:=by have:=(hT t).k;rw[hk]at this;exact this
   split at h
   ·refine⟨.bool (m==n),rfl,fun w'=>?_⟩
    rw[Sem.run_bind,os7]
    exact run_eql_bool w' t m n hu
   ·refine⟨.bool (m != n),rfl,fun w'=>?_⟩
    rw[Sem.run_bind,os7]
    exact run_neq_bool w' t m n hu
   ·exact h.elim
  ·exact h.elim
 ·rename_i m n
  obtain rfl:=bs7 hp
  obtain rfl:=bs7 hq
  obtain⟨r,h1,h2⟩:=ogc7 (P:=P) (M:=M) (σ:=σ) (w:=w) op t h
  refine⟨r,h1,fun w'=>?_⟩
  rw[Sem.run_bind,whb7]
  exact h2 w'
 ·exact h.elim
theorem wjc7 (op:UnOp) {p:RV}{u:Value}(hp:ic7 M σ.H w p u) (h:(unV op p).1):∃r,ic7 M σ.H w (unV op p).2 r∧∀w',(Op.unary op u).run P w' = .ok r w':=by
 unfold unV at h ⊢
 split at h
 ·rename_i m
  obtain rfl:=fbb7 hp
  split at h
  ·exact⟨_,rfl,fun w'=>rfl⟩
  ·exact h.elim
 ·rename_i k m
  obtain rfl:=ge7 hp
  split at h
  ·exact⟨.int k (-m),rfl,fun w'=>by simp[Op.unary,Op.intArith,vr7 h]⟩
  ·exact h.elim
 ·exact h.elim
theorem sc7 (hT:uh7 P ty) {t:TypeId}{k:TyK}(hk:(ty t).k=k):kOk P ty t k:=by have:=(hT t).k;rw[hk]at this;exact this
theorem ydc7 (hT:uh7 P ty) (s t:TypeId) {p:RV}{u:Value}(hp:ic7 M σ.H w p u) (h:(pgb7 (ty s).k (ty t).k p).1):∃r,ic7 M σ.H w (pgb7 (ty s).k (ty t).k p).2 r∧∀w',(convert s t u).run P w' = .ok r w':=by
 unfold pgb7 at h ⊢
 split at h
 ·rename_i k0 n
  obtain rfl:=ge7 hp
  split at h
  ·rename_i k1 hs
   split at h
   ·rename_i k hk
    have hu:P.underlying t=some (.int k):=sc7 hT hk
    have hd:P.underlying s=some (.int k1):=sc7 hT hs
    exact⟨.int k n,rfl,fun w'=>by simp[convert,run_underlying hu,run_underlying hd,Conv.intToInt,vr7 h]⟩
   ·exact h.elim
  ·exact h.elim
 ·exact h.elim
theorem vic7 (mx:Bool) {p q:RV}{u v:Value}(hp:ic7 M σ.H w p u) (hq:ic7 M σ.H w q v) (h:(mmV mx p q).1) (at_:Array TypeId) (t:TypeId):∃r,ic7 M σ.H w (mmV mx p q).2 r∧∀w',(if mx then Builtin.max_ at_ t #[u,v] else Builtin.min_ at_ t #[u,v]).run P w' = .ok r w':=by
 unfold mmV at h ⊢
 split at h
 ·rename_i k m k' n
  obtain rfl:=ge7 hp
  obtain rfl:=ge7 hq
  simp only at h
  subst h
  refine⟨_,rfl,fun w'=>?_⟩
  cases mx
  ·simp[Builtin.min_,Builtin.min2];omega
  ·simp[Builtin.max_,Builtin.max2];omega
 ·exact h.elim
theorem vlc7 {id st len:Nat}{v:Value}(hv:vld σ.H id st len) (h:ic7 M σ.H w (.c (.h id st len)) v):∃fz ty sz r cap cur ad,da7 σ.H id = .live fz ty sz r∧st+len=r.len∧v = .slice (some ad) len cap∧len≤cap∧cap≤maxLen∧w.heap[M.phi id]? = some (.cells cur ty (0,0))∧M.off id+(st+cap)*sz=cur.size∧(0<cap→ad=⟨M.phi id,M.off id+st*sz,none⟩):=by
 unfold vld at hv
 split at hv
 ·rename_i fz t sz r hr
  obtain⟨cap,cur,ad,h1,h2,h3,h4,h5,h6⟩:=(h.2 _ _ _ _ hr).2 hv
  exact⟨fz,t,sz,r,cap,cur,ad,hr,hv,h1,h2,h3,h4,h5,h6⟩
 ·exact hv.elim
theorem lic7 (hT:uh7 P ty) (t:TypeId) (rt:TypeId) {p:RV}{u:Value}(hp:ic7 M σ.H w p u) (h:(yac7 (ty t).k σ.H p).1) :
  ∃r,ic7 M σ.H w (yac7 (ty t).k σ.H p).2 r∧∀w',(Builtin.len_ #[t] rt #[u]).run P w' = .ok r w':=by
 unfold yac7 at h ⊢
 split at h
 ·rename_i e hk
  have hd:P.underlying t=some (.slice e):=(sc7 hT hk).1
  split at h
  ·rename_i n sz f
   obtain⟨a,b,off,c,rfl,-⟩:=hp
   exact⟨.int .i64 n,rfl,fun w'=>by simp[Builtin.len_,run_underlying hd,goInt]⟩
  ·rename_i id st n
   obtain⟨fz,t',sz,r,cap,cur,ad,h1,h2,rfl,-⟩:=vlc7 h hp
   exact⟨.int .i64 n,rfl,fun w'=>by simp[Builtin.len_,run_underlying hd,goInt]⟩
  ·have hp':u = .slice none 0 0:=hp
   subst hp'
   exact⟨.int .i64 0,rfl,fun w'=>by simp[Builtin.len_,run_underlying hd,goInt]⟩
  ·rename_i t' ck n
   obtain⟨a,c,rfl,-⟩:=hp
   exact⟨.int .i64 n,rfl,fun w'=>by simp[Builtin.len_,run_underlying hd,goInt]⟩
  ·exact h.elim
 ·rename_i hk
  have hd:P.underlying t=some .string:=sc7 hT hk
  split at h
  ·rename_i s
   have hp':u = .string s:=hp
   subst hp'
   exact⟨.int .i64 s.size,rfl,fun w'=>by simp[Builtin.len_,run_underlying hd,goInt]⟩
  ·exact h.elim
 ·exact h.elim
theorem addr_add (b o n:Nat):(⟨b,o,none⟩:Addr).add n=⟨b,o+n,none⟩:=by unfold Addr.add;split <;> simp_all
theorem apb7 {fields:Array Field}{fs:List (Nat×Nat)}{P:Program}(h:fields.toList.map (fun f=>(f.offset,P.cellsOf f.type))=fs) {i:Nat}(hi:(at2 fs i).2≠0):∃f,fields[i]? = some f∧at2 fs i=(f.offset,P.cellsOf f.type):=by
 subst h
 obtain⟨fields⟩:=fields
 induction fields generalizing i with
 | nil=>simp[at2]at hi
 | cons f l ih=>cases i with
  | zero=>exact⟨f,rfl,rfl⟩
  | succ n =>
   obtain⟨g,h1,h2⟩:=ih (i:=n) hi
   exact⟨g,by simpa using h1,h2⟩
theorem mgb7 {fields:Array Field}{i:Nat}{f:Field}(h:fields[i]? = some f):f∈fields.toList:=by
 obtain⟨hi,rfl⟩:=Array.getElem?_eq_some_iff.1 h
 exact Array.mem_toList_iff.2 (Array.getElem_mem hi)
theorem bx7 {b o i:Nat}{f:Field}{fields:Array Field}(t:TypeId) (hu:P.underlying t=some (.struct fields)) (hf:fields[i]? = some f) (hi:(P.info? f.type).isSome=true) (h0:P.cellsOf f.type≠0) (w':World) :
  (Instr.fieldAt t (.pointer (some ⟨b,o,none⟩)) i).run P w' = .ok (.pointer (some ⟨b,o+f.offset,none⟩)) w':=by
 obtain⟨inf,hinf⟩:=Option.isSome_iff_exists.1 hi
 have h0':¬inf.size=0:=by simpa[Program.cellsOf,hinf]using h0
 simp[Instr.fieldAt,run_underlying hu,hf,Instr.sureAddr,fieldPlace,sizeOf,typeInfo,hinf,h0',addr_add]
theorem yxb7 (hT:uh7 P ty) (t:TypeId) (i:Nat) {p:RV}{u:Value}(hp:ic7 M σ.H w p u) (h:(bv7 (ty t).k σ.H p i).1):∃r,ic7 M σ.H w (bv7 (ty t).k σ.H p i).2 r∧∀w',(Instr.fieldAt t u i).run P w' = .ok r w':=by
 unfold bv7 at h ⊢
 split at h
 ·rename_i fs hk
  obtain⟨fields,hu,hfs,hinf⟩:=sc7 hT hk
  split at h
  ·rename_i n g
   obtain⟨h0,hn⟩:=h
   obtain⟨f,hf,he⟩:=apb7 hfs h0
   obtain⟨b,off,rfl,hr,hc⟩:=hp
   rw[he]at h0 hn ⊢
   refine⟨_,⟨b,off+f.offset,rfl,hr,fun j hj=>?_⟩,fun w'=>bx7 t hu hf (hinf f (mgb7 hf)) h0 w'⟩
   obtain⟨u,hu,hc⟩:=hc (j+f.offset) (by simp only at hn hj;omega)
   exact⟨u,by rw[← hu];congr 2;omega,hc⟩
  ·rename_i id n i' o
   obtain⟨h0,hv⟩:=h
   obtain⟨f,hf,he⟩:=apb7 hfs h0
   obtain⟨hl,hp⟩:=hp
   rw[he]at h0 ⊢
   unfold mec7 at hv
   split at hv
   ·rename_i fz ty' sz r hr
    obtain rfl:=(hp _ _ _ _ hr).2 hv
    refine⟨_,⟨⟨hl.1,rfl⟩,fun fz2 ty2 sz2 r2 hr2=>⟨(hp _ _ _ _ hr2).1,fun hl2=>?_⟩⟩,fun w'=>bx7 t hu hf (hinf f (mgb7 hf)) h0 w'⟩
    rw[hr]at hr2
    cases hr2
    simp only[Nat.add_assoc]
   ·exact hv.elim
  ·rename_i t' ck o
   obtain⟨f,hf,he⟩:=apb7 hfs h
   obtain⟨b,cur,i',rfl,e2,e3,e4⟩:=hp
   simp only[he]at h ⊢
   exact⟨_,⟨b,cur,i',rfl,e2,e3,e4⟩,fun w'=>by rw[← Nat.add_assoc];exact bx7 t hu hf (hinf f (mgb7 hf)) h w'⟩
  ·exact h.elim
 ·exact h.elim
theorem wj7 (hT:uh7 P ty) {t:TypeId}(hk:(match (ty t).k with | .no=>False | _=>True)) (w':World):(sizeOf t).run P w' = .ok (ty t).sz w':=by
 obtain⟨i,z,h1,h2,-⟩:=hT.info hk
 simp[sizeOf,typeInfo,h1,h2]
theorem oxb7 (hT:uh7 P ty) (t:TypeId) {p q:RV}{u v:Value}(hp:ic7 M σ.H w p u) (hq:ic7 M σ.H w q v) (h:(fx7 ty (ty t).k σ.H p q).1):∃r,ic7 M σ.H w (fx7 ty (ty t).k σ.H p q).2 r∧∀w',(Instr.indexAt t u v).run P w' = .ok r w':=by
 unfold fx7 at h ⊢
 split at h
 ·rename_i n sz f k i
  obtain rfl:=ge7 hq
  split at h
  ·rename_i e hk
   obtain⟨hu,hke⟩:P.underlying t=some (.slice e)∧_:=sc7 hT hk
   obtain⟨⟨h1,h2⟩,rfl⟩:=h
   obtain⟨a,b,off,c,rfl,h3,h4,h5,h6⟩:=hp
   obtain⟨rfl,hr⟩:=h5 (by omega)
   refine⟨.pointer (some ⟨b,off+i.toNat*(ty e).sz,none⟩),⟨b,off+i.toNat*(ty e).sz,rfl,hr,fun j hj=>h6 i.toNat (by omega) j hj⟩,fun w'=>?_⟩
   simp[Instr.indexAt,run_underlying hu,asIntOf,h1,h2,wj7 hT hke,addr_add]
  ·exact h.elim
 ·rename_i id st n k i
  obtain rfl:=ge7 hq
  split at h
  ·rename_i e hk
   obtain⟨hu,hke⟩:P.underlying t=some (.slice e)∧_:=sc7 hT hk
   split at h
   ·rename_i fz ty' sz r hr
    obtain⟨⟨h1,h2⟩,h3,rfl⟩:=h
    obtain⟨cap,cur,ad,rfl,h4,-,-,-,h5⟩:=(hp.2 _ _ _ _ hr).2 h3
    obtain rfl:=h5 (by omega)
    refine⟨.pointer (some ⟨M.phi id,M.off id+st*(ty e).sz+i.toNat*(ty e).sz,none⟩),⟨⟨hp.1.1,rfl⟩,fun fz2 ty2 sz2 r2 hr2=>?_⟩,fun w'=>?_⟩
    ·rw[hr]at hr2
     cases hr2
     exact⟨Nat.le_refl _,fun _=>by simp only[Nat.add_zero,Nat.add_mul,Nat.add_assoc]⟩
    ·simp[Instr.indexAt,run_underlying hu,asIntOf,h1,h2,wj7 hT hke,addr_add]
   ·exact h.elim
  ·exact h.elim
 ·rename_i t' ck n k i
  obtain rfl:=ge7 hq
  split at h
  ·rename_i e hk
   obtain⟨hu,hke⟩:P.underlying t=some (.slice e)∧_:=sc7 hT hk
   obtain⟨⟨h1,h2⟩,rfl,h3⟩:=h
   obtain⟨a,c,rfl,k1,k2,k3,k4⟩:=hp
   cases a with
   | none=>have:=k3 rfl;omega
   | some ad =>
    obtain⟨b,cur,rfl,g1,g2,g3⟩:=k4 ad rfl
    refine⟨.pointer (some ⟨b,i.toNat*ck.length+0,none⟩),⟨b,cur,i.toNat,rfl,g1,g2, ?_⟩,fun w'=>?_⟩
    ·rw[← g3];exact Nat.mul_le_mul_right _ (by omega)
    ·simp[Instr.indexAt,run_underlying hu,asIntOf,h1,h2,wj7 hT hke,addr_add,h3]
  ·exact h.elim
 ·exact h.elim
theorem ppb7:∀(l:List CK) (i:Nat),bgc7 l i=l[i]?
 | [],_=>rfl
 | _::_,0=>rfl
 | _::l,n+1=>by simp only[bgc7,List.getElem?_cons_succ];exact ppb7 l n
theorem efc7 (hT:uh7 P ty) (t:TypeId) {p q:RV}{u v:Value}(hp:ic7 M σ.H w p u) (hq:ic7 M σ.H w q v) (h:(pbc7 (ty t).k p q).1):∃r,ic7 M σ.H w (pbc7 (ty t).k p q).2 r∧∀w',(Instr.sliceAt t u none (some v) none).run P w' = .ok r w':=by
 unfold pbc7 at h ⊢
 split at h
 ·rename_i t' ck n k m
  obtain rfl:=ge7 hq
  split at h
  ·rename_i e hk
   obtain⟨hu,hke⟩:P.underlying t=some (.slice e)∧_:=sc7 hT hk
   have hel:P.elem t=e:=by simp[Program.elem,hu]
   obtain⟨h1,h2⟩:=h
   obtain⟨a,c,rfl,k1,k2,k3,k4⟩:=hp
   refine⟨.slice a m.toNat c,⟨a,c,rfl,by omega,k2,k3,k4⟩,fun w'=>?_⟩
   rw[run_sliceAt_slice w' t _ _ _ _ (by rw[hel];exact hu),run_slice_h w' t a n c (by rw[hel];exact hu) k m h1 (by omega),hel,wj7 hT hke]
   simp only[Result.andThen,sliced,Nat.sub_zero,Nat.zero_mul]
   by_cases hc:c=0
   ·rw[if_pos hc]
   ·rw[if_neg hc]
    cases a with
    | none=>rfl
    | some ad =>
     obtain⟨b,cur,rfl,-⟩:=k4 ad rfl
     simp[addr_add]
  ·exact h.elim
 ·rename_i k m
  obtain rfl:=ge7 hq
  split at h
  ·rename_i e hk
   obtain⟨hu,hke⟩:P.underlying t=some (.slice e)∧_:=sc7 hT hk
   have hel:P.elem t=e:=by simp[Program.elem,hu]
   have hp:u = .slice none 0 0:=hp
   have h:m=0:=h
   subst hp h
   refine⟨.slice none 0 0,rfl,fun w'=>?_⟩
   rw[run_sliceAt_slice w' t _ _ _ _ (by rw[hel];exact hu),run_slice_h w' t none 0 0 (by rw[hel];exact hu) k 0 (Int.le_refl _) (Int.le_refl _),hel,wj7 hT hke]
   rfl
  ·exact h.elim
 ·rename_i n sz f k m
  obtain rfl:=ge7 hq
  split at h
  ·rename_i e hk
   obtain⟨hu,hke⟩:P.underlying t=some (.slice e)∧_:=sc7 hT hk
   have hel:P.elem t=e:=by simp[Program.elem,hu]
   obtain⟨h1,h2⟩:=h
   obtain⟨a,b,off,c,rfl,k1,k2,k3,k4⟩:=hp
   refine⟨sliced a 0 m.toNat c (ty e).sz, ?_,fun w'=>?_⟩
   ·refine⟨if c=0 then a else a.map (·.add (0*(ty e).sz)),b,off,c,rfl,by omega,k2,fun hm=>?_,fun i hi=>k4 i (by omega)⟩
    obtain⟨rfl,hr⟩:=k3 (by omega)
    rw[if_neg (by omega)]
    exact⟨by simp[addr_add],hr⟩
   ·rw[run_sliceAt_slice w' t _ _ _ _ (by rw[hel];exact hu),run_slice_h w' t a n c (by rw[hel];exact hu) k m h1 (by omega),hel,wj7 hT hke]
    rfl
  ·exact h.elim
 ·rename_i s k m
  obtain rfl:=ge7 hq
  split at h
  ·rename_i hk
   obtain rfl:=bs7 hp
   obtain⟨h1,h2,h3⟩:=h
   exact⟨_,rfl,fun w'=>by rw[run_sliceAt_string (w:=w') (h:=sc7 hT hk)];exact run_slice_string_h w' t s (sc7 hT hk) k m h2 h3⟩
  ·exact h.elim
 ·exact h.elim
theorem wbc7 (hT:uh7 P ty) (t:TypeId) {p q:RV}{u v:Value}(hp:ic7 M σ.H w p u) (hq:ic7 M σ.H w q v) (h:(ebc7 ty (ty t).k p q).1):∃r,ic7 M σ.H w (ebc7 ty (ty t).k p q).2 r∧∀w',(Instr.sliceAt t u (some v) none none).run P w' = .ok r w':=by
 unfold ebc7 at h ⊢
 split at h
 ·rename_i s k m
  obtain rfl:=ge7 hq
  split at h
  ·rename_i hk
   obtain rfl:=bs7 hp
   obtain⟨h1,h2,h3⟩:=h
   exact⟨_,rfl,fun w'=>by rw[run_sliceAt_string (w:=w') (h:=sc7 hT hk)];exact run_slice_string_l w' t s (sc7 hT hk) k m h1 h2⟩
  ·exact h.elim
 ·rename_i n sz f k m
  obtain rfl:=ge7 hq
  split at h
  ·rename_i e hk
   obtain⟨hu,hke⟩:P.underlying t=some (.slice e)∧_:=sc7 hT hk
   have hel:P.elem t=e:=by simp[Program.elem,hu]
   obtain⟨⟨h1,h2⟩,rfl⟩:=h
   obtain⟨a,b,off,c,rfl,k1,k2,k3,k4⟩:=hp
   obtain⟨rfl,hr⟩:=k3 (by omega)
   refine⟨sliced (some ⟨b,off,none⟩) m.toNat n c (ty e).sz, ?_,fun w'=>?_⟩
   ·refine⟨some ⟨b,off+m.toNat*(ty e).sz,none⟩,b,off+m.toNat*(ty e).sz,c-m.toNat, ?_,by omega,by omega,fun _=>⟨rfl,hr⟩,fun i hi j hj=>?_⟩
    ·simp only[sliced]
     rw[if_neg (by omega)]
     simp[addr_add]
    ·have:=k4 (i+m.toNat) (by omega) j hj
     rw[show off+m.toNat*(ty e).sz+i*(ty e).sz+j=off+(i+m.toNat)*(ty e).sz+j by rw[Nat.add_mul];omega]
     exact this
   ·rw[run_sliceAt_slice w' t _ _ _ _ (by rw[hel];exact hu),run_slice_l w' t _ n c (by rw[hel];exact hu) k m h1 (by omega),hel,wj7 hT hke]
    rfl
  ·exact h.elim
 ·exact h.elim
theorem nbc7 (hT:uh7 P ty) (t:TypeId) {p q:RV}{u v:Value}(hp:ic7 M σ.H w p u) (hq:ic7 M σ.H w q v) (h:(mcc7 (ty t).k p q).1):∃r,ic7 M σ.H w (mcc7 (ty t).k p q).2 r∧∀w',(Instr.index t u v).run P w' = .ok r w':=by
 unfold mcc7 at h ⊢
 split at h
 ·rename_i s k m
  obtain rfl:=ge7 hq
  split at h
  ·rename_i hk
   obtain rfl:=bs7 hp
   obtain⟨h1,h2⟩:=h
   have hu:P.underlying t=some .string:=sc7 hT hk
   have hl:m.toNat<s.size:=by omega
   have hb:s[m.toNat]? = some (s[m.toNat]'hl):=by simp[hl]
   have hg:kac7 s m=((s[m.toNat]'hl).toNat:Int):=by
    unfold kac7
    rw[List.getD_eq_getElem?_getD,List.getElem?_eq_getElem (by simpa using hl)]
    rfl
   exact⟨_,rfl,fun w'=>by simp[Instr.index,asIntOf,run_underlying hu,hb,hg,h1]⟩
  ·exact h.elim
 ·exact h.elim
theorem hac7 (hT:uh7 P ty) (t:TypeId) {p q r:RV}{u v z:Value}(hp:ic7 M σ.H w p u) (hq:ic7 M σ.H w q v) (hr:ic7 M σ.H w r z) (h:(scc7 (ty t).k p q r).1):∃r',ic7 M σ.H w (scc7 (ty t).k p q r).2 r'∧∀w',(Instr.sliceAt t u (some v) (some z) none).run P w' = .ok r' w':=by
 unfold scc7 at h ⊢
 split at h
 ·rename_i s k l k' m
  obtain rfl:=ge7 hq
  obtain rfl:=ge7 hr
  split at h
  ·rename_i hk
   obtain rfl:=bs7 hp
   obtain⟨h1,h2,h3⟩:=h
   exact⟨_,rfl,fun w'=>by rw[run_sliceAt_string (w:=w') (h:=sc7 hT hk)];exact run_slice_string w' t s k k' l m (sc7 hT hk) h1 h2 h3⟩
  ·exact h.elim
 ·exact h.elim
theorem Rel.cell (h:Rel E M σ.H w) {id:Nat}{fz:Bool}{t:TypeId}{sz:Nat}{r:Row}(hr:da7 σ.H id = .live fz t sz r) {i o:Nat}(hi:i<r.len) (ho:o<sz) :
  ∃v,Con M σ.H w (r.get i o) v∧v.oneCell'=true∧∀w',Same M σ.H w w'→w'.cell? ⟨M.phi id,M.off id+i*sz+o,none⟩=some v:=by
 obtain⟨cur,h1,h2,h3,-,-,h4⟩:=h.row _ _ _ _ _ hr
 obtain⟨v,h5,h6,h7⟩:=h4 i hi o ho
 refine⟨v, ?_,h6,fun w' hs=>?_⟩
 ·unfold zk7 at h7
  split at h7
  ·exact h7
  ·exact Con.of0 h7
 ·have:=hs (M.phi id) (.inr (.inl ⟨id,fz,t,sz,r,hr,rfl⟩))
  simp[World.cell?,this,h1,h5]
theorem eu7 {Q:Nat→Value→Prop}:∀(n:Nat),(∀j,j<n→∃v,Q j v)→∃vs:List Value,vs.length=n∧∀j v,vs[j]? = some v→Q j v
 | 0,_=>⟨[],rfl,fun j v h=>by simp at h⟩
 | n+1,h=>by
  obtain⟨vs,h1,h2⟩:=eu7 n fun j hj=>h j (by omega)
  obtain⟨v,hv⟩:=h n (by omega)
  refine⟨vs++[v],by simp[h1],fun j u hj=>?_⟩
  by_cases hlt:j<vs.length
  ·rw[List.getElem?_append_left hlt]at hj
   exact h2 j u hj
  ·rw[List.getElem?_append_right (by omega)]at hj
   have:j=n:=by
    have:=(List.getElem?_eq_some_iff.1 hj).1
    simp at this;omega
   subst this
   simp[h1]at hj
   subst hj;exact hv
theorem nv7 (hT:uh7 P ty) {t:TypeId}{fs:List (Nat×Nat)}(hk:(ty t).k = .st fs) {b o:Nat}{vs:List Value}(hl:vs.length=(ty t).sz) {w':World}(h:∀j v,vs[j]? = some v→w'.cell? ⟨b,o+j,none⟩=some v) :
  (Instr.loadAt t (.pointer (some ⟨b,o,none⟩))).run P w' = .ok (.agg vs.toArray) w':=by
 obtain⟨fields,hu,-⟩:=sc7 hT hk
 have hz:=wj7 (P:=P) hT (t:=t) (by rw[hk];trivial) w'
 have hc:=run_loadCells_list (P:=P) w' ⟨b,o,none⟩ vs (fun j v hj=>by rw[addr_add];exact h j v hj)
 rw[← hl]at hz
 simp[Instr.loadAt,Instr.sureAddr,loadVar,isAgg,run_underlying hu,hz,hc]
theorem yo7 (hT:uh7 P ty) {t:TypeId}(hk:(match (ty t).k with | .st _=>False | .ar .. => False | .no=>False | _=>True)) {b o:Nat}{v:Value}{w':World}(h:w'.cell? ⟨b,o,none⟩=some v) :
  (Instr.loadAt t (.pointer (some ⟨b,o,none⟩))).run P w' = .ok v w':=by
 have hd:∃d,P.underlying t=some d∧(match d with | .struct _ | .array _ _=>False | _=>True):=by
  have hh:=(hT t).k
  cases hq:(ty t).k <;> rw[hq]at hk hh <;> simp only at hk
  ·exact⟨_,hh,trivial⟩
  ·exact⟨_,hh,trivial⟩
  ·exact⟨_,hh,trivial⟩
  ·exact hh
  ·exact⟨_,hh.1,trivial⟩
 obtain⟨d,hu,hd⟩:=hd
 cases d <;> first | exact hd.elim | simp[Instr.loadAt,Instr.sureAddr,loadVar,isAgg,run_underlying hu,h]
theorem utb7 (hT:uh7 P ty) (hR:Rel E M σ.H w) (t:TypeId) {p:RV}{u:Value}(hp:ic7 M σ.H w p u) (h:(hcb7 (ty t) σ.H p).1):∃r,ic7 M σ.H w (hcb7 (ty t) σ.H p).2 r∧∀w',Same M σ.H w w'→(Instr.loadAt t u).run P w' = .ok r w':=by
 unfold hcb7 at h ⊢
 split at h
 ·rename_i n g
  obtain⟨b,off,rfl,hr,hc⟩:=hp
  split at h
  ·rename_i fs hk
   obtain⟨vs,h1,h2⟩:=eu7 (Q:=fun j v=>w.cell? ⟨b,off+j,none⟩=some v∧mf7 M.rho w (g j) v) (ty t).sz (fun j hj=>hc j (by simp only at h;omega))
   refine⟨.agg vs.toArray,⟨vs,rfl,of7.of_getElem (by rw[qhb7,h1]) fun i v hv=>?_⟩,fun w' hs=>nv7 hT hk h1 fun j v hj=>?_⟩
   ·rw[dbb7 _ _ _ _ (by have:=(List.getElem?_eq_some_iff.1 hv).1;omega),Nat.zero_add]
    exact Con.of0 (h2 i v hv).2
   ·rw[← (h2 j v hj).1]
    exact World.cell?_of_block (hs b (.inl hr))
  ·exact h.elim
  ·exact h.elim
  ·rename_i h1 h2 h3
   obtain⟨v,hv,hcv⟩:=hc 0 (by simp only at h;omega)
   refine⟨v,Con.of0 hcv,fun w' hs=>yo7 hT ?_ ?_⟩
   ·cases hq:(ty t).k <;> simp_all
   ·rw[← hv]
    exact World.cell?_of_block (hs b (.inl hr))
 ·rename_i id n i o
  split at h
  ·rename_i fz ty' sz r hr
   split at h
   ·rename_i fs hk
    obtain⟨hn,hi,ho⟩:=h
    obtain rfl:=(hp.2 _ _ _ _ hr).2 hn
    obtain⟨vs,h1,h2⟩:=eu7 (Q:=fun j v=>Con M σ.H w (r.get i (o+j)) v∧v.oneCell'=true∧∀w',Same M σ.H w w'→w'.cell? ⟨M.phi id,M.off id+i*sz+(o+j),none⟩=some v) (ty t).sz (fun j hj=>hR.cell hr (by omega) (by omega))
    refine⟨.agg vs.toArray,⟨vs,rfl,of7.of_getElem (by rw[qhb7,h1]) fun j v hv=>?_⟩,fun w' hs=>nv7 hT hk h1 fun j v hj=>?_⟩
    ·rw[dbb7 _ _ _ _ (by have:=(List.getElem?_eq_some_iff.1 hv).1;omega)]
     exact (h2 j v hv).1
    ·rw[Nat.add_assoc]
     exact (h2 j v hj).2.2 w' hs
   ·exact h.elim
   ·exact h.elim
   ·rename_i k1 k2 k3
    obtain⟨hn,hi,ho⟩:=h
    obtain rfl:=(hp.2 _ _ _ _ hr).2 hn
    obtain⟨v,h1,-,h2⟩:=hR.cell hr (i:=i) (o:=o) (by omega) ho
    refine⟨v,h1,fun w' hs=>yo7 hT ?_ (h2 w' hs)⟩
    cases hq:(ty t).k <;> simp_all
  ·exact h.elim
 ·rename_i t' ck o
  split at h
  ·rename_i e hk
   obtain⟨b,cur,i,rfl,e2,e3,e4⟩:=hp
   obtain⟨cur2,c1,c2,-,c4⟩:=hR.tau.cells b t' ck e2
   rw[e3]at c1
   cases c1
   unfold jhc7 at h ⊢
   split at h
   ·rename_i t2 ck2 b2 hq
    rw[ppb7]at hq
    have ho:o<ck.length:=(List.getElem?_eq_some_iff.1 hq).1
    have hk2:(i*ck.length+o) % ck.length=o:=by rw[Nat.add_comm,Nat.add_mul_mod_self_right,Nat.mod_eq_of_lt ho]
    rw[Nat.add_mul]at e4
    obtain⟨v,g1,g2⟩:=c4 (i*ck.length+o) (by omega)
    have g3:=g2 (.s t2 ck2 b2) (by rw[hk2];exact hq)
    simp only[hk]
    refine⟨v,g3,fun w' hs=>yo7 hT (by rw[hk];trivial) ?_⟩
    have:=hs b (.inr (.inr ⟨_,e2⟩))
    simp[World.cell?,this,e3,g1]
   ·exact h.elim
  ·exact h.elim
 ·exact h.elim
theorem Con.one {x:AV}{v:Value}(hn:x.nj=true) (h:Con M σ.H w x v):v.oneCell'=true∧v.cells = #[v]:=by
 cases x with
 | int=>cases h;exact⟨rfl,rfl⟩
 | bool=>cases h;exact⟨rfl,rfl⟩
 | flt=>cases h;exact⟨rfl,rfl⟩
 | str=>cases h;exact⟨rfl,rfl⟩
 | nilp=>cases h;exact⟨rfl,rfl⟩
 | nils=>cases h;exact⟨rfl,rfl⟩
 | sl=>obtain⟨a,b,off,c,rfl,-⟩:=h;exact⟨rfl,rfl⟩
 | rp=>obtain⟨b,off,rfl,-⟩:=h;exact⟨rfl,rfl⟩
 | ws=>obtain⟨a,c,rfl,-⟩:=h;exact⟨rfl,rfl⟩
 | wu=>obtain⟨n,-,a,c,rfl,-⟩:=h;exact⟨rfl,rfl⟩
 | wp=>obtain⟨b,cur,i,rfl,-⟩:=h;exact⟨rfl,rfl⟩
 | junk=>cases hn
 | ptr=>exact⟨h.1.2,by have:=h.1.2;cases v <;> first | rfl | cases this⟩
 | h=>exact⟨h.1.2,by have:=h.1.2;cases v <;> first | rfl | cases this⟩
theorem nm7 {x:RV}{v:Value}(hn:njL (pc7 x)=true) (h0:(pc7 x).length≠0) (h:ic7 M σ.H w x v):of7 M σ.H w (pc7 x) v.cells.toList:=by
 cases x with
 | c b =>
  simp only[pc7,njL,Bool.and_true]at hn
  have h':Con M σ.H w b v:=h
  rw[(Con.one hn h').2]
  exact⟨v,[],rfl,h',rfl⟩
 | agg l=>obtain⟨vs,rfl,h1⟩:=h;simpa[pc7,Value.cells]using h1
 | fn=>exact absurd rfl h0
 | tup=>exact absurd rfl h0
 | ifc=>exact absurd rfl h0
theorem ojb7 (off:Nat):∀(l:List Value) (s:Nat) (cells:Array Value),off+s+l.length≤cells.size →
  ((l.zipIdx s).foldl (fun cs (p:Value×Nat)=>cs.setIfInBounds (off+p.2) p.1) cells).size=cells.size∧∀j,((l.zipIdx s).foldl (fun cs (p:Value×Nat)=>cs.setIfInBounds (off+p.2) p.1) cells)[j]? = if off+s≤j∧j<off+s+l.length then l[j-(off+s)]? else cells[j]?
 | [],s,cells,_=>⟨rfl,fun j=>by simp only[List.zipIdx_nil,List.foldl_nil,List.length_nil,Nat.add_zero];rw[if_neg (by omega)]⟩
 | v::l,s,cells,h=>by
  simp only[List.length_cons]at h
  have hs:(cells.setIfInBounds (off+s) v).size=cells.size:=Array.size_setIfInBounds
  obtain⟨h1,h2⟩:=ojb7 off l (s+1) (cells.setIfInBounds (off+s) v) (by rw[hs];omega)
  simp only[List.zipIdx_cons,List.foldl_cons]
  refine⟨by rw[h1,hs],fun j=>?_⟩
  rw[h2 j,List.length_cons,Array.getElem?_setIfInBounds]
  by_cases e:j=off+s
  ·subst e
   rw[if_neg (by omega),if_pos rfl,if_pos (by omega),if_pos (by omega),Nat.sub_self];rfl
  ·by_cases e2:off+s≤j∧j<off+s+(l.length+1)
   ·rw[if_pos (show off+(s+1)≤j∧j<off+(s+1)+l.length by omega),if_pos e2,show j-(off+s)=(j-(off+(s+1)))+1 by omega];rfl
   ·rw[if_neg (show ¬(off+(s+1)≤j∧j<off+(s+1)+l.length) by omega),if_neg (fun h=>e h.symm),if_neg e2]
theorem kqb7:∀(fs:List (Nat×Nat)) (i:Nat),(at2 fs i).2≠0→fs[i]? = some (at2 fs i)
 | [],_,h=>absurd rfl h
 | _::_,0,_=>rfl
 | _::fs,n+1,h=>kqb7 fs n h
theorem aib7 (pl:Nat→Nat×Nat) (place:Nat→Option (Nat×Nat)) (hpl:∀i,(pl i).2≠0→place i=some (pl i)):∀(ps:List (Nat×Operand)) (l:List AV) (cells:Array Value),(∀x∈ps,(σ.rd x.2).1=true→ic7 M σ.H w (σ.rd x.2).2 (a.eval x.2))→gOk true (pgs σ.rd ps)→of7 M σ.H w l cells.toList→(ig7 pl σ.rd l ps).1 →
  ∃out,Instr.fill place cells (ps.map fun (i,x)=>(i,a.eval x))=some out∧of7 M σ.H w (ig7 pl σ.rd l ps).2 out.toList
 | [],l,cells,_,_,hc,_=>⟨cells,rfl,hc⟩
 | (i,x)::ps,l,cells,hr,hg,hc,h=>by
  simp only[ig7]at h ⊢
  simp only[pgs,gOk]at hg
  obtain⟨⟨h0,h1,h2,h3⟩,h4⟩:=h
  have hx:=hr _ (List.mem_cons_self ..) (hg.1 trivial)
  have hcx:=nm7 h1 (by omega) hx
  have hlen:=hcx.len
  have hll:=hc.len
  have hfs:place i=some (pl i):=hpl i h0
  have hsz:(a.eval x).cells.size=(pl i).2:=by simpa[h2]using hlen
  have hcl:cells.size=l.length:=by simpa using hll
  obtain⟨f1,f2⟩:=ojb7 (pl i).1 (a.eval x).cells.toList 0 cells (by simp only[Array.length_toList];omega)
  obtain⟨out,ho,hco⟩:=aib7 pl place hpl ps (pat l (pl i).1 (pc7 (σ.rd x).2)) (((a.eval x).cells.toList.zipIdx 0).foldl (fun cs (p:Value×Nat)=>cs.setIfInBounds ((pl i).1+p.2) p.1) cells)
   (fun y hy=>hr y (List.mem_cons_of_mem _ hy)) hg.2 (of7.of_getElem (by rw[ohb7];simp only[Array.length_toList];omega) fun j v hj=>by
    rw[Array.getElem?_toList,f2 j]at hj
    rw[urb7 _ _ _ _ (by omega)]
    simp only[Nat.add_zero,Array.length_toList,hsz,h2]at hj ⊢
    split at hj
    ·rename_i hb
     rw[if_pos hb]
     exact hcx.get _ _ hj
    ·rename_i hb
     rw[if_neg hb]
     exact hc.get _ _ (by simpa using hj)) h4
  refine⟨out, ?_,hco⟩
  rw[← ho]
  simp only[List.map_cons,Instr.fill,hfs,hsz]
  rw[if_neg (by simp;omega)]
  congr 1
  rw[← Array.foldl_toList]
  simp[Array.toList_zipIdx]
theorem ej7 (hT:uh7 P ty) {t:TypeId}(hk:(match (ty t).k with | .no=>False | _=>True)):∃i z,P.info? t=some i∧i.zero=some z∧i.size=(ty t).sz∧i.bytes=(ty t).bytes∧z.cells.size=(ty t).sz∧zvL (ty t).zero z.cells.toList=true∧of7 M σ.H w (ty t).zero z.cells.toList:=by
 obtain⟨i,z,h1,h2,h3,h4,h5,h6⟩:=hT.info hk
 exact⟨i,z,h1,h4,h2,h3,h6,h5,of7.of_getElem (lab7 h5) fun j v hj=>Con.of0 (gub7 (sbb7 h5 j v hj))⟩
theorem lxb7 (hT:uh7 P ty) (h:St E nt M σ a w) (t:TypeId) (ps:Array (Nat×Operand)) {fs:List (Nat×Nat)}(hk:(ty t).k = .st fs) (hg:gOk true (pgs σ.rd ps.toList)) (ho:(ig7 (at2 fs) σ.rd (ty t).zero ps.toList).1) :
  ∃r,ic7 M σ.H w (.agg (ig7 (at2 fs) σ.rd (ty t).zero ps.toList).2) r∧∀w',(Instr.build t (ps.map fun (i,x)=>(i,a.eval x))).run P w' = .ok r w':=by
 obtain⟨fields,hu,hfs,hinf⟩:=sc7 hT hk
 obtain⟨i,z,hi,hz,-,-,-,-,hzc⟩:=ej7 (M:=M) (σ:=σ) (w:=w) (P:=P) hT (t:=t) (by rw[hk];trivial)
 obtain⟨out,h1,h2⟩:=aib7 (M:=M) (σ:=σ) (w:=w) (a:=a) (at2 fs) (fun i=>fs[i]?) (kqb7 fs) ps.toList (ty t).zero z.cells (fun x _ hx=>h.rd hx) hg hzc ho
 refine⟨.agg out,⟨out.toList,by simp,h2⟩,fun w'=>run_build w' t _ out ?_⟩
 have hm:fields.toList.mapM (fun f=>(P.info? f.type).map fun i=>(f.offset,i.size))=some fs:=by
  rw[← hfs]
  have:∀l:List Field,(∀f∈l,(P.info? f.type).isSome=true)→l.mapM (fun f=>(P.info? f.type).map fun i=>(f.offset,i.size))=some (l.map fun f=>(f.offset,P.cellsOf f.type)):=by
   intro l hl
   induction l with
   | nil=>rfl
   | cons f l ih =>
    obtain⟨inf,hinf⟩:=Option.isSome_iff_exists.1 (hl f (List.mem_cons_self ..))
    simp[List.mapM_cons,hinf,ih fun g hg=>hl g (List.mem_cons_of_mem _ hg),Program.cellsOf]
  exact this _ hinf
 unfold Program.built
 simp only[hi,hu,hz,hm]
 rw[← h1]
 simp
def goc7:Op→Bool
 | .load .. => true
 | _=>false
theorem mbc7 (hT:uh7 P ty) (h:St E nt M σ a w) {o:Oper}(hv:isV o.op=true) {g:Bool}(hg:g=true) (hgs:gOk true (wab7 σ.rd o.op)) (ho:(opV ty g σ.rd σ.H o.op).1) :
  ∃v,ic7 M σ.H w (opV ty g σ.rd σ.H o.op).2 v∧∀w',(goc7 o.op=true→Same M σ.H w w')→(execOp a.eval o).run P w' = .ok (.value v) w':=by
 obtain⟨dst,op,type,pos,after,guard⟩:=o
 have lift:∀{x:Sem Value} {v:Value} {w':World},x.run P w' = .ok v w'→((do pure (Next.value (← x))):Sem Next).run P w' = .ok (.value v) w':=fun {x v w'} hx=>by
  rw[Sem.run_bind,hx];rfl
 cases op <;> simp only[isV,Bool.false_eq_true]at hv <;> simp only[wab7,gOk]at hgs <;> simp only[opV]at ho ⊢
 case move x=>exact⟨a.eval x,h.rd (hgs.1 trivial),fun w' _=>rfl⟩
 case assign x=>exact⟨a.eval x,h.rd (hgs.1 trivial),fun w' _=>rfl⟩
 case pick c x y =>
  subst hg
  have hc:=h.rd (hgs.1 trivial)
  split at ho
  ·rename_i cb hcb
   rw[hcb]at hc
   have hcv:a.eval c = .bool cb:=hc
   obtain⟨h1,h2,h3⟩:=ho
   simp only[gOk,Bool.true_and,and_true]at h1 h2
   have key:∃v,ic7 M σ.H w (shb7 (.c (.bool cb)) (σ.rd x).2 (σ.rd y).2).2 v∧v=(if cb=true then a.eval x else a.eval y):=by
    unfold shb7 at h3 ⊢
    split at h3
    ·rename_i c' p q e1 e2 e3
     cases e1
     cases cb with
     | true=>exact⟨_,by have:=h.rd (x:=x) (h1 rfl);rw[e2]at this;exact this,rfl⟩
     | false=>exact⟨_,by have:=h.rd (x:=y) (h2 rfl);rw[e3]at this;exact this,rfl⟩
    ·rename_i c' k p k' q e1 e2 e3
     cases e1
     simp only at h3
     subst h3
     cases cb with
     | true=>exact⟨_,by have:=h.rd (x:=x) (h1 rfl);rw[e2]at this;exact this,rfl⟩
     | false=>exact⟨_,by have:=h.rd (x:=y) (h2 rfl);rw[e3]at this;exact this,rfl⟩
    ·rename_i c1 e1 e2
     cases e1
     simp only at h3
     subst h3
     exact⟨_,h.rd (x:=y) (h2 rfl),rfl⟩
    ·rename_i c1 e1 e2 n
     cases e1
     simp only at h3
     subst h3
     exact⟨_,h.rd (x:=x) (h1 rfl),rfl⟩
    ·exact h3.elim
   obtain⟨v,hv1,hv2⟩:=key
   refine⟨v,hv1,fun w' _=>?_⟩
   subst hv2
   cases cb <;> simp[execOp,hcv,asBool]
  ·exact ho.elim
 case build t ps =>
  split at ho
  ·rename_i fs hk
   obtain⟨r,h1,h2⟩:=lxb7 hT h t ps hk hgs ho
   exact⟨r,h1,fun w' _=>lift (h2 w')⟩
  ·exact ho.elim
 case load t x =>
  obtain⟨r,h1,h2⟩:=utb7 hT h.rel t (h.rd (hgs.1 trivial)) ho
  exact⟨r,h1,fun w' hs=>lift (h2 w' (hs rfl))⟩
 case binOp op t x y yt =>
  obtain⟨r,h1,h2⟩:=mgc7 hT op t x y yt (h.rd (hgs.1 trivial)) (h.rd (hgs.2.1 trivial)) ho
  exact⟨r,h1,fun w' _=>lift (h2 w')⟩
 case unOp op t x =>
  obtain⟨r,h1,h2⟩:=wjc7 (P:=P) op (h.rd (hgs.1 trivial)) ho
  exact⟨r,h1,fun w' _=>lift (h2 w')⟩
 case convert s t x =>
  obtain⟨r,h1,h2⟩:=ydc7 hT s t (h.rd (hgs.1 trivial)) ho
  exact⟨r,h1,fun w' _=>lift (h2 w')⟩
 case fieldAddr t x f =>
  obtain⟨r,h1,h2⟩:=yxb7 hT t f (h.rd (hgs.1 trivial)) ho
  exact⟨r,h1,fun w' _=>lift (h2 w')⟩
 case indexAddr t x i =>
  obtain⟨r,h1,h2⟩:=oxb7 hT t (h.rd (hgs.1 trivial)) (h.rd (hgs.2.1 trivial)) ho
  exact⟨r,h1,fun w' _=>lift (h2 w')⟩
 case index t x i =>
  obtain⟨r,h1,h2⟩:=nbc7 hT t (h.rd (hgs.1 trivial)) (h.rd (hgs.2.1 trivial)) ho
  exact⟨r,h1,fun w' _=>lift (h2 w')⟩
 case nilCheck x =>
  have hx:=h.rd (hgs.1 trivial)
  unfold zhc7 at ho ⊢
  split at ho
  ·rename_i id n i o hxe
   rw[hxe]at hx
   split at ho
   ·rename_i fz ty2 sz r hr
    have e:=(hx.2 _ _ _ _ hr).2 ho
    exact⟨_,hx,fun w' _=>by rw[e];simp[execOp,e]⟩
   ·exact ho.elim
  ·exact ho.elim
 case extract x i =>
  have hx:=h.rd (hgs.1 trivial)
  have key:∃v,ic7 M σ.H w (cec7 (σ.rd x).2 i).2 v∧∀w',(Instr.extract (a.eval x) i).run P w' = .ok v w':=by
   unfold cec7 at ho ⊢
   split at ho
   ·rename_i l hl
    rw[hl]at hx
    obtain⟨vs,hvs,hc⟩:=hx
    have hn:∀(l:List RV) (vs:List Value) (i:Nat),ud7 M σ.H w l vs→(fec7 l i).1→∃v,vs[i]? = some v∧ic7 M σ.H w (fec7 l i).2 v:=by
     intro l
     induction l with
     | nil=>intro vs i _ h;exact h.elim
     | cons b l ih =>
      rintro vs i ⟨v,r,rfl,h1,h2⟩ h
      cases i with
      | zero=>exact⟨v,rfl,h1⟩
      | succ n=>exact ih r n h2 h
    obtain⟨v,h1,h2⟩:=hn l vs i hc ho
    exact⟨v,h2,fun w'=>by rw[hvs];simp[Instr.extract,h1]⟩
   ·exact ho.elim
  obtain⟨r,h1,h2⟩:=key
  exact⟨r,h1,fun w' _=>lift (h2 w')⟩
 case slice t x lo hi mx =>
  cases lo <;> cases hi <;> cases mx <;> simp only[qhc7]at ho ⊢ <;> try exact ho.elim
  ·obtain⟨r,h1,h2⟩:=efc7 hT t (h.rd (hgs.1 trivial)) (h.rd (hgs.2.1 rfl)) ho
   exact⟨r,h1,fun w' _=>lift (h2 w')⟩
  ·obtain⟨r,h1,h2⟩:=wbc7 hT t (h.rd (hgs.1 trivial)) (h.rd (hgs.2.1 rfl)) ho
   exact⟨r,h1,fun w' _=>lift (h2 w')⟩
  ·obtain⟨r,h1,h2⟩:=hac7 hT t (h.rd (hgs.1 trivial)) (h.rd (hgs.2.1 rfl)) (h.rd (hgs.2.2.1 rfl)) ho
   exact⟨r,h1,fun w' _=>lift (h2 w')⟩
 case makeFunc fn first caps =>
  obtain⟨first⟩:=first
  cases fn <;> cases first <;> simp only[yec7]at ho ⊢ <;> try exact ho.elim
  rename_i f
  have key:∀(l:List Operand),gOk true (rgs σ.rd l)→∀as,rcc7 (rds σ.rd l)=some as→of7 M σ.H w as (l.map a.eval):=by
   intro l
   induction l with
   | nil=>intro _ as e;cases e;rfl
   | cons x l ih =>
    intro hg as e
    simp only[rds,rcc7]at e
    have hx:=h.rd (hg.1 rfl)
    cases hq:(σ.rd x).2 <;> rw[hq]at e hx <;> simp only[rcc7]at e <;> try cases e
    rename_i b
    cases hc:rcc7 (rds σ.rd l) <;> rw[hc]at e <;> simp only[Option.map_none,Option.map_some,Option.some.injEq]at e <;> try cases e
    exact⟨_,_,rfl,hx,ih hg.2 _ hc⟩
  unfold kjc7 at ho ⊢
  split at ho
  ·rename_i as has
   refine⟨.func (.func f) #[] (caps.map a.eval),⟨caps.toList.map a.eval, ?_,key caps.toList hgs as has⟩,fun w' _=>?_⟩
   ·congr 1;apply Array.toList_inj.1;simp
   ·simp[execOp,Instr.makeFunc]
  ·exact ho.elim
 case call c =>
  obtain⟨callee,args,ats⟩:=c
  cases callee with
  | value f=>simp at hv
  | invoke r m=>simp at hv
  | builtin b =>
   simp only at hgs ho ⊢
   obtain⟨args⟩:=args
   obtain⟨ats⟩:=ats
   cases b <;> simp only[zgc7]at hv ho ⊢ <;> try exact ho.elim
   case len =>
    rcases args with _ | ⟨x,_ | ⟨y,rest⟩⟩ <;> simp only[rds]at ho <;> try exact ho.elim
    rcases ats with _ | ⟨t,_ | ⟨t2,rest⟩⟩ <;> simp only at ho <;> try exact ho.elim
    obtain⟨r,h1,h2⟩:=lic7 hT t type (h.rd (hgs.1 rfl)) ho
    exact⟨r,h1,fun w' _=>by have:=lift (x:=Builtin.len_ #[t] type #[a.eval x]) (h2 w');simpa[execOp,resolve,invoke,builtin]using this⟩
   case max =>
    rcases args with _ | ⟨x,_ | ⟨y,_ | ⟨z,rest⟩⟩⟩ <;> simp only[rds]at ho <;> try exact ho.elim
    obtain⟨r,h1,h2⟩:=vic7 (P:=P) true (h.rd (hgs.1 rfl)) (h.rd (hgs.2.1 rfl)) ho ats.toArray type
    exact⟨r,h1,fun w' _=>by have:=lift (x:=Builtin.max_ ats.toArray type #[a.eval x,a.eval y]) (h2 w');simpa[execOp,resolve,invoke,builtin]using this⟩
   case min =>
    rcases args with _ | ⟨x,_ | ⟨y,_ | ⟨z,rest⟩⟩⟩ <;> simp only[rds]at ho <;> try exact ho.elim
    obtain⟨r,h1,h2⟩:=vic7 (P:=P) false (h.rd (hgs.1 rfl)) (h.rd (hgs.2.1 rfl)) ho ats.toArray type
    exact⟨r,h1,fun w' _=>by have:=lift (x:=Builtin.min_ ats.toArray type #[a.eval x,a.eval y]) (h2 w');simpa[execOp,resolve,invoke,builtin]using this⟩
theorem ctb7 (hT:uh7 P ty) (h:St E nt M σ a w) {o:Oper}(hv:isV o.op=true) {g:Bool}(hg:g=true) (hgs:gOk true (wab7 σ.rd o.op)) (ho:(opV ty g σ.rd σ.H o.op).1) :
  ∃v,ic7 M σ.H w (opV ty g σ.rd σ.H o.op).2 v∧∀w',Same M σ.H w w'→(execOp a.eval o).run P w' = .ok (.value v) w':=by
 obtain⟨v,h1,h2⟩:=mbc7 hT h hv hg hgs ho
 exact⟨v,h1,fun w' hs=>h2 w' fun _=>hs⟩
end val
section
variable {P:Program} {ty:Ty} {E:Env} {M M':Mp} {H H':List Root} {w w':World}
theorem Kp.refl (M:Mp) (H:List Root) (w:World):Kp M H w M H w:=fun _ _ h=>h
theorem Kp.trans {M2:Mp}{H2:List Root}{w2:World}(h:Kp M H w M' H' w') (k:Kp M' H' w' M2 H2 w2):Kp M H w M2 H2 w2:=fun a v c=>k a v (h a v c)
theorem Kp.L (h:Kp M H w M' H' w'):∀{l:List AV}{vs:List Value},of7 M H w l vs→of7 M' H' w' l vs
 | [],_,c=>c
 | _::_,_,⟨v,r,e,c1,c2⟩=>⟨v,r,e,h _ _ c1,Kp.L h c2⟩
mutual
theorem Kp.R (h:Kp M H w M' H' w'):∀{x:RV}{v:Value},ic7 M H w x v→ic7 M' H' w' x v
 | .c _,_,c=>h _ _ c
 | .agg _,_,⟨vs,e,c⟩=>⟨vs,e,h.L c⟩
 | .fn _ _,_,⟨vs,e,c⟩=>⟨vs,e,h.L c⟩
 | .tup _,_,⟨vs,e,c⟩=>⟨vs,e,Kp.RL h c⟩
 | .ifc _ _,_,⟨u,e,c⟩=>⟨u,e,Kp.R h c⟩
theorem Kp.RL (h:Kp M H w M' H' w'):∀{x:List RV}{vs:List Value},ud7 M H w x vs→ud7 M' H' w' x vs
 | [],_,c=>c
 | _::_,_,⟨v,r,e,c1,c2⟩=>⟨v,r,e,Kp.R h c1,Kp.RL h c2⟩
end
theorem Kp.below (h:Rel E M H w) (hb:Below w.heap.size w w'):Kp M H w M H w':=by
 intro a v c
 have hr:∀b,M.rho b→w'.heap[b]? = w.heap[b]? := fun b hb'=>hb.block b (h.rlt b hb')
 cases a with
 | ptr=>exact c
 | h id st len =>
  refine⟨c.1,fun fz t sz r hrt=>⟨(c.2 _ _ _ _ hrt).1,fun hl=>?_⟩⟩
  obtain⟨cap,cur,ad,h1,h2,h3,h4,h5⟩:=(c.2 _ _ _ _ hrt).2 hl
  refine⟨cap,cur,ad,h1,h2,h3, ?_,h5⟩
  rw[hb.block _ (Array.getElem?_eq_some_iff.1 h4).1];exact h4
 | ws=>exact WSl.keep (gl7.of rfl fun b q hq=>hb.block b (h.tau.lt hq)) c
 | wu=>obtain⟨n,hb',c⟩:=c;exact⟨n,hb',WSl.keep (gl7.of rfl fun b q hq=>hb.block b (h.tau.lt hq)) c⟩
 | wp=>exact WPt.keep (gl7.of rfl fun b q hq=>hb.block b (h.tau.lt hq)) c
 | junk=>trivial
 | _=>exact mf7.keep hr (fun _ h=>h) c
theorem frb7.keep {b f:Nat}{t:TypeId}{sz:Nat}{r:Row}(h:frb7 M H w b f t sz r) (hk:Kp M H w M' H' w') (hr:∀b,M.rho b→w'.heap[b]? = w.heap[b]?) (hrr:∀b,M.rho b→M'.rho b) (hb:w'.heap[b]? = w.heap[b]?):frb7 M' H' w' b f t sz r:=by
 obtain⟨cur,h1,h2,h3,h4,h5,h6⟩:=h
 refine⟨cur,by rw[hb];exact h1,h2,h3,h4,h5,fun i hi o ho=>?_⟩
 obtain⟨v,k1,k2,k3⟩:=h6 i hi o ho
 refine⟨v,k1,k2, ?_⟩
 unfold zk7 at k3 ⊢
 split
 ·rename_i hbx;rw[if_pos hbx]at k3;exact hk _ _ k3
 ·rename_i hbx;rw[if_neg hbx]at k3;exact mf7.keep hr hrr k3
theorem Rel.lt (h:Rel E M H w) {id:Nat}{fz:Bool}{t:TypeId}{sz:Nat}{r:Row}(hr:da7 H id = .live fz t sz r):M.phi id<w.heap.size:=by
 obtain⟨cur,h1,-⟩:=h.row _ _ _ _ _ hr
 exact (Array.getElem?_eq_some_iff.1 h1).1
theorem Bel.next (h:Bel E w) (hb:Below w.heap.size w w'):Bel E w':=⟨hb.os.trans h.os,hb.tape.trans h.tape,hb.output.trans h.output,Nat.le_trans h.size hb.size,fun k hk hx=>(hb.block k (Nat.lt_of_lt_of_le hk h.size)).trans (h.block k hk hx)⟩
theorem Bel.below (h:Bel E w) (hx:∀b,¬E.ex b):Below E.W0.heap.size E.W0 w:=⟨h.os,h.tape,h.output,h.size,fun k hk=>h.block k hk (hx k)⟩
theorem Bel.of (w:World) (rho:Nat→Prop):Bel (Env.of w rho) w:=⟨rfl,rfl,rfl,Nat.le_refl _,fun _ _ _=>rfl⟩
theorem Rel.belN {rho:Nat→Prop}{w0:World}(h:Rel (Env.of w0 rho) M H w):Below w0.heap.size w0 w:=h.bel.below fun _ h=>h
theorem Rel.below (h:Rel E M H w) (hb:Below w.heap.size w w'):Rel E M H w' :=
 ⟨h.bel.next hb,h.low,fun id fz t sz r hr=>(h.row id fz t sz r hr).keep (Kp.below h hb) (fun b hb'=>hb.block b (h.rlt b hb')) (fun _ h=>h) (hb.block _ (h.lt hr)),h.froz,h.thaw,h.inj,
  fun b hb'=>Nat.lt_of_lt_of_le (h.rlt b hb') hb.size,h.src,h.tau.keep rfl (fun b q hq=>hb.block b (h.tau.lt hq)) (fun b q hq=>(h.tau.new b q hq).2) h.tau.row⟩
theorem Rel.glob (h:Rel E M H w):zu7 M.rho w:=⟨E.exk.elim (fun hx=>h.src.2.1.below (h.bel.below hx)) (fun hg=>hg w),h.src.2.2⟩
structure Put (E:Env) (M:Mp) (H H':List Root) (w w':World) (row:Option Nat) (id g f:Nat) (t:TypeId) (sz:Nat) (r':Row):Prop where
 gr:w.grownBy w' row
 oth:∀j,j≠id→da7 H' j=da7 H j
 this:da7 H' id = .live false t sz r'
 len:H.length≤H'.length
 fresh:da7 H id = .dead→H.length≤id
 row:∀b,row=some b→b=M.phi id∧∃t s r,da7 H id = .live false t s r
 new:(g=M.phi id∧∃t s r,da7 H id = .live false t s r)∨w.heap.size≤g
 old:∀fz t2 s r,da7 H id = .live fz t2 s r→r.len<r'.len∨(r.len=r'.len∧g=M.phi id∧f=M.off id∧t2=t∧s=sz∧∀cur,w.heap[g]? = some (.cells cur t (0,0))→∃cur',w'.heap[g]? = some (.cells cur' t (0,0))∧cur'.size=cur.size)
def Mp.upd (M:Mp) (id g f:Nat):Mp:=⟨fun j=>if j=id then g else M.phi j,fun j=>if j=id then f else M.off j,M.rho,M.tau⟩
section
variable {row:Option Nat} {id g f:Nat} {t:TypeId} {sz:Nat} {r':Row}
theorem Put.rho (p:Put E M H H' w w' row id g f t sz r') (h:Rel E M H w) (b:Nat) (hb:M.rho b):w'.heap[b]? = w.heap[b]? := by
 refine p.gr.block b (h.rlt b hb) fun e=>?_
 obtain⟨rfl,t,s,r,hr⟩:=p.row b e.symm
 exact h.thaw _ _ _ _ hr hb
theorem Put.blk (p:Put E M H H' w w' row id g f t sz r') (h:Rel E M H w) {j:Nat}{fz:Bool}{t2:TypeId}{s2:Nat}{r2:Row}(hj:da7 H j = .live fz t2 s2 r2) (hne:j≠id):w'.heap[M.phi j]? = w.heap[M.phi j]? := by
 refine p.gr.block _ (h.lt hj) fun e=>?_
 obtain⟨e2,t,s,r,hr⟩:=p.row _ e.symm
 cases fz with
 | false=>exact hne (h.inj _ _ _ _ _ _ _ _ hj hr e2)
 | true =>
  have:=h.froz _ _ _ _ hj
  rw[e2]at this
  exact h.thaw _ _ _ _ hr this
theorem Put.tau (p:Put E M H H' w w' row id g f t sz r') (h:Rel E M H w) (b:Nat) (q:TypeId×List CK) (hq:M.tau b=some q):w'.heap[b]? = w.heap[b]? := by
 refine p.gr.block b (h.tau.lt hq) fun e=>?_
 obtain⟨rfl,t,s,r,hr⟩:=p.row b e.symm
 exact h.tau.row _ _ _ _ _ _ _ hq hr rfl
theorem Put.kp (p:Put E M H H' w w' row id g f t sz r') (h:Rel E M H w):Kp M H w (M.upd id g f) H' w':=by
 intro a v c
 cases a with
 | ptr id2 n i o =>
  refine⟨⟨Nat.lt_of_lt_of_le c.1.1 p.len,c.1.2⟩,fun fz t2 s2 r2 hr=>?_⟩
  by_cases e:id2=id
  ·subst e
   rw[p.this]at hr
   cases hr
   cases ho:da7 H id2 with
   | dead=>have:=p.fresh ho;have:=c.1.1;omega
   | live fz t2 s r =>
    obtain⟨c1,c2⟩:=c.2 _ _ _ _ ho
    rcases p.old _ _ _ _ ho with h1 | ⟨h1,rfl,rfl,rfl,rfl,-⟩
    ·exact⟨by omega,fun hn=>by omega⟩
    ·exact⟨by omega,fun hn=>by rw[c2 (by omega)];simp[Mp.upd]⟩
  ·rw[p.oth _ e]at hr
   have:=c.2 _ _ _ _ hr
   simpa[Mp.upd,e]using this
 | h id2 st len =>
  refine⟨⟨Nat.lt_of_lt_of_le c.1.1 p.len,c.1.2⟩,fun fz t2 s2 r2 hr=>?_⟩
  by_cases e:id2=id
  ·subst e
   rw[p.this]at hr
   cases hr
   cases ho:da7 H id2 with
   | dead=>have:=p.fresh ho;have:=c.1.1;omega
   | live fz t2 s r =>
    obtain⟨c1,c2⟩:=c.2 _ _ _ _ ho
    rcases p.old _ _ _ _ ho with h1 | ⟨h1,rfl,rfl,rfl,rfl,h2⟩
    ·exact⟨by omega,fun hn=>by omega⟩
    ·refine⟨by omega,fun hn=>?_⟩
     obtain⟨cap,cur,ad,k1,k2,k3,k4,k5,k8⟩:=c2 (by omega)
     obtain⟨cur',k6,k7⟩:=h2 cur k4
     exact⟨cap,cur',ad,k1,k2,k3,by simpa[Mp.upd]using k6,by simp only[Mp.upd,if_true];omega,by simpa[Mp.upd]using k8⟩
  ·rw[p.oth _ e]at hr
   obtain⟨c1,c2⟩:=c.2 _ _ _ _ hr
   refine⟨c1,fun hn=>?_⟩
   obtain⟨cap,cur,ad,k1,k2,k3,k4,k5⟩:=c2 hn
   exact⟨cap,cur,ad,k1,k2,k3,by simp only[Mp.upd,e,if_false];rw[p.blk h hr e];exact k4,by simpa only[Mp.upd,e,if_false]using k5⟩
 | ws=>exact WSl.keep (gl7.of rfl (p.tau h)) c
 | wu=>obtain⟨n,hb',c⟩:=c;exact⟨n,hb',WSl.keep (gl7.of rfl (p.tau h)) c⟩
 | wp=>exact WPt.keep (gl7.of rfl (p.tau h)) c
 | junk=>trivial
 | _=>exact mf7.keep (p.rho h) (fun _ h=>h) c
theorem Put.rel (p:Put E M H H' w w' row id g f t sz r') (h:Rel E M H w) (hr:frb7 (M.upd id g f) H' w' g f t sz r'):Rel E (M.upd id g f) H' w':=by
 have hW:E.W0.heap.size≤w.heap.size:=h.bel.size
 have hg:E.own g:=by
  rcases p.new with ⟨rfl,t,s,r,ho⟩ | h1
  ·exact h.low _ _ _ _ _ ho
  ·exact .inl (by omega)
 have up:∀{j:Nat},j≠id→(M.upd id g f).phi j=M.phi j:=fun hne=>by simp[Mp.upd,hne]
 have uid:(M.upd id g f).phi id=g:=by simp[Mp.upd]
 have upo:∀{j:Nat},j≠id→(M.upd id g f).off j=M.off j:=fun hne=>by simp[Mp.upd,hne]
 have uido:(M.upd id g f).off id=f:=by simp[Mp.upd]
 refine⟨?_, ?_, ?_, ?_, ?_, ?_, ?_, ?_, ?_⟩
 ·exact⟨p.gr.os.trans h.bel.os,p.gr.tape.trans h.bel.tape,p.gr.output.trans h.bel.output,Nat.le_trans h.bel.size p.gr.size,fun k hk hx=>by
   rw[p.gr.block k (by omega) (fun e=>by
    obtain⟨e2,t,s,r,ho⟩:=p.row _ e.symm
    rcases h.low _ _ _ _ _ ho with h1 | h1
    ·omega
    ·exact hx (e2 ▸ h1))]
   exact h.bel.block k hk hx⟩
 ·intro j fz t2 s2 r2 hj
  by_cases e:j=id
  ·subst e;rw[uid];exact hg
  ·rw[up e];rw[p.oth _ e]at hj;exact h.low _ _ _ _ _ hj
 ·intro j fz t2 s2 r2 hj
  by_cases e:j=id
  ·subst e;rw[uid,uido];rw[p.this]at hj;cases hj;exact hr
  ·rw[up e,upo e];rw[p.oth _ e]at hj;exact (h.row _ _ _ _ _ hj).keep (p.kp h) (p.rho h) (fun _ h=>h) (p.blk h hj e)
 ·intro j t2 s2 r2 hj
  by_cases e:j=id
  ·subst e;rw[p.this]at hj;cases hj
  ·rw[up e];rw[p.oth _ e]at hj;exact h.froz _ _ _ _ hj
 ·intro j t2 s2 r2 hj
  by_cases e:j=id
  ·subst e;rw[uid]
   rcases p.new with ⟨rfl,t,s,r,ho⟩ | h1
   ·exact h.thaw _ _ _ _ ho
   ·exact fun hb=>by have:=h.rlt _ hb;omega
  ·rw[up e];rw[p.oth _ e]at hj;exact h.thaw _ _ _ _ hj
 ·intro i j t1 s1 r1 t2 s2 r2 hi hj he
  have key:∀{j:Nat} {t2:TypeId} {s2:Nat} {r2:Row},j≠id→da7 H' j = .live false t2 s2 r2→g≠M.phi j:=fun hne hj e=>by
   rw[p.oth _ hne]at hj
   rcases p.new with ⟨rfl,t,s,r,ho⟩ | h1
   ·exact hne (h.inj _ _ _ _ _ _ _ _ ho hj e).symm
   ·have:=h.lt hj;omega
  by_cases ei:i=id
  ·by_cases ej:j=id
   ·rw[ei,ej]
   ·rw[ei,uid,up ej]at he
    exact absurd he (key ej hj)
  ·by_cases ej:j=id
   ·rw[ej,uid,up ei]at he
    exact absurd he.symm (key ei hi)
   ·rw[up ei,up ej]at he
    rw[p.oth _ ei]at hi
    rw[p.oth _ ej]at hj
    exact h.inj _ _ _ _ _ _ _ _ hi hj he
 ·exact fun b hb=>Nat.lt_of_lt_of_le (h.rlt b hb) p.gr.size
 ·exact h.src
 ·refine h.tau.keep rfl (p.tau h) (fun b q hq=>(h.tau.new b q hq).2) fun b q j fz t2 s2 r2 hq hj=>?_
  by_cases e:j=id
  ·subst e;rw[uid]
   rcases p.new with ⟨rfl,t,s,r,ho⟩ | h1
   ·exact h.tau.row _ _ _ _ _ _ _ hq ho
   ·have:=h.tau.lt hq;omega
  ·rw[up e];rw[p.oth _ e]at hj;exact h.tau.row _ _ _ _ _ _ _ hq hj
end
theorem qi7 (w:World) (o:Obj):(w.alloc o).heap[w.heap.size]? = some o:=by
 show (w.heap.push o)[w.heap.size]? = _
 simp
theorem Put.push (h:Rel E M H w) (hg:w.grownBy w' none) {t:TypeId}{sz:Nat}{r:Row}:Put E M H (H++[.live false t sz r]) w w' none H.length w.heap.size 0 t sz r :=
 ⟨hg,fun j hj=>by rw[ki7,if_neg hj],by rw[ki7,if_pos rfl],by simp,fun _=>Nat.le_refl _,fun _ e=>(by cases e),.inr (Nat.le_refl _),fun _ _ _ _ hr=>by rw[ao7 (Nat.le_refl _)]at hr;cases hr⟩
theorem vsb7 {w w':World}{t:TypeId}{sz:Nat}{r:Row}:Con (M.upd H.length w.heap.size 0) (H++[.live false t sz r]) w' (.ptr H.length r.len 0 0) (.pointer (some ⟨w.heap.size,0,none⟩)):=by
 refine⟨⟨by simp,rfl⟩,fun fz t2 s2 r2 hr=>?_⟩
 rw[ki7,if_pos rfl]at hr
 cases hr
 exact⟨Nat.le_refl _,fun _=>by simp[Mp.upd]⟩
theorem tq7 {w':World}{t:TypeId}{sz n cap:Nat}{r:Row}{cur:Array Value}(hn:n=r.len) (h1:n≤cap) (h2:cap≤maxLen) (h3:w'.heap[w.heap.size]? = some (.cells cur t (0,0))) (h4:cap*sz=cur.size) :
  Con (M.upd H.length w.heap.size 0) (H++[.live false t sz r]) w' (.h H.length 0 n) (.slice (some ⟨w.heap.size,0,none⟩) n cap):=by
 refine⟨⟨by simp,rfl⟩,fun fz t2 s2 r2 hr=>?_⟩
 rw[ki7,if_pos rfl]at hr
 cases hr
 exact⟨by omega,fun _=>⟨cap,cur,_,rfl,h1,h2,by simpa[Mp.upd]using h3,by simpa[Mp.upd]using h4,fun _=>by simp[Mp.upd]⟩⟩
theorem rzb7 (h:Rel E M H w) {cs:List AV}{vs:Array Value}(t:TypeId) (hc:of7 M H w cs vs.toList) (hn:∀v∈vs.toList,v.oneCell'=true) (h0:0<cs.length) :
  Rel E (M.upd H.length w.heap.size 0) (H++[.live false t cs.length (.box cs)]) (w.alloc (.cells vs t))∧Kp M H w (M.upd H.length w.heap.size 0) (H++[.live false t cs.length (.box cs)]) (w.alloc (.cells vs t)):=by
 have hg:w.grownBy (w.alloc (.cells vs t)) none:=⟨rfl,rfl,rfl,by simp,fun k hk _=>Below.heap_alloc _ _ _ hk⟩
 have p:=Put.push h hg (t:=t) (sz:=cs.length) (r:=.box cs)
 have hl:=hc.len
 refine⟨p.rel h ⟨vs,qi7 w _,h0,by simp only[Row.len];simp at hl;omega,⟨1,by simp at hl;omega⟩,fun _=>⟨rfl,by simpa using hl⟩,fun i hi o ho=>?_⟩,p.kp h⟩
 have hi:i=0:=by simp only[Row.len]at hi;omega
 subst hi
 have ho':o<vs.toList.length:=by rw[hl];exact ho
 refine⟨vs.toList[o],by simp,hn _ (List.getElem_mem ho'), ?_⟩
 show Con _ _ _ (nth cs o) _
 exact p.kp h _ _ (hc.get o _ (List.getElem?_eq_getElem ho'))
def Mp.fz (M:Mp) (id:Nat):Mp:=⟨M.phi,M.off,fun b=>M.rho b∨b=M.phi id,M.tau⟩
theorem bl7 {fz:Bool}{t:TypeId}{sz:Nat}{r:Row}{id:Nat}(hr:da7 H id = .live fz t sz r) (j:Nat):da7 (ja7 H id (da7 H id).mark) j=if j=id then .live true t sz r else da7 H j:=by
 rw[rc7,hr]
 have:=sf7 hr
 by_cases e:j=id <;> simp[e,this,Root.mark]
theorem qg7 {id:Nat}{fz:Bool}{t:TypeId}{sz:Nat}{r:Row}(hr:da7 H id = .live fz t sz r) {j:Nat}{fz2:Bool}{t2:TypeId}{s2:Nat}{r2:Row}(hj:da7 (ja7 H id (da7 H id).mark) j = .live fz2 t2 s2 r2) :
  ∃fz3,da7 H j = .live fz3 t2 s2 r2∧(j≠id→fz3=fz2)∧(j=id→fz2=true):=by
 rw[bl7 hr]at hj
 by_cases e:j=id
 ·rw[if_pos e]at hj
  cases hj
  exact⟨fz,by rw[e];exact hr,fun h=>absurd e h,fun _=>rfl⟩
 ·rw[if_neg e]at hj
  exact⟨fz2,hj,fun _=>rfl,fun h=>absurd h e⟩
theorem Kp.mark {id:Nat}{fz:Bool}{t:TypeId}{sz:Nat}{r:Row}(hr:da7 H id = .live fz t sz r):Kp M H w (M.fz id) (ja7 H id (da7 H id).mark) w:=by
 intro a v c
 cases a with
 | ptr id2 n i o=>exact⟨⟨by rw[va7];exact c.1.1,c.1.2⟩,fun fz2 t2 s2 r2 hj=>by obtain⟨fz3,h1,-⟩:=qg7 hr hj;exact c.2 _ _ _ _ h1⟩
 | h id2 st len=>exact⟨⟨by rw[va7];exact c.1.1,c.1.2⟩,fun fz2 t2 s2 r2 hj=>by obtain⟨fz3,h1,-⟩:=qg7 hr hj;exact c.2 _ _ _ _ h1⟩
 | ws=>exact c
 | wu=>exact c
 | wp=>exact c
 | junk=>trivial
 | _=>exact mf7.keep (fun _ _=>rfl) (fun _ h=>.inl h) c
theorem Rel.mark (h:Rel E M H w) {id:Nat}{fz:Bool}{t:TypeId}{sz:Nat}{r:Row}(hr:da7 H id = .live fz t sz r):Rel E (M.fz id) (ja7 H id (da7 H id).mark) w:=by
 refine⟨h.bel, ?_, ?_, ?_, ?_, ?_, ?_, ?_, ?_⟩
 ·intro j fz2 t2 s2 r2 hj
  obtain⟨_,h1,-⟩:=qg7 hr hj;exact h.low _ _ _ _ _ h1
 ·intro j fz2 t2 s2 r2 hj
  obtain⟨_,h1,-⟩:=qg7 hr hj
  exact (h.row _ _ _ _ _ h1).keep (Kp.mark hr) (fun _ _=>rfl) (fun _ h=>.inl h) rfl
 ·intro j t2 s2 r2 hj
  obtain⟨fz3,h1,h2,-⟩:=qg7 hr hj
  by_cases e:j=id
  ·exact .inr (by rw[e];rfl)
  ·obtain rfl:=h2 e;exact .inl (h.froz _ _ _ _ h1)
 ·intro j t2 s2 r2 hj
  obtain⟨fz3,h1,h2,h3⟩:=qg7 hr hj
  have e:j≠id:=fun e=>by have:=h3 e;cases this
  obtain rfl:=h2 e
  rintro (hb | hb)
  ·exact h.thaw _ _ _ _ h1 hb
  ·cases fz with
   | false=>exact e (h.inj _ _ _ _ _ _ _ _ h1 hr hb)
   | true=>exact h.thaw _ _ _ _ h1 (by have:=h.froz _ _ _ _ hr;have hb':M.phi j=M.phi id:=hb;rw[hb'];exact this)
 ·intro i j t1 s1 r1 t2 s2 r2 hi hj he
  obtain⟨f1,h1,k1,l1⟩:=qg7 hr hi
  obtain⟨f2,h2,k2,l2⟩:=qg7 hr hj
  have e1:i≠id:=fun e=>by have:=l1 e;cases this
  have e2:j≠id:=fun e=>by have:=l2 e;cases this
  obtain rfl:=k1 e1
  obtain rfl:=k2 e2
  exact h.inj _ _ _ _ _ _ _ _ h1 h2 he
 ·rintro b (hb | hb)
  ·exact h.rlt _ hb
  ·rw[hb];exact h.lt hr
 ·refine⟨?_,h.src.2.mono fun _=>.inl⟩
  rintro b (hb | hb)
  ·exact h.src.1 _ hb
  ·exact .inr (by rw[hb];exact h.low _ _ _ _ _ hr)
 ·refine h.tau.keep rfl (fun _ _ _=>rfl) (fun b q hq=>?_) fun b q j fz2 t2 s2 r2 hq hj=>?_
  ·rintro (hb | hb)
   ·exact (h.tau.new b q hq).2 hb
   ·exact h.tau.row _ _ _ _ _ _ _ hq hr hb.symm
  ·obtain⟨_,h1,-⟩:=qg7 hr hj
   exact h.tau.row _ _ _ _ _ _ _ hq h1
def dg7 (rho:Nat→Prop) (w:World):List AV→List Value→Prop
 | [],vs=>vs=[]
 | a::l,vs=>∃v r,vs=v::r∧mf7 rho w a v∧dg7 rho w l r
theorem rjb7 {id:Nat}{fz:Bool}{t:TypeId}{sz:Nat}{r:Row}(hr:da7 H id = .live fz t sz r) (a:AV):frz (ja7 H id (da7 H id).mark) a=frz H a:=by
 cases a with
 | h id2 st len =>
  simp only[frz]
  rw[bl7 hr]
  by_cases e:id2=id
  ·rw[if_pos e,e,hr]
  ·rw[if_neg e]
 | _=>rfl
theorem bdb7 {id:Nat}{fz:Bool}{t:TypeId}{sz:Nat}{r:Row}(hr:da7 H id = .live fz t sz r):∀l:List AV,zs7 (ja7 H id (da7 H id).mark) l=zs7 H l
 | []=>rfl
 | a::l=>by simp only[zs7,rjb7 hr,bdb7 hr l]
theorem vn7 {id:Nat}{fz:Bool}{t:TypeId}{sz:Nat}{r:Row}(hr:da7 H id = .live fz t sz r):∀l:List AV,ih7 H l→ih7 (ja7 H id (da7 H id).mark) l
 | [],_=>trivial
 | a::l,h=>by
  cases a with
  | h id2 st len =>
   refine⟨?_,vn7 hr l h.2⟩
   have:=h.1
   unfold gmb7 at this ⊢
   rw[bl7 hr]
   by_cases e:id2=id
   ·rw[if_pos e];rw[e,hr]at this;exact this
   ·rw[if_neg e];exact this
  | ptr=>exact h.elim
  | junk=>exact h.elim
  | ws=>exact h.elim
  | wu=>exact h.elim
  | wp=>exact h.elim
  | _=>exact vn7 hr l h
theorem mf7.frzH (h:Rel E M H w) {id st len:Nat}{v:Value}(hv:gmb7 H id st len) (c:Con M H w (.h id st len) v):mf7 (M.fz id).rho w (frz H (.h id st len)) v:=by
 unfold gmb7 at hv
 split at hv
 ·rename_i fz t sz r hr
  obtain⟨cap,cur,ad,rfl,h2,h3,h4,h5,h6⟩:=(c.2 _ _ _ _ hr).2 hv.1
  obtain⟨cur2,k1,k2,k3,k4,k5,k6⟩:=h.row _ _ _ _ _ hr
  simp only[frz,hr]
  refine⟨_,M.phi id,M.off id+st*sz,cap,rfl,h2,h3,fun _=>⟨congrArg some (h6 (by omega)),.inr rfl⟩,fun i hi j hj=>?_⟩
  obtain⟨u,l1,l2,l3⟩:=k6 (st+i) (by omega) j hj
  refine⟨u, ?_, ?_⟩
  ·simp only[World.cell?,k1,Option.isSome_none,Bool.false_eq_true,if_false]
   rw[← l1,Nat.add_mul,← Nat.add_assoc (M.off id)]
  ·unfold zk7 at l3
   rw[hv.2,if_neg (by simp)]at l3
   exact l3.keep (fun _ _=>rfl) (fun _ h=>.inl h)
 ·exact hv.elim
theorem ew7:∀(l:List AV) {M:Mp}{H:List Root},Rel E M H w→ih7 H l→∃M',(M'.phi=M.phi∧M'.off=M.off)∧(∀b,M.rho b→M'.rho b)∧Rel E M' (frzH H l) w∧Kp M H w M' (frzH H l) w∧∀vs,of7 M H w l vs→dg7 M'.rho w (zs7 H l) vs
 | [],M,H,h,_=>⟨M,⟨rfl,rfl⟩,fun _ h=>h,h,Kp.refl _ _ _,fun vs hv=>hv⟩
 | a::l,M,H,h,ho=>by
  have plain:∀(_:a.fr=true) (_:frzH H (a::l)=frzH H l) (_:frz H a=a) (_:ih7 H l),∃M',(M'.phi=M.phi∧M'.off=M.off)∧(∀b,M.rho b→M'.rho b)∧Rel E M' (frzH H (a::l)) w∧Kp M H w M' (frzH H (a::l)) w∧∀vs,of7 M H w (a::l) vs→dg7 M'.rho w (zs7 H (a::l)) vs:=fun h1 h2 h3 h4=>by
   obtain⟨M',k1,k2,k3,k4,k5⟩:=ew7 l h h4
   refine⟨M',k1,k2,by rw[h2];exact k3,by rw[h2];exact k4, ?_⟩
   rintro vs ⟨v,r,rfl,c1,c2⟩
   exact⟨v,r,rfl,by rw[h3];exact (Con.to0 h1 c1).keep (fun _ _=>rfl) k2,k5 r c2⟩
  cases a with
  | h id st len =>
   have hv:=ho.1
   unfold gmb7 at hv
   split at hv
   ·rename_i fz t sz r hr
    obtain⟨M',k1,k2,k3,k4,k5⟩:=ew7 l (h.mark hr) (vn7 hr l ho.2)
    refine⟨M',k1,fun b hb=>k2 b (.inl hb),k3,(Kp.mark hr).trans k4, ?_⟩
    rintro vs ⟨v,r,rfl,c1,c2⟩
    refine⟨v,r,rfl,(mf7.frzH h ho.1 c1).keep (fun _ _=>rfl) k2, ?_⟩
    have:=k5 r ((Kp.mark hr).L c2)
    rwa [bdb7 hr]at this
   ·exact hv.elim
  | ptr=>exact ho.elim
  | junk=>exact ho.elim
  | ws=>exact ho.elim
  | wu=>exact ho.elim
  | wp=>exact ho.elim
  | int=>exact plain rfl rfl rfl ho
  | bool=>exact plain rfl rfl rfl ho
  | flt=>exact plain rfl rfl rfl ho
  | str=>exact plain rfl rfl rfl ho
  | nilp=>exact plain rfl rfl rfl ho
  | nils=>exact plain rfl rfl rfl ho
  | sl=>exact plain rfl rfl rfl ho
  | rp=>exact plain rfl rfl rfl ho
theorem jn7:∀(l:List AV) (H:List Root),(frzH H l).length=H.length
 | [],_=>rfl
 | a::l,H=>by cases a <;> simp only[frzH] <;> first | (rw[jn7 l,va7]) | exact jn7 l H
theorem dg7.get {rho:Nat→Prop}:∀{l:List AV}{vs:List Value},dg7 rho w l vs→∀i v,vs[i]? = some v→mf7 rho w (nth l i) v
 | [],_,h,i,v,hv=>by cases h;simp at hv
 | a::l,_,⟨v,r,h,h1,h2⟩,0,u,hu=>by subst h;cases hu;exact h1
 | a::l,_,⟨v,r,h,h1,h2⟩,i+1,u,hu=>by subst h;exact dg7.get h2 i u (by simpa using hu)
theorem dg7.len {rho:Nat→Prop}:∀{l:List AV}{vs:List Value},dg7 rho w l vs→vs.length=l.length
 | [],_,h=>by cases h;rfl
 | a::l,_,⟨v,r,h,_,h2⟩=>by subst h;simp[dg7.len h2]
theorem hu7:∀(l:List AV),(zs7 H l).length=l.length
 | []=>rfl
 | a::l=>by simp[zs7,hu7 l]
theorem iqb7:∀{l:List AV}{j:Nat},l.length≤j→nth l j = .junk
 | [],_,_=>rfl
 | _::l,j+1,h=>iqb7 (l:=l) (by simpa using h)
theorem xt7:∀(cs l:List AV) (o j:Nat),nth (pat l o cs) j=if j<l.length then (if o≤j∧j<o+cs.length then nth cs (j-o) else nth l j) else .junk
 | [],l,o,j=>by
  simp only[pat,List.length_nil,Nat.add_zero]
  rw[if_neg (show ¬(o≤j∧j<o) by omega)]
  split
  ·rfl
  ·exact iqb7 (by omega)
 | a::cs,l,o,j=>by
  simp only[pat,List.length_cons]
  rw[xt7 cs _ _ _,fu7,rbb7]
  split
  ·by_cases h1:j=o
   ·subst h1
    rw[if_neg (by omega),if_pos (by omega),if_pos (by omega),Nat.sub_self];rfl
   ·by_cases h2:o+1≤j∧j<o+1+cs.length
    ·rw[if_pos h2,if_pos (by omega),show j-o=(j-(o+1))+1 by omega];rfl
    ·rw[if_neg h2,if_neg (fun h=>h1 h.1),if_neg (by omega)]
  ·rfl
theorem au7 {α:Type}(l:List α) (i j:Nat) (x d:α):(l.set i x).getD j d=if j=i∧i<l.length then x else l.getD j d:=by
 simp only[List.getD_eq_getElem?_getD,List.getElem?_set]
 by_cases e:i=j
 ·subst e
  by_cases h:i<l.length <;> simp[h]
 ·rw[if_neg e,if_neg (fun h=>e h.1.symm)]
theorem tbc7 {sz:Nat}{r:Row}{i o:Nat}{cs:List AV}(hp:(r.put sz i o cs).1) (hi:i<r.len) (ho:o+cs.length≤sz) :
  (r.put sz i o cs).2.len=r.len∧(r.put sz i o cs).2.isBox=r.isBox∧∀i' o',i'<r.len→o'<sz→(r.put sz i o cs).2.get i' o'=(if i'=i∧o≤o'∧o'<o+cs.length then nth cs (o'-o) else r.get i' o')∨(r.put sz i o cs).2.get i' o' = .junk:=by
 unfold Row.put at hp ⊢
 split at hp
 ·rename_i l
  refine⟨rfl,rfl,fun i' o' h1 h2=>?_⟩
  simp only[Row.len]at hi h1
  simp only[Row.get,xt7]
  split
  ·left
   by_cases e:o≤o'∧o'<o+cs.length
   ·rw[if_pos e,if_pos (by omega)]
   ·rw[if_neg e,if_neg (fun h=>e h.2)]
  ·exact .inr rfl
 ·rename_i k l k' n
  obtain⟨rfl,rfl⟩:=hp
  refine⟨by simp[Row.len],rfl,fun i' o' h1 h2=>.inl ?_⟩
  simp only[Row.len]at hi
  simp only[List.length_cons,List.length_nil]at ho
  simp only[Row.get,au7,List.length_cons,List.length_nil]
  by_cases e:i'=i
  ·rw[if_pos ⟨e,hi⟩,if_pos (by omega),show o'-o=0 by omega];rfl
  ·rw[if_neg (fun h=>e h.1),if_neg (fun h=>e h.1)]
 ·rename_i l b
  simp only at hp
  subst hp
  refine⟨by simp[Row.len],rfl,fun i' o' h1 h2=>.inl ?_⟩
  simp only[Row.len]at hi
  simp only[List.length_cons,List.length_nil]at ho
  simp only[Row.get,au7,List.length_cons,List.length_nil]
  by_cases e:i'=i
  ·rw[if_pos ⟨e,hi⟩,if_pos (by omega),show o'-o=0 by omega];rfl
  ·rw[if_neg (fun h=>e h.1),if_neg (fun h=>e h.1)]
 ·rename_i l
  refine⟨by simp[Row.len],rfl,fun i' o' h1 h2=>?_⟩
  simp only[Row.len]at hi
  simp only[Row.get,au7]
  by_cases e:i'=i
  ·rw[if_pos ⟨e,hi⟩,xt7]
   split
   ·left
    by_cases e2:o≤o'∧o'<o+cs.length
    ·rw[if_pos e2,if_pos ⟨e,e2⟩]
    ·rw[if_neg e2,if_neg (fun h=>e2 h.2),e]
   ·exact .inr rfl
  ·rw[if_neg (fun h=>e h.1),if_neg (fun h=>e h.1)]
   exact .inl rfl
 ·rename_i l
  refine⟨by simp[Row.len],rfl,fun i' o' h1 h2=>?_⟩
  simp only[Row.len]at hi
  simp only[Row.get,au7]
  by_cases e:i'=i
  ·rw[if_pos ⟨e,hi⟩,xt7]
   split
   ·left
    by_cases e2:o≤o'∧o'<o+cs.length
    ·rw[if_pos e2,if_pos ⟨e,e2⟩]
    ·rw[if_neg e2,if_neg (fun h=>e2 h.2),e]
   ·exact .inr rfl
  ·rw[if_neg (fun h=>e h.1),if_neg (fun h=>e h.1)]
   exact .inl rfl
 ·exact hp.elim
theorem xzb7 {sz:Nat}{r:Row}{i o:Nat}{cs:List AV}:(r.put sz i o cs).2.one=r.one:=by
 unfold Row.put;split <;> rfl
theorem mn7 (cur:Array Value) (vs:List Value) (b j:Nat) (h:b+vs.length≤cur.size):(cur.toList.take b++vs++cur.toList.drop (b+vs.length)).toArray[j]? = if b≤j∧j<b+vs.length then vs[j-b]? else cur[j]? := by
 have h1:(cur.toList.take b).length=b:=by rw[List.length_take];simp;omega
 rw[List.getElem?_toArray]
 by_cases e1:j<b
 ·rw[List.append_assoc,List.getElem?_append_left (by omega),List.getElem?_take_of_lt e1,if_neg (by omega)];simp
 ·by_cases e2:j<b+vs.length
  ·rw[List.getElem?_append_left (by simp;omega),List.getElem?_append_right (by omega),h1,if_pos (by omega)]
  ·rw[List.getElem?_append_right (by simp;omega),List.getElem?_drop,if_neg (by omega)]
   simp only[List.length_append,h1,Array.getElem?_toList]
   congr 1;omega
theorem xi7 (cur:Array Value) (vs:List Value) (b:Nat) (h:b+vs.length≤cur.size):(cur.toList.take b++vs++cur.toList.drop (b+vs.length)).toArray.size=cur.size:=by
 simp;omega
def spl (cur:Array Value) (b:Nat) (vs:List Value):Array Value:=(cur.toList.take b++vs++cur.toList.drop (b+vs.length)).toArray
theorem hkb7 (M:Mp) (id:Nat):M.upd id (M.phi id) (M.off id)=M:=by
 cases M
 simp only[Mp.upd,Mp.mk.injEq,and_true]
 exact⟨funext fun j=>by by_cases e:j=id <;> simp[e],funext fun j=>by by_cases e:j=id <;> simp[e]⟩
theorem zab7 (h:Rel E M H w) {id:Nat}{t:TypeId}{sz:Nat}{r:Row}(hr:da7 H id = .live false t sz r) {i o:Nat}{cs:List AV}{vs:List Value}(hi:i<r.len) (ho:o+cs.length≤sz) (hone:∀v∈vs,v.oneCell'=true)
  (hl:vs.length=cs.length) (hcs:∀j v,vs[j]? = some v→zk7 M H w r.isBox (nth cs j) v) (hp:(r.put sz i o cs).1) :
  ∃w',Rel E M (ja7 H id (.live false t sz (r.put sz i o cs).2)) w'∧Kp M H w M (ja7 H id (.live false t sz (r.put sz i o cs).2)) w' ∧
   (storeCells ⟨M.phi id,M.off id+i*sz+o,none⟩ vs 0).run P w = .ok () w'∧(w.heap.size≤w'.heap.size∧∀b,b<w.heap.size→b≠M.phi id→w'.heap[b]? = w.heap[b]?):=by
 obtain⟨cur,h1,h2,h3,h4,h5,h6⟩:=h.row _ _ _ _ _ hr
 obtain⟨p1,p2,p3⟩:=tbc7 hp hi ho
 have hfit:M.off id+i*sz+o+vs.length≤cur.size:=by
  have:(i+1)*sz≤r.len*sz:=Nat.mul_le_mul_right _ hi
  rw[Nat.add_mul]at this
  omega
 have hrun:=run_storeCells_at P (M.phi id) (M.off id+i*sz+o) t vs 0 cur w h1 (by omega) hone
 simp only[Nat.add_zero]at hrun
 have hg:w.grownBy (w.setRow (M.phi id) (spl cur (M.off id+i*sz+o) vs)) (some (M.phi id)):=⟨rfl,rfl,rfl,by simp[World.setRow],fun k _ hne=>setRow_other w _ _ _ (fun e=>hne (by rw[e]))⟩
 have hnew:(w.setRow (M.phi id) (spl cur (M.off id+i*sz+o) vs)).heap[M.phi id]? = some (.cells (spl cur (M.off id+i*sz+o) vs) t (0,0)):=setRow_heap w _ cur _ t _ h1
 have hid:=sf7 hr
 have p:Put E M H (ja7 H id (.live false t sz (r.put sz i o cs).2)) w (w.setRow (M.phi id) (spl cur (M.off id+i*sz+o) vs)) (some (M.phi id)) id (M.phi id) (M.off id) t sz (r.put sz i o cs).2 :=
  ⟨hg,fun j hj=>(by rw[rc7,if_neg (fun h=>hj h.1)]),(by rw[rc7,if_pos ⟨rfl,hid⟩]),(by rw[va7];exact Nat.le_refl _),fun e=>(by rw[hr]at e;cases e),
   fun b e=>⟨(Option.some.inj e).symm,t,sz,r,hr⟩,.inl ⟨rfl,t,sz,r,hr⟩,fun fz t2 s2 r2 e=>by
    rw[hr]at e
    cases e
    refine .inr ⟨p1.symm,rfl,rfl,rfl,rfl,fun c hc=>⟨_,hnew, ?_⟩⟩
    rw[h1]at hc
    cases hc
    exact xi7 cur vs _ hfit⟩
 have hk:=p.kp h
 refine⟨w.setRow (M.phi id) (spl cur (M.off id+i*sz+o) vs), ?_,by rw[hkb7]at hk;exact hk,hrun,hg.size,fun b hb hne=>hg.block b hb (fun e=>hne (Option.some.inj e))⟩
 have hrel:=p.rel h ⟨spl cur (M.off id+i*sz+o) vs,hnew,h2,by rw[p1];unfold spl;rw[xi7 _ _ _ hfit];exact h3,by unfold spl;rw[xi7 _ _ _ hfit];exact h4,fun hb=>by unfold spl;rw[xi7 _ _ _ hfit];exact h5 (by rw[← xzb7];exact hb),fun i' hi' o' ho'=>?_⟩
 ·rw[hkb7]at hrel;exact hrel
 ·rw[p1]at hi'
  obtain⟨v,k1,k2,k3⟩:=h6 i' hi' o' ho'
  have hkr:∀{a:AV} {u:Value},zk7 M H w r.isBox a u→zk7 (M.upd id (M.phi id) (M.off id)) (ja7 H id (.live false t sz (r.put sz i o cs).2)) (w.setRow (M.phi id) (spl cur (M.off id+i*sz+o) vs)) (r.put sz i o cs).2.isBox a u:=fun {a u} c=>by
   rw[p2]
   unfold zk7 at c ⊢
   split
   ·rename_i hb;rw[if_pos hb]at c;exact hk _ _ c
   ·rename_i hb;rw[if_neg hb]at c;exact c.keep (p.rho h) (fun _ h=>h)
  have hj:∀u,zk7 (M.upd id (M.phi id) (M.off id)) (ja7 H id (.live false t sz (r.put sz i o cs).2)) (w.setRow (M.phi id) (spl cur (M.off id+i*sz+o) vs)) (r.put sz i o cs).2.isBox .junk u:=fun u=>by
   unfold zk7;split <;> trivial
  by_cases e:i'=i∧o≤o'∧o'<o+cs.length
  ·obtain⟨rfl,e1,e2⟩:=e
   have hlt:o'-o<vs.length:=by omega
   refine⟨vs[o'-o], ?_,hone _ (List.getElem_mem hlt), ?_⟩
   ·unfold spl
    rw[mn7 _ _ _ _ hfit,if_pos (by omega),show M.off id+i'*sz+o'-(M.off id+i'*sz+o)=o'-o by omega,List.getElem?_eq_getElem hlt]
   ·rcases p3 i' o' hi' ho' with q | q
    ·rw[q,if_pos ⟨rfl,e1,e2⟩];exact hkr (hcs _ _ (List.getElem?_eq_getElem hlt))
    ·rw[q];exact hj _
  ·refine⟨v, ?_,k2, ?_⟩
   ·unfold spl
    rw[mn7 _ _ _ _ hfit,if_neg,k1]
    intro hb
    apply e
    have:i'=i:=by
     rcases Nat.lt_trichotomy i' i with hlt | rfl | hlt
     ·have:=Nat.mul_le_mul_right sz hlt
      rw[Nat.succ_mul]at this
      omega
     ·rfl
     ·have:=Nat.mul_le_mul_right sz hlt
      rw[Nat.succ_mul]at this
      omega
    subst this
    exact⟨rfl,by omega,by omega⟩
   ·rcases p3 i' o' hi' ho' with q | q
    ·rw[q,if_neg e];exact hkr k3
    ·rw[q];exact hj _
end
end Go.Proofs.YtabadfkikdefeaaGreat.Ab
