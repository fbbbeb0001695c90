/- Texts of the proof, joined: A2, A3. -/
import Derived.Laws.Tables
import Derived.Test.YtabadfkikdefeaaGreatR1
set_option linter.all false
set_option maxRecDepth 100000
set_option maxHeartbeats 6400000
namespace Go.Proofs.YtabadfkikdefeaaGreat.Ab
open Go.RowKit
def lb7 (rho:Nat→Prop) (w:World):AV→Value→Prop
 | .int k n,v=>v = .int k n
 | .bool b,v=>v = .bool b
 | .flt n,v=>v = .float .f64 n
 | .str s,v=>v = .string s
 | .nilp,v=>v = .pointer none
 | .nils,v=>v = .slice none 0 0
 | .sl n sz f,v=>∃a b off c,v = .slice a n c∧n≤c∧c≤maxLen∧(0<n→a=some ⟨b,off,none⟩∧rho b)∧∀i,i<n→∀j,j<sz→∃u,w.cell? ⟨b,off+i*sz+j,none⟩=some u∧lb7 rho w (f i j) u
 | .rp n f,v=>∃b off,v = .pointer (some ⟨b,off,none⟩)∧rho b∧∀j,j<n→∃u,w.cell? ⟨b,off+j,none⟩=some u∧lb7 rho w (f j) u
 | .ptr ..,_=>False
 | .h ..,_=>False
 | .ws ..,_=>False
 | .wu ..,_=>False
 | .wp ..,_=>False
 | .junk,_=>True
structure Mp where
 phi:Nat→Nat
 off:Nat→Nat
 rho:Nat→Prop
 tau:Nat→Option (TypeId×List CK)
def WSl (M:Mp) (w:World) (t:TypeId) (ck:List CK) (n:Nat) (v:Value):Prop :=
 ∃a c,v = .slice a n c∧n≤c∧c≤maxLen∧(a=none→c=0)∧∀ad,a=some ad→∃b cur,ad=⟨b,0,none⟩∧M.tau b=some (t,ck)∧w.heap[b]? = some (.cells cur t (0,0))∧c*ck.length=cur.size
def WPt (M:Mp) (w:World) (t:TypeId) (ck:List CK) (o:Nat) (v:Value):Prop :=
 ∃b cur i,v = .pointer (some ⟨b,i*ck.length+o,none⟩)∧M.tau b=some (t,ck)∧w.heap[b]? = some (.cells cur t (0,0))∧(i+1)*ck.length≤cur.size
def ip7 (M:Mp) (w:World):CK→Value→Prop
 | .i k,v=>∃n,v = .int k n∧inK k n
 | .s t ck b,v=>∃n,n≤b∧WSl M w t ck n v
structure ox7 (E0:Nat) (M:Mp) (H:List Root) (w:World):Prop where
 new:∀b q,M.tau b=some q→E0≤b∧¬M.rho b
 row:∀b q id fz ty sz r,M.tau b=some q→aa7 H id = .live fz ty sz r→M.phi id≠b
 cells:∀b t ck,M.tau b=some (t,ck)→∃cur,w.heap[b]? = some (.cells cur t (0,0))∧0<ck.length∧(∃n,n*ck.length=cur.size)∧∀k,k<cur.size→∃v,cur[k]? = some v∧∀q,ck[k % ck.length]? = some q→ip7 M w q v
def Con (M:Mp) (H:List Root) (w:World):AV→Value→Prop
 | .ptr id n i o,v=>(id<H.length∧v.oneCell'=true)∧∀fz ty sz r,aa7 H id = .live fz ty sz r→n≤r.len∧(r.len=n→v = .pointer (some ⟨M.phi id,M.off id+i*sz+o,none⟩))
 | .h id st len,v=>(id<H.length∧v.oneCell'=true)∧∀fz ty sz r,aa7 H id = .live fz ty sz r→st+len≤r.len∧(st+len=r.len→∃cap cur ad,v = .slice (some ad) len cap∧len≤cap∧cap≤maxLen∧w.heap[M.phi id]? = some (.cells cur ty (0,0))∧M.off id+(st+cap)*sz=cur.size∧(0<cap→ad=⟨M.phi id,M.off id+st*sz,none⟩))
 | .int k n,v=>lb7 M.rho w (.int k n) v
 | .bool b,v=>lb7 M.rho w (.bool b) v
 | .flt n,v=>lb7 M.rho w (.flt n) v
 | .str s,v=>lb7 M.rho w (.str s) v
 | .nilp,v=>lb7 M.rho w .nilp v
 | .nils,v=>lb7 M.rho w .nils v
 | .sl n sz f,v=>lb7 M.rho w (.sl n sz f) v
 | .rp n f,v=>lb7 M.rho w (.rp n f) v
 | .ws t ck n,v=>WSl M w t ck n v
 | .wu t ck b,v=>∃n,n≤b∧WSl M w t ck n v
 | .wp t ck o,v=>WPt M w t ck o v
 | .junk,_=>True
def mb7 (M:Mp) (H:List Root) (w:World):List AV→List Value→Prop
 | [],vs=>vs=[]
 | a::l,vs=>∃v r,vs=v::r∧Con M H w a v∧mb7 M H w l r
mutual
def ha7 (M:Mp) (H:List Root) (w:World):RV→Value→Prop
 | .c a,v=>Con M H w a v
 | .agg l,v=>∃vs:List Value,v = .agg vs.toArray∧mb7 M H w l vs
 | .fn f caps nb,v=>∃vs:List Value,v = .func (.func f) (vs.take nb).toArray (vs.drop nb).toArray∧mb7 M H w caps vs
 | .tup l,v=>∃vs:List Value,v = .tuple vs.toArray∧ab7 M H w l vs
 | .ifc t x,v=>∃u,v = .iface t u∧ha7 M H w x u
def ab7 (M:Mp) (H:List Root) (w:World):List RV→List Value→Prop
 | [],vs=>vs=[]
 | a::l,vs=>∃v r,vs=v::r∧ha7 M H w a v∧ab7 M H w l r
end
def vd7 (M:Mp) (H:List Root) (w:World) (bx:Bool) (a:AV) (v:Value):Prop:=if bx then Con M H w a v else lb7 M.rho w a v
def iy7 (M:Mp) (H:List Root) (w:World) (b off:Nat) (ty:TypeId) (sz:Nat) (r:Row):Prop :=
 ∃cur,w.heap[b]? = some (.cells cur ty (0,0))∧0<sz∧off+r.len*sz≤cur.size∧(∃cap,off+cap*sz=cur.size)∧(r.one=true→off=0∧cur.size=sz)∧∀i,i<r.len→∀o,o<sz→∃v,cur[off+i*sz+o]? = some v∧v.oneCell'=true∧vd7 M H w r.isBox (r.get i o) v
structure Env where
 W0:World
 rho0:Nat→Prop
 df:List Deferred
 ex:Nat→Prop
 exk:(∀b,¬ex b)∨∀w,jg7 w
def Env.of (w:World) (rho:Nat→Prop):Env:=⟨w,rho,[],fun _=>False,.inl fun _ h=>h⟩
def Env.own (E:Env) (b:Nat):Prop:=E.W0.heap.size≤b∨E.ex b
structure Bel (E:Env) (w:World):Prop where
 os:w.os=E.W0.os
 tape:w.tape=E.W0.tape
 output:w.output=E.W0.output
 size:E.W0.heap.size≤w.heap.size
 block:∀k,k<E.W0.heap.size→¬E.ex k→w.heap[k]? = E.W0.heap[k]?
def uh7 (rho:Nat→Prop) (w:World):Prop:=jg7 w∧∀g x,glV g=some x→rho g
theorem uh7.mono {rho rho':Nat→Prop}{w:World}(h:uh7 rho w) (hr:∀b,rho b→rho' b):uh7 rho' w:=⟨h.1,fun g x e=>hr _ (h.2 g x e)⟩
structure Rel (E:Env) (M:Mp) (H:List Root) (w:World):Prop where
 bel:Bel E w
 low:∀id fz ty sz r,aa7 H id = .live fz ty sz r→E.own (M.phi id)
 row:∀id fz ty sz r,aa7 H id = .live fz ty sz r→iy7 M H w (M.phi id) (M.off id) ty sz r
 froz:∀id ty sz r,aa7 H id = .live true ty sz r→M.rho (M.phi id)
 thaw:∀id ty sz r,aa7 H id = .live false ty sz r→¬M.rho (M.phi id)
 inj:∀i j t s r t' s' r',aa7 H i = .live false t s r→aa7 H j = .live false t' s' r'→M.phi i=M.phi j→i=j
 rlt:∀b,M.rho b→b<w.heap.size
 src:(∀b,M.rho b→E.rho0 b∨E.own b)∧uh7 M.rho E.W0
 tau:ox7 E.W0.heap.size M H w
def Kp (M:Mp) (H:List Root) (w:World) (M':Mp) (H':List Root) (w':World):Prop:=∀a v,Con M H w a v→Con M' H' w' a v
section
variable (P:Program)
def Enters (f : FuncId) : Prop := ∃ fn c, P.funcs[f]? = some fn ∧ (fn.name == "runtime.NumGoroutine") = false ∧ fn.body = some c
def ac7 (g:Option Nat) (w w':World):Prop:=w.heap.size≤w'.heap.size∧∀b,b<w.heap.size→some b≠g→w'.heap[b]? = w.heap[b]?
abbrev Pu:=Option (Option Nat)
def isW:Pu→Prop
 | none=>True
 | some _=>False
def wD:Option Nat→RV→Prop
 | some k,.c (.ptr id _ _ _)=>id=k
 | _,_=>False
def wOn:Pu→RV→Prop
 | none,_=>True
 | some g,p=>wD g p
def aD:Option Nat→RV→Prop
 | some k,.c (.h id _ _)=>id=k
 | _,_=>False
def wAp:Pu→Bool→RV→Prop
 | none,_,_=>True
 | some _,true,.c .nils=>True
 | some g,true,p=>aD g p
 | some _,false,_=>False
def nwk (ty:Ty) (t:TypeId):Bool :=
 match (ty t).k with
 | .sl e=>match (ty e).wk with
  | some (_::_)=>false
  | _=>true
 | _=>true
def ez7 (nf n:Nat) (dd:Option Nat):Pu:=if nf≤n then some dd else none
class Pan where
 px:RV→List Root→Prop
instance noPan:Pan:=⟨fun _ _=>False⟩
def gob7 [Pan] (x:RV) (H:List Root):Prop :=
 match x with
 | .ifc t y=>Pan.px (.ifc t y) H
 | _=>False
def bl7 [Pan] (E:Env) (M:Mp) (H:List Root) (w:World) (ch:List PanicEntry) (w':World):Prop :=
 ∃M' H' r v,ch=[{ v:=v,recovered:=false }]∧Rel E M' H' w'∧Kp M H w M' H' w'∧H.length≤H'.length∧ha7 M' H' w' r v∧Pan.px r H'
def ga7 [Pan] (pu:Pu) (f:FuncId) (args:List RV) (H:List Root) (K:RV→List Root→Prop):Prop :=
 Enters P f∧∀E M w vs,Rel E M H w→ab7 M H w args vs→Calls P f vs.toArray w fun e w'=>(∃M' H' r v,e = .returned v∧Rel E M' H' w'∧Kp M H w M' H' w'∧ha7 M' H' w' r v∧(∀g,pu=some g→ac7 (g.map M.phi) w w')∧H.length≤H'.length∧K r H')∨∃ch,e = .panicked ch∧bl7 E M H w ch w'
end
section
variable (P:Program)
def glb7 (t:TypeId) (f:Nat):RV→Option RV
 | .agg l=>match P.underlying t with
  | some (.struct fs)=>match fs[f]? with
   | some fd=>match P.underlying fd.type with
    | some (.struct _)=>none
    | some (.array _ _)=>none
    | some _=>if fd.offset<l.length then some (.c (nth l fd.offset)) else none
    | none=>none
   | none=>none
  | _=>none
 | _=>none
def cib7 (t:TypeId):Bool :=
 match P.underlying t with
 | some (.interface _)=>false
 | some _=>true
 | none=>false
def qob7 (x:Option RV) (K:RV→Prop):Prop :=
 match x with
 | some r=>K r
 | none=>False
end
section
variable (P:Program) (ty:Ty)
def pcb7 (k:TyK) (H:List Root) (s x:RV) (K:RV→List Root→Prop):Prop :=
 match k with
 | .sl e=>match (ty e).wk with
  | none=>uw7 ty k H s x K
  | some []=>uw7 ty k H s x K
  | some (c::cs)=>appW ty e (c::cs) s x (fun r=>K r H)
 | _=>False
def apK (so:Option ByteArray) (ts:List TypeId) (t u:TypeId) (H:List Root) (s x:RV) (K:RV→List Root→Prop):Prop :=
 match so with
 | some b=>(ts=[t,u]∧(ty u).k = .str)∧inb7 ty (ty t).k H s b K
 | none=>ts=[t,t]∧pcb7 ty (ty t).k H s x K
theorem wz7 {ty:Ty}{ts:List TypeId}{t u:TypeId}{H:List Root}{s x:RV}{K:RV→List Root→Prop}(h:apK ty (strOf x) ts t u H s x K) :
  (∃b,x = .c (.str b)∧(ts=[t,u]∧(ty u).k = .str)∧inb7 ty (ty t).k H s b K)∨(ts=[t,t]∧pcb7 ty (ty t).k H s x K):=by
 cases x with
 | c a=>cases a with
  | str b=>exact .inl ⟨b,rfl,h⟩
  | _=>exact .inr h
 | _=>exact .inr h
theorem bob7 {ty:Ty}{ts:List TypeId}{t u:TypeId}{H:List Root}{s x:RV}{K:RV→List Root→Prop}(h1:ts=[t,t]) (h2:pcb7 ty (ty t).k H s x K):apK ty (strOf x) ts t u H s x K:=by
 have hno:∀b,x ≠ .c (.str b):=by
  rintro b rfl
  have hV:∀k,uw7 ty k H s (.c (.str b)) K→False:=fun k h=>by
   unfold uw7 at h
   split at h
   ·exact h.1.elim
   ·exact h.elim
  unfold pcb7 at h2
  split at h2
  ·split at h2
   ·exact hV _ h2
   ·exact hV _ h2
   ·exact h2.elim
  ·exact h2.elim
 cases x with
 | c a=>cases a with
  | str b=>exact (hno b rfl).elim
  | _=>exact⟨h1,h2⟩
 | _=>exact⟨h1,h2⟩
def ssb7 (e:TyE) (ck:List CK) (o:Nat) (v:RV) (K:Prop):Prop :=
 ((oa7 v).length=e.sz∧0<e.sz∧kN e.k∧o+e.sz≤ck.length∧ckE ((ck.drop o).take e.sz) (oa7 v))∧K
def vjb7 (e:TyE) (H:List Root) (p v:RV) (K:List Root→Prop):Prop :=
 match p with
 | .c (.wp _ ck o)=>ssb7 e ck o v (K H)
 | _=>mv7 e H p v K
def eff [Pan] (pu:Pu) (tm:Tm) (rd:Operand→Bool×RV) (H:List Root) (o:Oper) (K:AS→Prop):Prop :=
 match o.op with
 | .box t x=>((oa7 (rd x).2).length=(ty t).sz∧0<(ty t).sz∧njL (oa7 (rd x).2)=true)∧K ⟨wb7 tm true o.dst (.c (.ptr H.length 1 0 0)),H++[.live false t (ty t).sz (.box (oa7 (rd x).2))]⟩
 | .alloc t=>(0<(ty t).sz∧kN (ty t).k)∧K ⟨wb7 tm true o.dst (.c (.ptr H.length 1 0 0)),H++[.live false t (ty t).sz (.box (ty t).zero)]⟩
 | .store t p v=>wOn pu (rd p).2∧vjb7 (ty t) H (rd p).2 (rd v).2 (fun H=>K ⟨wb7 tm true o.dst (.c .junk),H⟩)
 | .buildSlice t n ps=>match (ty t).k with
  | .sl e=>match (ty e).wk with
   | none=>jjb7 ty e H n (sb7 (fun i=>(i*(ty e).sz,(ty e).sz)) rd (rep (ty e).zero n) ps.toList) (fun r H=>K ⟨wb7 tm true o.dst r,H⟩)
   | some []=>llb7 ty e H n (sb7 (fun i=>(i*(ty e).sz,(ty e).sz)) rd (rep (ty e).zero n) ps.toList) (fun r H=>K ⟨wb7 tm true o.dst r,H⟩)
   | some (c::cs)=>job7 ty e (c::cs) n (sb7 (fun i=>(i*(ty e).sz,(ty e).sz)) rd (rep (ty e).zero n) ps.toList) (fun r=>K ⟨wb7 tm true o.dst r,H⟩)
  | _=>False
 | .makeSlice t n c=>obb7 ty (ty t).k H (rd n).2 (rd c).2 (fun r H=>K ⟨wb7 tm true o.dst r,H⟩)
 | .call c=>match c.callee with
  | .builtin .append=>match c.args.toList with
   | [s,x]=>wAp pu (nwk ty (c.argTypes.getD 0 0)) (rd s).2∧apK ty (strOf (rd x).2) c.argTypes.toList (c.argTypes.getD 0 0) (c.argTypes.getD 1 0) H (rd s).2 (rd x).2 (fun r H=>K ⟨wb7 tm true o.dst r,H⟩)
   | _=>False
  | .value f=>match (rd f).2 with
   | .fn f caps nb=>ga7 P pu f ((caps.take nb).map .c++(rds rd c.args.toList++(caps.drop nb).map .c)) H (fun r H=>K ⟨wb7 tm true o.dst r,H⟩)
   | _=>False
  | _=>False
 | .field t x f=>qob7 (glb7 P t f (rd x).2) (fun r=>K ⟨wb7 tm true o.dst r,H⟩)
 | .makeInterface t x=>cib7 P t=true∧K ⟨wb7 tm true o.dst (.ifc t (rd x).2),H⟩
 | .panic x=>gob7 (rd x).2 H
 | _=>False
def ljb7:List Oper→Nat→Option Oper
 | [],_=>none
 | o::_,0=>some o
 | _::l,n+1=>ljb7 l n
def guardOf (tm:Tm) (ops:Array Oper):Option (Nat×Bool)→Option Bool
 | none=>some true
 | some (j,want)=>match ljb7 ops.toList j with
  | some o=>match o.dst with
   | some d=>match lk tm d with
    | (g,.c (.bool b))=>some (g&&(if want then b else !b))
    | _=>none
   | none=>none
  | none=>none
def iv7 (H:List Root) (k:Nat):Prop :=
 match aa7 H k with
 | .live fz _ _ r=>fz=false∧r.len=1
 | .dead=>False
def stb (dd:Option Nat) (A:Nat→Prop):Prop :=
 match dd with
 | none=>True
 | some k=>A k
def rr7 (g:Option Bool) (dd:Option Nat) (σ:AS) (o:Oper) (K:AS→Prop):Prop :=
 match g with
 | none=>False
 | some g=>gOk g (bm7 σ.rd o.op)∧stb dd (fun k=>iv7 σ.H k∧(g=true→(opV ty g σ.rd (ca7 σ.H k .dead) o.op).1))∧(g=true→(opV ty g σ.rd σ.H o.op).1)∧K ⟨wb7 σ.tm g o.dst (opV ty g σ.rd σ.H o.op).2,σ.H⟩
def agb7 (g:Bool) (A B:Prop):Prop:=(g=true→A)∧(g=false→B)
def imb7 [Pan] (g:Option Bool) (pu:Pu) (σ:AS) (o:Oper) (K:AS→Prop):Prop :=
 match g with
 | none=>False
 | some g=>gOk g (bm7 σ.rd o.op)∧agb7 g (eff P ty pu σ.tm σ.rd σ.H o K) (K ⟨wb7 σ.tm g o.dst (.c .junk),σ.H⟩)
def mk7 [Pan] (pu:Pu) (dd:Option Nat) (ops:Array Oper) (σ:AS) (o:Oper) (K:AS→Prop):Prop :=
 if isV o.op then rr7 ty (guardOf σ.tm ops o.guard) dd σ o K
 else stb dd (iv7 σ.H)∧imb7 P ty (guardOf σ.tm ops o.guard) pu σ o K
def xl7 [Pan] (nf:Nat) (dd:Option Nat) (ops:Array Oper):List Oper→(AS→Prop)→AS→Prop
 | [],K,σ=>K σ
 | o::l,K,σ=>mk7 P ty (ez7 nf l.length dd) dd ops σ o (xl7 nf dd ops l K)
def pick (ops:Array Oper):List Nat→List Oper
 | []=>[]
 | i::l=>ops.getD i default::pick ops l
def wi7 (n:AS→Prop) (Q:Exit→AS→Prop):Exit→AS→Prop
 | .normal,σ=>n σ
 | e,σ=>Q e σ
def inB (id:Nat) (Q:Exit→AS→Prop):Exit→AS→Prop
 | .exit j,σ=>if j=id then Q .normal σ else Q (.exit j) σ
 | e,σ=>Q e σ
def sbb7 (v:Bool×RV) (A B:Prop):Prop :=
 match v with
 | (true,.c (.bool b))=>(b=true→A)∧(b=false→B)
 | _=>False
def asg:Code→List Nat
 | .region _ ops _=>ops.toList.filterMap (·.dst)
 | .seq a b=>asg a++asg b
 | .cond _ a b=>asg a++asg b
 | .block _ a=>asg a
 | .loop a=>asg a
 | .scope a=>asg a
 | .rangeFunc _ _ a b=>asg a++asg b
 | _=>[]
def wdb7 (c:Code) (fx:List Nat):Bool:=fx.all fun t => !(asg c).contains t
def gets (tm:Tm):List Nat→List (Bool×RV)
 | []=>[]
 | t::l=>lk tm t::gets tm l
def gh7:List RV→List (Bool×RV)
 | []=>[]
 | v::l=>(true,v)::gh7 l
def mq7:List Nat→List RV→Tm→Tm
 | t::l,v::vs,tm=>(t,true,v)::mq7 l vs tm
 | _,_,tm=>tm
def fxT (tm:Tm):List Nat→Tm
 | []=>[]
 | t::l=>(t,lk tm t)::fxT tm l
def AV.scp (k:Nat):AV→Bool
 | .ptr id .. => decide (id<k)
 | .h id .. => decide (id<k)
 | _=>true
def pw7 (k:Nat):List AV→Bool
 | []=>true
 | a::l=>a.scp k&&pw7 k l
mutual
def vmb7 (k:Nat):RV→Bool
 | .c a=>a.scp k
 | .agg l=>pw7 k l
 | .fn _ l _=>pw7 k l
 | .tup l=>wq7 k l
 | .ifc _ x=>vmb7 k x
def wq7 (k:Nat):List RV→Bool
 | []=>true
 | a::l=>vmb7 k a&&wq7 k l
end
def ns7 (k:Nat):List (List AV)→Bool
 | []=>true
 | l::m=>pw7 k l&&ns7 k m
def vv7 (k:Nat):List Root→Bool
 | []=>true
 | .live _ _ _ (.box l)::H=>pw7 k l&&vv7 k H
 | .live _ _ _ (.own l)::H=>ns7 k l&&vv7 k H
 | _::H=>vv7 k H
def pos:List Nat→Nat→Nat→Option Nat
 | [],_,_=>none
 | a::l,id,k=>if a=id then some k else pos l id (k+1)
def jbb7 (n:Nat) (ids:List Nat) (id:Nat):Option Nat:=if id<n then some id else pos ids id n
def acb7 (m i o:Nat):Option Nat→AV
 | some j=>.ptr j m i o
 | none=>.junk
def mkH (st len:Nat):Option Nat→AV
 | some j=>.h j st len
 | none=>.junk
def im7 (n:Nat) (ids:List Nat):AV→AV
 | .ptr id m i o=>acb7 m i o (jbb7 n ids id)
 | .h id st len=>mkH st len (jbb7 n ids id)
 | x=>x
def xx7 (n:Nat) (ids:List Nat):List AV→List AV
 | []=>[]
 | x::l=>im7 n ids x::xx7 n ids l
mutual
def zfb7 (n:Nat) (ids:List Nat):RV→RV
 | .c a=>.c (im7 n ids a)
 | .agg l=>.agg (xx7 n ids l)
 | .fn f l nb=>.fn f (xx7 n ids l) nb
 | .tup l=>.tup (ddb7 n ids l)
 | .ifc t x=>.ifc t (zfb7 n ids x)
def ddb7 (n:Nat) (ids:List Nat):List RV→List RV
 | []=>[]
 | x::l=>zfb7 n ids x::ddb7 n ids l
end
def go7 (n:Nat) (ids:List Nat):List (List AV)→List (List AV)
 | []=>[]
 | l::m=>xx7 n ids l::go7 n ids m
def er7 (n:Nat) (ids:List Nat):Row→Row
 | .box l=>.box (xx7 n ids l)
 | .own l=>.own (go7 n ids l)
 | r=>r
def nd7 (n:Nat) (ids:List Nat):Root→Root
 | .live fz t sz r=>.live fz t sz (er7 n ids r)
 | .dead=>.dead
def ts7 (n:Nat) (ids:List Nat):List Root→List Root
 | []=>[]
 | r::l=>nd7 n ids r::ts7 n ids l
def ao7 (n:Nat) (ids:List Nat) (H:List Root):List Nat→List Root
 | []=>[]
 | i::l=>nd7 n ids (aa7 H i)::ao7 n ids H l
def hp7 (n:Nat) (ids:List Nat) (H:List Root):List Root:=ts7 n ids (H.take n)++ao7 n ids H ids
def oeb7 (n:Nat) (ids:List Nat):Tm→Tm
 | []=>[]
 | (k,g,v)::l=>(k,g,zfb7 n ids v)::oeb7 n ids l
def renG (n:Nat) (ids:List Nat):List (Bool×RV)→List (Bool×RV)
 | []=>[]
 | (g,v)::l=>(g,zfb7 n ids v)::renG n ids l
def okI (n:Nat):List Nat→Bool
 | []=>true
 | i::l=>decide (n≤i) && !l.contains i&&okI n l
def slb7 (body:(Exit→AS→Prop)→AS→Prop) (c:Code) (Q:Exit→AS→Prop) (σ:AS):Prop :=
 ∃(ι:Type) (fx vy:List Nat) (inv:ι→Prop) (vals:ι→List RV) (H:ι→List Root) (μ:ι→Nat),
  wdb7 c fx=true∧(∃s,inv s∧gets σ.tm vy=gh7 (vals s)∧σ.H=H s)∧(∀s,inv s→(H s).length=σ.H.length∧wq7 σ.H.length (vals s)=true∧vv7 σ.H.length (H s)=true∧(vals s).length=vy.length) ∧
  ∀s,inv s→body (wi7 (fun σ'=>∃s',inv s'∧gets σ'.tm vy=gh7 (vals s')∧σ'.H.take σ.H.length=H s'∧μ s'<μ s) Q) ⟨mq7 vy (vals s) (fxT σ.tm fx),H s⟩
def cfb7 (body:(Exit→AS→Prop)→AS→Prop) (c:Code) (Q:Exit→AS→Prop) (σ:AS):Prop :=
 ∃(ι:Type) (d:Nat) (fx vy:List Nat) (inv:ι→Prop) (vals:ι→List RV) (H:ι→List Root) (μ:ι→Nat),
  wdb7 c fx=true∧(∃s,inv s∧gets σ.tm vy=gh7 (vals s)∧σ.H++List.replicate d .dead=H s)∧(∀s,inv s→(H s).length=σ.H.length+d) ∧
  ∀s,inv s→body (wi7 (fun σ'=>∃s' ids,inv s'∧(ids.length=d∧okI σ.H.length ids=true)∧renG σ.H.length ids (gets σ'.tm vy)=gh7 (vals s')∧hp7 σ.H.length ids σ'.H=H s'∧μ s'<μ s) Q) ⟨mq7 vy (vals s) (fxT σ.tm fx),H s⟩
def ht7 [Pan] (ops:Array Oper) (q:List Nat×Nat×Option Nat) (K:AS→Prop) (σ:AS):Prop :=
 match q with
 | ([],nf,dd)=>xl7 P ty nf dd ops ops.toList K σ
 | (l,nf,dd)=>xl7 P ty nf dd ops (pick ops l) K σ
inductive Tw where
 | d
 | no
 | br (w i:Nat) (t r:Tw)
inductive DD where
 | r (k:Nat)
 | t (ks:List Nat) (T:Tw) (r fins:List Nat)
def znb7:Root→Nat
 | .live _ _ _ r=>r.len
 | .dead=>0
def ihb7:Root→Prop
 | .live fz _ _ r=>fz=false∧0<r.len
 | .dead=>True
def jkb7 (n:Nat):Root→Prop
 | .live _ _ _ r=>r.len=n∧0<r.len
 | .dead=>True
def gR (k:Nat):Root→Option Nat
 | .live .. => some k
 | .dead=>none
def puW (w:Nat) (H:List Root):Pu :=
 match w with
 | 0=>some none
 | 1=>none
 | k+2=>some (gR k (aa7 H k))
def ttb7 (w:Nat) (H0 H:List Root):Prop :=
 match w with
 | k+2=>jkb7 (znb7 (aa7 H0 k)) (aa7 H k)
 | _=>True
def fl7 (H:List Root):List Nat→Prop
 | []=>True
 | k::ks=>ihb7 (aa7 H k)∧fl7 H ks
def killL:List Nat→List Root→List Root
 | [],H=>H
 | k::ks,H=>killL ks (ca7 H k .dead)
def wt7 (g:Option Bool) (ks:List Nat) (σ:AS) (o:Oper) (K:AS→Prop):Prop :=
 match g with
 | none=>False
 | some g=>gOk g (bm7 σ.rd o.op)∧(g=true→(opV ty g σ.rd (killL ks σ.H) o.op).1)∧(g=true→(opV ty g σ.rd σ.H o.op).1)∧K ⟨wb7 σ.tm g o.dst (opV ty g σ.rd σ.H o.op).2,σ.H⟩
def mo7 (ops:Array Oper) (ks:List Nat):List Oper→(AS→Prop)→AS→Prop
 | [],K,σ=>K σ
 | o::l,K,σ=>wt7 ty (guardOf σ.tm ops o.guard) ks σ o (mo7 ops ks l K)
def jf7 [Pan] (ops:Array Oper) (H0:List Root) (r:List Nat):Tw→(AS→Prop)→AS→Prop
 | .d,K,σ=>xl7 P ty r.length none ops (pick ops r) K σ
 | .no,_,_=>True
 | .br w i t q,K,σ=>(ttb7 w H0 σ.H∧mk7 P ty (puW w σ.H) none ops σ (ops.getD i default) (jf7 ops H0 r t K))∧jf7 ops H0 r q K σ
def ojb7 [Pan] (ops:Array Oper) (q:List Nat×Nat×Option DD) (K:AS→Prop) (σ:AS):Prop :=
 match q with
 | (lq,_,some (.t ks T r _))=>fl7 σ.H ks∧mo7 ty ops ks (pick ops lq) (jf7 P ty ops σ.H r T K) σ
 | (l,nf,some (.r k))=>ht7 P ty ops (l,nf,some k) K σ
 | (l,nf,none)=>ht7 P ty ops (l,nf,none) K σ
def if7 (body:(Exit→AS→Prop)→AS→Prop):List Unit→(Exit→AS→Prop)→AS→Prop
 | [],_,_=>False
 | _::l,Q,σ=>body (wi7 (if7 body l Q) Q) σ
def awp [Pan] (ord:Nat→List Nat×Nat×Option DD):Code→(Exit→AS→Prop)→AS→Prop
 | .skip,Q,σ=>Q .normal σ
 | .region id ops dr,Q,σ=>if dr then ojb7 P ty ops (ord id) (Q .normal) σ else xl7 P ty ops.toList.length none ops ops.toList (Q .normal) σ
 | .seq a b,Q,σ=>awp ord a (wi7 (awp ord b Q) Q) σ
 | .cond c a b,Q,σ=>sbb7 (σ.rd c) (awp ord a Q σ) (awp ord b Q σ)
 | .block id a,Q,σ=>awp ord a (inB id Q) σ
 | .exit id,Q,σ=>Q (.exit id) σ
 | .ret,Q,σ=>Q .ret σ
 | .loop c,Q,σ=>slb7 (awp ord c) c Q σ∨cfb7 (awp ord c) c Q σ∨∃l:List Unit,if7 (awp ord c) l Q σ
 | _,_,_=>False
def au7 (ops:Array Oper) (nf:Nat):List Nat→List (List Nat×Nat×Bool)
 | []=>[]
 | i::l=>match isV (ops.getD i default).op&&decide (nf≤l.length),au7 ops nf l with
  | true,(q,j,false)::r=>(i::q,j,false)::r
  | _,r=>([],i,decide (l.length<nf))::r
end
section heap
theorem ed7 (H:List Root) (x:Root) (id:Nat):aa7 (H++[x]) id=if id=H.length then x else aa7 H id:=by
 induction H generalizing id with
 | nil=>cases id <;> simp[aa7]
 | cons a l ih=>cases id with
  | zero=>simp[aa7]
  | succ n=>simp only[List.cons_append,aa7,ih,List.length_cons];simp
theorem uf7 {H:List Root}{id:Nat}(h:H.length≤id):aa7 H id = .dead:=by
 induction H generalizing id with
 | nil=>rfl
 | cons a l ih=>cases id with
  | zero=>simp at h
  | succ n=>exact ih (by simpa using h)
theorem yb7 {H:List Root}{id:Nat}{fz:Bool}{ty:TypeId}{sz:Nat}{r:Row}(h:aa7 H id = .live fz ty sz r):id<H.length:=by
 rcases Nat.lt_or_ge id H.length with h1 | h1
 ·exact h1
 ·rw[uf7 h1]at h;cases h
theorem da7 (H:List Root) (id:Nat) (x:Root):(ca7 H id x).length=H.length:=by
 induction H generalizing id with
 | nil=>rfl
 | cons a l ih=>cases id <;> simp[ca7,ih]
theorem jb7 (H:List Root) (id:Nat) (x:Root) (j:Nat):aa7 (ca7 H id x) j=if j=id∧id<H.length then x else aa7 H j:=by
 induction H generalizing id j with
 | nil=>simp[ca7,aa7]
 | cons a l ih=>cases id <;> cases j <;> simp[ca7,aa7,ih]
theorem ke7 (H:List Root) (k id:Nat):aa7 (H.take k) id=if id<k then aa7 H id else .dead:=by
 induction H generalizing k id with
 | nil=>simp[aa7]
 | cons a l ih=>cases k <;> cases id <;> simp[aa7,ih]
end heap
theorem lb7.keep {rho rho':Nat→Prop}{w w':World}(hb:∀b,rho b→w'.heap[b]? = w.heap[b]?) (hr:∀b,rho b→rho' b):∀{a:AV}{v:Value},lb7 rho w a v→lb7 rho' w' a v
 | .int ..,_,h=>h
 | .bool _,_,h=>h
 | .flt _,_,h=>h
 | .str _,_,h=>h
 | .nilp,_,h=>h
 | .nils,_,h=>h
 | .junk,_,_=>trivial
 | .ws ..,_,h=>h.elim
 | .wu ..,_,h=>h.elim
 | .wp ..,_,h=>h.elim
 | .sl n sz f,v,⟨a,b,off,c,h1,h2,h3,h4,h5⟩=>⟨a,b,off,c,h1,h2,h3,fun hn=>⟨(h4 hn).1,hr _ (h4 hn).2⟩,fun i hi j hj=>by
   obtain⟨u,hu,hc⟩:=h5 i hi j hj
   refine⟨u, ?_,lb7.keep hb hr hc⟩
   rw[← hu]
   exact World.cell?_of_block (hb _ (h4 (by omega)).2)⟩
 | .rp n f,v,⟨b,off,h1,h2,h3⟩=>⟨b,off,h1,hr _ h2,fun j hj=>by
   obtain⟨u,hu,hc⟩:=h3 j hj
   refine⟨u, ?_,lb7.keep hb hr hc⟩
   rw[← hu]
   exact World.cell?_of_block (hb _ h2)⟩
def fg7 (M:Mp) (w:World) (M':Mp) (w':World):Prop :=
 (∀b q,M.tau b=some q→M'.tau b=some q)∧∀b t ck cur,M.tau b=some (t,ck)→w.heap[b]? = some (.cells cur t (0,0))→∃cur',w'.heap[b]? = some (.cells cur' t (0,0))∧cur'.size=cur.size
theorem fg7.of {M M':Mp}{w w':World}(h:M'.tau=M.tau) (hb:∀b q,M.tau b=some q→w'.heap[b]? = w.heap[b]?):fg7 M w M' w' :=
 ⟨fun b q hq=>by rw[h];exact hq,fun b t ck cur hq hc=>⟨cur,by rw[hb _ _ hq];exact hc,rfl⟩⟩
theorem WSl.keep {M M':Mp}{w w':World}(k:fg7 M w M' w') {t:TypeId}{ck:List CK}{n:Nat}{v:Value}(h:WSl M w t ck n v):WSl M' w' t ck n v:=by
 obtain⟨a,c,h1,h2,h3,h4,h5⟩:=h
 refine⟨a,c,h1,h2,h3,h4,fun ad e=>?_⟩
 obtain⟨b,cur,e1,e2,e3,e4⟩:=h5 ad e
 obtain⟨cur',k1,k2⟩:=k.2 b t ck cur e2 e3
 exact⟨b,cur',e1,k.1 _ _ e2,k1,by omega⟩
theorem WPt.keep {M M':Mp}{w w':World}(k:fg7 M w M' w') {t:TypeId}{ck:List CK}{o:Nat}{v:Value}(h:WPt M w t ck o v):WPt M' w' t ck o v:=by
 obtain⟨b,cur,i,e1,e2,e3,e4⟩:=h
 obtain⟨cur',k1,k2⟩:=k.2 b t ck cur e2 e3
 exact⟨b,cur',i,e1,k.1 _ _ e2,k1,by omega⟩
theorem ip7.keep {M M':Mp}{w w':World}(k:fg7 M w M' w') {q:CK}{v:Value}(h:ip7 M w q v):ip7 M' w' q v:=by
 cases q with
 | i kk=>exact h
 | s t ck b=>obtain⟨n,hb,h⟩:=h;exact⟨n,hb,h.keep k⟩
theorem ox7.lt {E0:Nat}{M:Mp}{H:List Root}{w:World}(h:ox7 E0 M H w) {b:Nat}{q:TypeId×List CK}(hq:M.tau b=some q):b<w.heap.size:=by
 obtain⟨t,ck⟩:=q
 obtain⟨cur,h1,-⟩:=h.cells b t ck hq
 exact (Array.getElem?_eq_some_iff.1 h1).1
theorem ox7.keep {E0:Nat}{M M':Mp}{H H':List Root}{w w':World}(h:ox7 E0 M H w) (ht:M'.tau=M.tau) (hb:∀b q,M.tau b=some q→w'.heap[b]? = w.heap[b]?) (hr:∀b q,M.tau b=some q→¬M'.rho b)
  (hp:∀b q id fz ty sz r,M.tau b=some q→aa7 H' id = .live fz ty sz r→M'.phi id≠b):ox7 E0 M' H' w':=by
 have k:=fg7.of (w:=w) (w':=w') ht hb
 refine⟨fun b q hq=>?_,fun b q id fz ty sz r hq hl=>?_,fun b t ck hq=>?_⟩
 ·rw[ht]at hq;exact⟨(h.new b q hq).1,hr b q hq⟩
 ·rw[ht]at hq;exact hp b q id fz ty sz r hq hl
 ·rw[ht]at hq
  obtain⟨cur,h1,h2,h3,h4⟩:=h.cells b t ck hq
  refine⟨cur,by rw[hb b _ hq];exact h1,h2,h3,fun i hi=>?_⟩
  obtain⟨v,g1,g2⟩:=h4 i hi
  exact⟨v,g1,fun q hq=>(g2 q hq).keep k⟩
theorem Con.of0 {M:Mp}{H:List Root}{w:World}{a:AV}{v:Value}(h:lb7 M.rho w a v):Con M H w a v:=by
 cases a <;> first | exact h | exact h.elim | trivial
theorem Con.to0 {M:Mp}{H:List Root}{w:World}{a:AV}{v:Value}(hf:a.fr=true) (h:Con M H w a v):lb7 M.rho w a v:=by
 cases a <;> first | exact h | (simp[AV.fr]at hf)
section
variable {M:Mp} {H:List Root} {w:World}
theorem mb7.of_getElem:∀{l:List AV}{vs:List Value},vs.length=l.length→(∀i v,vs[i]? = some v→Con M H w (nth l i) v)→mb7 M H w l vs
 | [],[],_,_=>rfl
 | a::l,v::vs,hl,h=>⟨v,vs,rfl,h 0 v rfl,mb7.of_getElem (by simpa using hl) fun i u hu=>h (i+1) u (by simpa using hu)⟩
 | [],_::_,h,_=>by simp at h
 | _::_,[],h,_=>by simp at h
theorem mb7.len:∀{l:List AV}{vs:List Value},mb7 M H w l vs→vs.length=l.length
 | [],_,h=>by cases h;rfl
 | a::l,_,⟨v,r,h,_,h2⟩=>by subst h;simp[mb7.len h2]
theorem mb7.get:∀{l:List AV}{vs:List Value},mb7 M H w l vs→∀i v,vs[i]? = some v→Con M H w (nth l i) v
 | [],_,h,i,v,hv=>by cases h;simp at hv
 | a::l,_,⟨v,r,h,h1,h2⟩,0,u,hu=>by subst h;cases hu;exact h1
 | a::l,_,⟨v,r,h,h1,h2⟩,i+1,u,hu=>by subst h;exact mb7.get h2 i u (by simpa using hu)
theorem xt7 (f:Nat→AV):∀n k,(tab f k n).length=n
 | 0,_=>rfl
 | n+1,k=>by simp[tab,xt7 f n]
theorem jo7 (f:Nat→AV):∀n k i,i<n→nth (tab f k n) i=f (k+i)
 | n+1,k,0,_=>rfl
 | n+1,k,i+1,h=>by simp only[tab,nth];rw[jo7 f n (k+1) i (by omega)];congr 1;omega
theorem zi7:∀(l:List AV) (i:Nat) (a:AV),(zbb7 l i a).length=l.length
 | [],_,_=>rfl
 | _::_,0,_=>rfl
 | _::l,i+1,a=>by simp[zbb7,zi7 l i a]
theorem po7:∀(l:List AV) (i:Nat) (a:AV) (j:Nat),nth (zbb7 l i a) j=if j=i∧i<l.length then a else nth l j
 | [],i,a,j=>by simp[zbb7,nth]
 | b::l,0,a,0=>by simp[zbb7,nth]
 | b::l,0,a,j+1=>by simp[zbb7,nth]
 | b::l,i+1,a,0=>by simp[zbb7,nth]
 | b::l,i+1,a,j+1=>by simp[zbb7,nth,po7 l i a j]
theorem nt7:∀(cs l:List AV) (o:Nat),(pat l o cs).length=l.length
 | [],_,_=>rfl
 | a::cs,l,o=>by simp[pat,nt7 cs,zi7]
theorem tz7:∀(cs l:List AV) (o j:Nat),o+cs.length≤l.length→nth (pat l o cs) j=if o≤j∧j<o+cs.length then nth cs (j-o) else nth l j
 | [],l,o,j,_=>by simp only[pat,List.length_nil,Nat.add_zero];rw[if_neg (by omega)]
 | a::cs,l,o,j,h=>by
  simp only[List.length_cons]at h
  simp only[pat,List.length_cons]
  rw[tz7 cs _ _ _ (by rw[zi7];omega),po7]
  by_cases h1:j=o
  ·subst h1
   rw[if_neg (by omega),if_pos ⟨rfl,by omega⟩,if_pos (by omega),Nat.sub_self];rfl
  ·by_cases h2:o+1≤j∧j<o+1+cs.length
   ·rw[if_pos h2,if_pos (by omega),show j-o=(j-(o+1))+1 by omega];rfl
   ·rw[if_neg h2,if_neg (fun h=>h1 h.1),if_neg (by omega)]
theorem lm7:∀(l m:List AV) (i:Nat),nth (l++m) i=if i<l.length then nth l i else nth m (i-l.length)
 | [],m,i=>by simp
 | a::l,m,0=>by simp[nth]
 | a::l,m,i+1=>by simp[nth,lm7 l m i]
end
def Seen (M:Mp) (H:List Root) (b:Nat):Prop:=M.rho b∨(∃id fz ty sz r,aa7 H id = .live fz ty sz r∧b=M.phi id)∨∃q,M.tau b=some q
def Same (M:Mp) (H:List Root) (w w':World):Prop:=∀b,Seen M H b→w'.heap[b]? = w.heap[b]?
def zvB:AV→Value→Bool
 | .int k n,.int k' n'=>decide (k=k')&&decide (n=n')
 | .bool b,.bool b'=>b==b'
 | .flt n,.float .f64 n'=>decide (n=n')
 | .str s,.string s'=>decide (s.data.toList=s'.data.toList)
 | .nilp,.pointer none=>true
 | .nils,.slice none 0 0=>true
 | _,_=>false
def zvL:List AV→List Value→Bool
 | [],[]=>true
 | a::l,v::vs=>zvB a v&&zvL l vs
 | _,_=>false
theorem kt7 {rho:Nat→Prop}{w:World}{a:AV}{v:Value}(h:zvB a v=true):lb7 rho w a v:=by
 cases a <;> cases v <;> simp[zvB]at h <;> try exact h.elim
 case int.int=>obtain⟨rfl,rfl⟩:=h;rfl
 case bool.bool=>subst h;rfl
 case flt.float k _=>cases k <;> simp[zvB]at h;subst h;rfl
 case str.string s t =>
  obtain⟨⟨s⟩⟩:=s;obtain⟨⟨t⟩⟩:=t
  simp at h;subst h;rfl
 case nilp.pointer p=>cases p <;> simp[zvB]at h;rfl
 case nils.slice a l c =>
  cases a with
  | some a=>simp[zvB]at h
  | none =>
   cases l with
   | succ _=>simp[zvB]at h
   | zero=>cases c with
    | succ _=>simp[zvB]at h
    | zero=>rfl
theorem ks7 {a:AV}{v:Value}(h:zvB a v=true):v.oneCell'=true:=by
 cases a <;> cases v <;> first | rfl | simp[zvB]at h
theorem gk7:∀{l:List AV}{vs:List Value},zvL l vs=true→vs.length=l.length
 | [],[],_=>rfl
 | _::_,_::_,h=>by simp[zvL]at h;simp[gk7 h.2]
 | [],_::_,h=>by simp[zvL]at h
 | _::_,[],h=>by simp[zvL]at h
theorem tk7:∀{l:List AV}{vs:List Value},zvL l vs=true→∀i v,vs[i]? = some v→zvB (nth l i) v=true
 | [],[],_,i,v,hv=>by simp at hv
 | _::_,_::_,h,0,v,hv=>by simp[zvL]at h;cases hv;exact h.1
 | _::_,_::_,h,i+1,v,hv=>by simp[zvL]at h;exact tk7 h.2 i v (by simpa using hv)
 | [],_::_,h,_,_,_=>by simp[zvL]at h
 | _::_,[],h,_,_,_=>by simp[zvL]at h
def kOk (P:Program) (ty:Ty) (t:TypeId):TyK→Prop
 | .i k=>P.underlying t=some (.int k)
 | .b=>P.underlying t=some .bool
 | .str=>P.underlying t=some .string
 | .sc=>∃d,P.underlying t=some d∧(match d with | .struct _ | .array _ _=>False | _=>True)
 | .st fs=>∃fields,P.underlying t=some (.struct fields)∧fields.toList.map (fun f=>(f.offset,P.cellsOf f.type))=fs∧∀f∈fields.toList,(P.info? f.type).isSome=true
 | .ar n esz=>∃e,P.underlying t=some (.array n e)∧P.cellsOf e=esz∧(P.info? e).isSome=true
 | .sl e=>P.underlying t=some (.slice e)∧(match (ty e).k with | .no=>False | _=>True)
 | .no=>True
structure ekb7 (P:Program) (ty:Ty) (t:TypeId):Prop where
 k:kOk P ty t (ty t).k
 i:(match (ty t).k with | .no=>True | _=>∃i z,P.info? t=some i∧i.size=(ty t).sz∧i.bytes=(ty t).bytes∧i.zero=some z∧zvL (ty t).zero z.cells.toList=true∧z.cells.size=(ty t).sz)
def qb7 (P:Program) (ty:Ty):Prop:=∀t,ekb7 P ty t
theorem qb7.info {P:Program}{ty:Ty}(h:qb7 P ty) {t:TypeId}(hk:(match (ty t).k with | .no=>False | _=>True)):∃i z,P.info? t=some i∧i.size=(ty t).sz∧i.bytes=(ty t).bytes∧i.zero=some z∧zvL (ty t).zero z.cells.toList=true∧z.cells.size=(ty t).sz:=by
 have:=(h t).i
 cases hh:(ty t).k <;> simp only[hh]at this hk <;> first | exact this | exact hk.elim
structure St (E:Env) (nt:Nat) (M:Mp) (σ:AS) (a:Act) (w:World):Prop where
 rel:Rel E M σ.H w
 tms:∀t,(lk σ.tm t).1=true→ha7 M σ.H w (lk σ.tm t).2 (a.tmps.getD t undef)
 off:∀t,(lk σ.tm t).1=false→a.tmps.getD t undef=undef
 sz:a.tmps.size=nt
 df:a.defers=E.df
section val
variable {P:Program} {ty:Ty} {E:Env} {nt:Nat} {M:Mp} {σ:AS} {a:Act} {w:World}
theorem bx7 (v:Value):ha7 M σ.H w (nl7 v) v:=by
 unfold nl7
 split <;> first | (simp only[ha7];first | rfl | trivial)
theorem St.rd (h:St E nt M σ a w) {x:Operand}(hg:(σ.rd x).1=true):ha7 M σ.H w (σ.rd x).2 (a.eval x):=by
 cases x with
 | tmp t=>exact h.tms t hg
 | const v=>exact bx7 v
 | global g=>trivial
 | func f=>exact⟨[],rfl,rfl⟩
theorem ma7 {k:IntKind}{n:Int}{v:Value}(h:ha7 M σ.H w (.c (.int k n)) v):v = .int k n:=h
theorem uo7 {b:Bool}{v:Value}(h:ha7 M σ.H w (.c (.bool b)) v):v = .bool b:=h
theorem ei7 {k:IntKind}{n:Int}(h:inK k n):k.wrap n=n:=by
 cases k <;> simp only[inK]at h <;> simp only[IntKind.wrap,IntKind.signed,IntKind.bits,Int.reducePow,Nat.reduceSub,Bool.true_and,Bool.false_and,decide_eq_true_eq,Bool.false_eq_true,if_false]
 all_goals (try split)
 all_goals (try simp only[ge_iff_le,decide_eq_true_eq]at *)
 all_goals omega
theorem kl7 (op:BinOp) (t:TypeId) (x y:Operand) (k k':IntKind) (m n:Int) (w:World):(eqGuard op t x y (.int k m) (.int k' n)).run P w = .ok () w:=by
 cases op <;> rfl
theorem si7 (op:BinOp) (t:TypeId) (x y:Operand) (m n:Bool) (w:World):(eqGuard op t x y (.bool m) (.bool n)).run P w = .ok () w:=by
 cases op <;> rfl
theorem nmb7 (op:BinOp) (t:TypeId) (k:IntKind) (m n:Int) (h:(se7 op k m n).1):∃v,ha7 M σ.H w (se7 op k m n).2 v∧∀w',(binOp op t (.int k m) (.int k n)).run P w' = .ok v w':=by
 cases op <;> simp only[se7,hmb7,no]at h ⊢ <;> try exact h.elim
 case add=>exact⟨_,rfl,fun w'=>by simp[binOp,Op.intArith,ei7 h]⟩
 case sub=>exact⟨_,rfl,fun w'=>by simp[binOp,Op.intArith,ei7 h]⟩
 case mul=>exact⟨_,rfl,fun w'=>by simp[binOp,Op.intArith,ei7 h]⟩
 case quo=>exact⟨_,rfl,fun w'=>by simp[binOp,Op.intDiv,ei7 h.2,h.1]⟩
 case rem=>exact⟨_,rfl,fun w'=>by simp[binOp,Op.intDiv,h]⟩
 case eql=>exact⟨_,rfl,fun w'=>by simp[binOp,Op.intCmp];rfl⟩
 case neq=>exact⟨_,rfl,fun w'=>by simp[binOp,Op.intCmp];rfl⟩
 case lss=>exact⟨_,rfl,fun w'=>by simp[binOp,Op.intCmp]⟩
 case leq=>exact⟨_,rfl,fun w'=>by simp[binOp,Op.intCmp]⟩
 case gtr=>exact⟨_,rfl,fun w'=>by simp[binOp,Op.intCmp]⟩
 case geq=>exact⟨_,rfl,fun w'=>by simp[binOp,Op.intCmp]⟩
theorem ci7 {s:ByteArray}{v:Value}(h:ha7 M σ.H w (.c (.str s)) v):v = .string s:=h
theorem qs7 (op:BinOp) (t:TypeId) (x y:Operand) (m n:ByteArray) (w:World):(eqGuard op t x y (.string m) (.string n)).run P w = .ok () w:=by
 cases op <;> simp[eqGuard]
theorem ynb7 (op:BinOp) (t:TypeId) {m n:ByteArray}(h:(zhb7 op m n).1):∃r,ha7 M σ.H w (zhb7 op m n).2 r∧∀w',(binOp op t (.string m) (.string n)).run P w' = .ok r w':=by
 have e:∀o,(o = .add∨o = .eql∨o = .neq)→∀w',(binOp o t (.string m) (.string n)).run P w'=(Op.stringOp o m n).run P w':=by
  rintro o (rfl | rfl | rfl) w' <;> rfl
 have q:(m.toList==n.toList)=eqS m n:=by rw[ByteArray.toList_eq,ByteArray.toList_eq];unfold eqS;rw[Bool.eq_iff_iff,beq_iff_eq,decide_eq_true_eq]
 unfold zhb7 at h ⊢
 split at h
 ·exact⟨_,rfl,fun w'=>by rw[e _ (.inl rfl)];exact run_string_add_sum w' m n h⟩
 ·exact⟨_,rfl,fun w'=>by rw[e _ (.inr (.inl rfl))];simp only[Op.stringOp,q];rfl⟩
 ·exact⟨_,rfl,fun w'=>by rw[e _ (.inr (.inr rfl))];simp only[Op.stringOp,q];rfl⟩
 ·exact h.elim
theorem yjb7 (hT:qb7 P ty) (op:BinOp) (t:TypeId) (x y:Operand) (yt:TypeId) {p q:RV}{u v:Value}(hp:ha7 M σ.H w p u) (hq:ha7 M σ.H w q v) (h:(lcb7 op (ty t).k p q).1) :
  ∃r,ha7 M σ.H w (lcb7 op (ty t).k p q).2 r∧∀w',(do eqGuard op t x y u v;binOp op t u v).run P w' = .ok r w':=by
 unfold lcb7 at h ⊢
 split at h
 ·rename_i k m k' n
  obtain⟨hk,h⟩:=h
  subst hk
  obtain rfl:=ma7 hp
  obtain rfl:=ma7 hq
  obtain⟨r,h1,h2⟩:=nmb7 (P:=P) (M:=M) (σ:=σ) (w:=w) op t k m n h
  refine⟨r,h1,fun w'=>?_⟩
  rw[Sem.run_bind,kl7]
  exact h2 w'
 ·rename_i m n
  obtain rfl:=uo7 hp
  obtain rfl:=uo7 hq
  split at h
  ·rename_i hk
   have hu:P.underlying t=some .bool:=by have:=(hT t).k;rw[hk]at this;exact this
   split at h
   ·refine⟨.bool (m==n),rfl,fun w'=>?_⟩
    rw[Sem.run_bind,si7]
    exact run_eql_bool w' t m n hu
   ·refine⟨.bool (m != n),rfl,fun w'=>?_⟩
    rw[Sem.run_bind,si7]
    exact run_neq_bool w' t m n hu
   ·exact h.elim
  ·exact h.elim
 ·rename_i m n
  obtain rfl:=ci7 hp
  obtain rfl:=ci7 hq
  obtain⟨r,h1,h2⟩:=ynb7 (P:=P) (M:=M) (σ:=σ) (w:=w) op t h
  refine⟨r,h1,fun w'=>?_⟩
  rw[Sem.run_bind,qs7]
  exact h2 w'
 ·exact h.elim
theorem uqb7 (op:UnOp) {p:RV}{u:Value}(hp:ha7 M σ.H w p u) (h:(unV op p).1):∃r,ha7 M σ.H w (unV op p).2 r∧∀w',(Op.unary op u).run P w' = .ok r w':=by
 unfold unV at h ⊢
 split at h
 ·rename_i m
  obtain rfl:=uo7 hp
  split at h
  ·exact⟨_,rfl,fun w'=>rfl⟩
  ·exact h.elim
 ·rename_i k m
  obtain rfl:=ma7 hp
  split at h
  ·exact⟨.int k (-m),rfl,fun w'=>by simp[Op.unary,Op.intArith,ei7 h]⟩
  ·exact h.elim
 ·exact h.elim
theorem na7 (hT:qb7 P ty) {t:TypeId}{k:TyK}(hk:(ty t).k=k):kOk P ty t k:=by have:=(hT t).k;rw[hk]at this;exact this
theorem wgb7 (hT:qb7 P ty) (s t:TypeId) {p:RV}{u:Value}(hp:ha7 M σ.H w p u) (h:(bs7 (ty s).k (ty t).k p).1):∃r,ha7 M σ.H w (bs7 (ty s).k (ty t).k p).2 r∧∀w',(convert s t u).run P w' = .ok r w':=by
 unfold bs7 at h ⊢
 split at h
 ·rename_i k0 n
  obtain rfl:=ma7 hp
  split at h
  ·rename_i k1 hs
   split at h
   ·rename_i k hk
    have hu:P.underlying t=some (.int k):=na7 hT hk
    have hd:P.underlying s=some (.int k1):=na7 hT hs
    exact⟨.int k n,rfl,fun w'=>by simp[convert,run_underlying hu,run_underlying hd,Conv.intToInt,ei7 h]⟩
   ·exact h.elim
  ·exact h.elim
 ·exact h.elim
theorem olb7 (mx:Bool) {p q:RV}{u v:Value}(hp:ha7 M σ.H w p u) (hq:ha7 M σ.H w q v) (h:(mmV mx p q).1) (at_:Array TypeId) (t:TypeId):∃r,ha7 M σ.H w (mmV mx p q).2 r∧∀w',(if mx then Builtin.max_ at_ t #[u,v] else Builtin.min_ at_ t #[u,v]).run P w' = .ok r w':=by
 unfold mmV at h ⊢
 split at h
 ·rename_i k m k' n
  obtain rfl:=ma7 hp
  obtain rfl:=ma7 hq
  simp only at h
  subst h
  refine⟨_,rfl,fun w'=>?_⟩
  cases mx
  ·simp[Builtin.min_,Builtin.min2];omega
  ·simp[Builtin.max_,Builtin.max2];omega
 ·exact h.elim
theorem opb7 {id st len:Nat}{v:Value}(hv:vld σ.H id st len) (h:ha7 M σ.H w (.c (.h id st len)) v):∃fz ty sz r cap cur ad,aa7 σ.H id = .live fz ty sz r∧st+len=r.len∧v = .slice (some ad) len cap∧len≤cap∧cap≤maxLen∧w.heap[M.phi id]? = some (.cells cur ty (0,0))∧M.off id+(st+cap)*sz=cur.size∧(0<cap→ad=⟨M.phi id,M.off id+st*sz,none⟩):=by
 unfold vld at hv
 split at hv
 ·rename_i fz t sz r hr
  obtain⟨cap,cur,ad,h1,h2,h3,h4,h5,h6⟩:=(h.2 _ _ _ _ hr).2 hv
  exact⟨fz,t,sz,r,cap,cur,ad,hr,hv,h1,h2,h3,h4,h5,h6⟩
 ·exact hv.elim
theorem dnb7 (hT:qb7 P ty) (t:TypeId) (rt:TypeId) {p:RV}{u:Value}(hp:ha7 M σ.H w p u) (h:(hjb7 (ty t).k σ.H p).1) :
  ∃r,ha7 M σ.H w (hjb7 (ty t).k σ.H p).2 r∧∀w',(Builtin.len_ #[t] rt #[u]).run P w' = .ok r w':=by
 unfold hjb7 at h ⊢
 split at h
 ·rename_i e hk
  have hd:P.underlying t=some (.slice e):=(na7 hT hk).1
  split at h
  ·rename_i n sz f
   obtain⟨a,b,off,c,rfl,-⟩:=hp
   exact⟨.int .i64 n,rfl,fun w'=>by simp[Builtin.len_,run_underlying hd,goInt]⟩
  ·rename_i id st n
   obtain⟨fz,t',sz,r,cap,cur,ad,h1,h2,rfl,-⟩:=opb7 h hp
   exact⟨.int .i64 n,rfl,fun w'=>by simp[Builtin.len_,run_underlying hd,goInt]⟩
  ·have hp':u = .slice none 0 0:=hp
   subst hp'
   exact⟨.int .i64 0,rfl,fun w'=>by simp[Builtin.len_,run_underlying hd,goInt]⟩
  ·rename_i t' ck n
   obtain⟨a,c,rfl,-⟩:=hp
   exact⟨.int .i64 n,rfl,fun w'=>by simp[Builtin.len_,run_underlying hd,goInt]⟩
  ·exact h.elim
 ·rename_i hk
  have hd:P.underlying t=some .string:=na7 hT hk
  split at h
  ·rename_i s
   have hp':u = .string s:=hp
   subst hp'
   exact⟨.int .i64 s.size,rfl,fun w'=>by simp[Builtin.len_,run_underlying hd,goInt]⟩
  ·exact h.elim
 ·exact h.elim
theorem addr_add (b o n:Nat):(⟨b,o,none⟩:Addr).add n=⟨b,o+n,none⟩:=by unfold Addr.add;split <;> simp_all
theorem uy7 {fields:Array Field}{fs:List (Nat×Nat)}{P:Program}(h:fields.toList.map (fun f=>(f.offset,P.cellsOf f.type))=fs) {i:Nat}(hi:(at2 fs i).2≠0):∃f,fields[i]? = some f∧at2 fs i=(f.offset,P.cellsOf f.type):=by
 subst h
 obtain⟨fields⟩:=fields
 induction fields generalizing i with
 | nil=>simp[at2]at hi
 | cons f l ih=>cases i with
  | zero=>exact⟨f,rfl,rfl⟩
  | succ n =>
   obtain⟨g,h1,h2⟩:=ih (i:=n) hi
   exact⟨g,by simpa using h1,h2⟩
theorem xr7 {fields:Array Field}{i:Nat}{f:Field}(h:fields[i]? = some f):f∈fields.toList:=by
 obtain⟨hi,rfl⟩:=Array.getElem?_eq_some_iff.1 h
 exact Array.mem_toList_iff.2 (Array.getElem_mem hi)
theorem il7 {b o i:Nat}{f:Field}{fields:Array Field}(t:TypeId) (hu:P.underlying t=some (.struct fields)) (hf:fields[i]? = some f) (hi:(P.info? f.type).isSome=true) (h0:P.cellsOf f.type≠0) (w':World) :
  (Instr.fieldAt t (.pointer (some ⟨b,o,none⟩)) i).run P w' = .ok (.pointer (some ⟨b,o+f.offset,none⟩)) w':=by
 obtain⟨inf,hinf⟩:=Option.isSome_iff_exists.1 hi
 have h0':¬inf.size=0:=by simpa[Program.cellsOf,hinf]using h0
 simp[Instr.fieldAt,run_underlying hu,hf,Instr.sureAddr,fieldPlace,sizeOf,typeInfo,hinf,h0',addr_add]
theorem qdb7 (hT:qb7 P ty) (t:TypeId) (i:Nat) {p:RV}{u:Value}(hp:ha7 M σ.H w p u) (h:(rl7 (ty t).k σ.H p i).1):∃r,ha7 M σ.H w (rl7 (ty t).k σ.H p i).2 r∧∀w',(Instr.fieldAt t u i).run P w' = .ok r w':=by
 unfold rl7 at h ⊢
 split at h
 ·rename_i fs hk
  obtain⟨fields,hu,hfs,hinf⟩:=na7 hT hk
  split at h
  ·rename_i n g
   obtain⟨h0,hn⟩:=h
   obtain⟨f,hf,he⟩:=uy7 hfs h0
   obtain⟨b,off,rfl,hr,hc⟩:=hp
   rw[he]at h0 hn ⊢
   refine⟨_,⟨b,off+f.offset,rfl,hr,fun j hj=>?_⟩,fun w'=>il7 t hu hf (hinf f (xr7 hf)) h0 w'⟩
   obtain⟨u,hu,hc⟩:=hc (j+f.offset) (by simp only at hn hj;omega)
   exact⟨u,by rw[← hu];congr 2;omega,hc⟩
  ·rename_i id n i' o
   obtain⟨h0,hv⟩:=h
   obtain⟨f,hf,he⟩:=uy7 hfs h0
   obtain⟨hl,hp⟩:=hp
   rw[he]at h0 ⊢
   unfold anb7 at hv
   split at hv
   ·rename_i fz ty' sz r hr
    obtain rfl:=(hp _ _ _ _ hr).2 hv
    refine⟨_,⟨⟨hl.1,rfl⟩,fun fz2 ty2 sz2 r2 hr2=>⟨(hp _ _ _ _ hr2).1,fun hl2=>?_⟩⟩,fun w'=>il7 t hu hf (hinf f (xr7 hf)) h0 w'⟩
    rw[hr]at hr2
    cases hr2
    simp only[Nat.add_assoc]
   ·exact hv.elim
  ·rename_i t' ck o
   obtain⟨f,hf,he⟩:=uy7 hfs h
   obtain⟨b,cur,i',rfl,e2,e3,e4⟩:=hp
   simp only[he]at h ⊢
   exact⟨_,⟨b,cur,i',rfl,e2,e3,e4⟩,fun w'=>by rw[← Nat.add_assoc];exact il7 t hu hf (hinf f (xr7 hf)) h w'⟩
  ·exact h.elim
 ·exact h.elim
theorem rb7 (hT:qb7 P ty) {t:TypeId}(hk:(match (ty t).k with | .no=>False | _=>True)) (w':World):(sizeOf t).run P w' = .ok (ty t).sz w':=by
 obtain⟨i,z,h1,h2,-⟩:=hT.info hk
 simp[sizeOf,typeInfo,h1,h2]
theorem zcb7 (hT:qb7 P ty) (t:TypeId) {p q:RV}{u v:Value}(hp:ha7 M σ.H w p u) (hq:ha7 M σ.H w q v) (h:(ll7 ty (ty t).k σ.H p q).1):∃r,ha7 M σ.H w (ll7 ty (ty t).k σ.H p q).2 r∧∀w',(Instr.indexAt t u v).run P w' = .ok r w':=by
 unfold ll7 at h ⊢
 split at h
 ·rename_i n sz f k i
  obtain rfl:=ma7 hq
  split at h
  ·rename_i e hk
   obtain⟨hu,hke⟩:P.underlying t=some (.slice e)∧_:=na7 hT hk
   obtain⟨⟨h1,h2⟩,rfl⟩:=h
   obtain⟨a,b,off,c,rfl,h3,h4,h5,h6⟩:=hp
   obtain⟨rfl,hr⟩:=h5 (by omega)
   refine⟨.pointer (some ⟨b,off+i.toNat*(ty e).sz,none⟩),⟨b,off+i.toNat*(ty e).sz,rfl,hr,fun j hj=>h6 i.toNat (by omega) j hj⟩,fun w'=>?_⟩
   simp[Instr.indexAt,run_underlying hu,asIntOf,h1,h2,rb7 hT hke,addr_add]
  ·exact h.elim
 ·rename_i id st n k i
  obtain rfl:=ma7 hq
  split at h
  ·rename_i e hk
   obtain⟨hu,hke⟩:P.underlying t=some (.slice e)∧_:=na7 hT hk
   split at h
   ·rename_i fz ty' sz r hr
    obtain⟨⟨h1,h2⟩,h3,rfl⟩:=h
    obtain⟨cap,cur,ad,rfl,h4,-,-,-,h5⟩:=(hp.2 _ _ _ _ hr).2 h3
    obtain rfl:=h5 (by omega)
    refine⟨.pointer (some ⟨M.phi id,M.off id+st*(ty e).sz+i.toNat*(ty e).sz,none⟩),⟨⟨hp.1.1,rfl⟩,fun fz2 ty2 sz2 r2 hr2=>?_⟩,fun w'=>?_⟩
    ·rw[hr]at hr2
     cases hr2
     exact⟨Nat.le_refl _,fun _=>by simp only[Nat.add_zero,Nat.add_mul,Nat.add_assoc]⟩
    ·simp[Instr.indexAt,run_underlying hu,asIntOf,h1,h2,rb7 hT hke,addr_add]
   ·exact h.elim
  ·exact h.elim
 ·rename_i t' ck n k i
  obtain rfl:=ma7 hq
  split at h
  ·rename_i e hk
   obtain⟨hu,hke⟩:P.underlying t=some (.slice e)∧_:=na7 hT hk
   obtain⟨⟨h1,h2⟩,rfl,h3⟩:=h
   obtain⟨a,c,rfl,k1,k2,k3,k4⟩:=hp
   cases a with
   | none=>have:=k3 rfl;omega
   | some ad =>
    obtain⟨b,cur,rfl,g1,g2,g3⟩:=k4 ad rfl
    refine⟨.pointer (some ⟨b,i.toNat*ck.length+0,none⟩),⟨b,cur,i.toNat,rfl,g1,g2, ?_⟩,fun w'=>?_⟩
    ·rw[← g3];exact Nat.mul_le_mul_right _ (by omega)
    ·simp[Instr.indexAt,run_underlying hu,asIntOf,h1,h2,rb7 hT hke,addr_add,h3]
  ·exact h.elim
 ·exact h.elim
theorem nab7:∀(l:List CK) (i:Nat),pnb7 l i=l[i]?
 | [],_=>rfl
 | _::_,0=>rfl
 | _::l,n+1=>by simp only[pnb7,List.getElem?_cons_succ];exact nab7 l n
theorem ifb7 (hT:qb7 P ty) (t:TypeId) {p q:RV}{u v:Value}(hp:ha7 M σ.H w p u) (hq:ha7 M σ.H w q v) (h:(keb7 (ty t).k p q).1):∃r,ha7 M σ.H w (keb7 (ty t).k p q).2 r∧∀w',(Instr.sliceAt t u none (some v) none).run P w' = .ok r w':=by
 unfold keb7 at h ⊢
 split at h
 ·rename_i t' ck n k m
  obtain rfl:=ma7 hq
  split at h
  ·rename_i e hk
   obtain⟨hu,hke⟩:P.underlying t=some (.slice e)∧_:=na7 hT hk
   have hel:P.elem t=e:=by simp[Program.elem,hu]
   obtain⟨h1,h2⟩:=h
   obtain⟨a,c,rfl,k1,k2,k3,k4⟩:=hp
   refine⟨.slice a m.toNat c,⟨a,c,rfl,by omega,k2,k3,k4⟩,fun w'=>?_⟩
   rw[run_sliceAt_slice w' t _ _ _ _ (by rw[hel];exact hu),run_slice_h w' t a n c (by rw[hel];exact hu) k m h1 (by omega),hel,rb7 hT hke]
   simp only[Result.andThen,sliced,Nat.sub_zero,Nat.zero_mul]
   by_cases hc:c=0
   ·rw[if_pos hc]
   ·rw[if_neg hc]
    cases a with
    | none=>rfl
    | some ad =>
     obtain⟨b,cur,rfl,-⟩:=k4 ad rfl
     simp[addr_add]
  ·exact h.elim
 ·rename_i k m
  obtain rfl:=ma7 hq
  split at h
  ·rename_i e hk
   obtain⟨hu,hke⟩:P.underlying t=some (.slice e)∧_:=na7 hT hk
   have hel:P.elem t=e:=by simp[Program.elem,hu]
   have hp:u = .slice none 0 0:=hp
   have h:m=0:=h
   subst hp h
   refine⟨.slice none 0 0,rfl,fun w'=>?_⟩
   rw[run_sliceAt_slice w' t _ _ _ _ (by rw[hel];exact hu),run_slice_h w' t none 0 0 (by rw[hel];exact hu) k 0 (Int.le_refl _) (Int.le_refl _),hel,rb7 hT hke]
   rfl
  ·exact h.elim
 ·rename_i n sz f k m
  obtain rfl:=ma7 hq
  split at h
  ·rename_i e hk
   obtain⟨hu,hke⟩:P.underlying t=some (.slice e)∧_:=na7 hT hk
   have hel:P.elem t=e:=by simp[Program.elem,hu]
   obtain⟨h1,h2⟩:=h
   obtain⟨a,b,off,c,rfl,k1,k2,k3,k4⟩:=hp
   refine⟨sliced a 0 m.toNat c (ty e).sz, ?_,fun w'=>?_⟩
   ·refine⟨if c=0 then a else a.map (·.add (0*(ty e).sz)),b,off,c,rfl,by omega,k2,fun hm=>?_,fun i hi=>k4 i (by omega)⟩
    obtain⟨rfl,hr⟩:=k3 (by omega)
    rw[if_neg (by omega)]
    exact⟨by simp[addr_add],hr⟩
   ·rw[run_sliceAt_slice w' t _ _ _ _ (by rw[hel];exact hu),run_slice_h w' t a n c (by rw[hel];exact hu) k m h1 (by omega),hel,rb7 hT hke]
    rfl
  ·exact h.elim
 ·rename_i s k m
  obtain rfl:=ma7 hq
  split at h
  ·rename_i hk
   obtain rfl:=ci7 hp
   obtain⟨h1,h2,h3⟩:=h
   exact⟨_,rfl,fun w'=>by rw[run_sliceAt_string (w:=w') (h:=na7 hT hk)];exact run_slice_string_h w' t s (na7 hT hk) k m h2 h3⟩
  ·exact h.elim
 ·exact h.elim
theorem chb7 (hT:qb7 P ty) (t:TypeId) {p q:RV}{u v:Value}(hp:ha7 M σ.H w p u) (hq:ha7 M σ.H w q v) (h:(lhb7 ty (ty t).k p q).1):∃r,ha7 M σ.H w (lhb7 ty (ty t).k p q).2 r∧∀w',(Instr.sliceAt t u (some v) none none).run P w' = .ok r w':=by
 unfold lhb7 at h ⊢
 split at h
 ·rename_i s k m
  obtain rfl:=ma7 hq
  split at h
  ·rename_i hk
   obtain rfl:=ci7 hp
   obtain⟨h1,h2,h3⟩:=h
   exact⟨_,rfl,fun w'=>by rw[run_sliceAt_string (w:=w') (h:=na7 hT hk)];exact run_slice_string_l w' t s (na7 hT hk) k m h1 h2⟩
  ·exact h.elim
 ·rename_i n sz f k m
  obtain rfl:=ma7 hq
  split at h
  ·rename_i e hk
   obtain⟨hu,hke⟩:P.underlying t=some (.slice e)∧_:=na7 hT hk
   have hel:P.elem t=e:=by simp[Program.elem,hu]
   obtain⟨⟨h1,h2⟩,rfl⟩:=h
   obtain⟨a,b,off,c,rfl,k1,k2,k3,k4⟩:=hp
   obtain⟨rfl,hr⟩:=k3 (by omega)
   refine⟨sliced (some ⟨b,off,none⟩) m.toNat n c (ty e).sz, ?_,fun w'=>?_⟩
   ·refine⟨some ⟨b,off+m.toNat*(ty e).sz,none⟩,b,off+m.toNat*(ty e).sz,c-m.toNat, ?_,by omega,by omega,fun _=>⟨rfl,hr⟩,fun i hi j hj=>?_⟩
    ·simp only[sliced]
     rw[if_neg (by omega)]
     simp[addr_add]
    ·have:=k4 (i+m.toNat) (by omega) j hj
     rw[show off+m.toNat*(ty e).sz+i*(ty e).sz+j=off+(i+m.toNat)*(ty e).sz+j by rw[Nat.add_mul];omega]
     exact this
   ·rw[run_sliceAt_slice w' t _ _ _ _ (by rw[hel];exact hu),run_slice_l w' t _ n c (by rw[hel];exact hu) k m h1 (by omega),hel,rb7 hT hke]
    rfl
  ·exact h.elim
 ·exact h.elim
theorem tib7 (hT:qb7 P ty) (t:TypeId) {p q:RV}{u v:Value}(hp:ha7 M σ.H w p u) (hq:ha7 M σ.H w q v) (h:(nib7 (ty t).k p q).1):∃r,ha7 M σ.H w (nib7 (ty t).k p q).2 r∧∀w',(Instr.index t u v).run P w' = .ok r w':=by
 unfold nib7 at h ⊢
 split at h
 ·rename_i s k m
  obtain rfl:=ma7 hq
  split at h
  ·rename_i hk
   obtain rfl:=ci7 hp
   obtain⟨h1,h2⟩:=h
   have hu:P.underlying t=some .string:=na7 hT hk
   have hl:m.toNat<s.size:=by omega
   have hb:s[m.toNat]? = some (s[m.toNat]'hl):=by simp[hl]
   have hg:rpb7 s m=((s[m.toNat]'hl).toNat:Int):=by
    unfold rpb7
    rw[List.getD_eq_getElem?_getD,List.getElem?_eq_getElem (by simpa using hl)]
    rfl
   exact⟨_,rfl,fun w'=>by simp[Instr.index,asIntOf,run_underlying hu,hb,hg,h1]⟩
  ·exact h.elim
 ·exact h.elim
theorem tgb7 (hT:qb7 P ty) (t:TypeId) {p q r:RV}{u v z:Value}(hp:ha7 M σ.H w p u) (hq:ha7 M σ.H w q v) (hr:ha7 M σ.H w r z) (h:(yib7 (ty t).k p q r).1):∃r',ha7 M σ.H w (yib7 (ty t).k p q r).2 r'∧∀w',(Instr.sliceAt t u (some v) (some z) none).run P w' = .ok r' w':=by
 unfold yib7 at h ⊢
 split at h
 ·rename_i s k l k' m
  obtain rfl:=ma7 hq
  obtain rfl:=ma7 hr
  split at h
  ·rename_i hk
   obtain rfl:=ci7 hp
   obtain⟨h1,h2,h3⟩:=h
   exact⟨_,rfl,fun w'=>by rw[run_sliceAt_string (w:=w') (h:=na7 hT hk)];exact run_slice_string w' t s k k' l m (na7 hT hk) h1 h2 h3⟩
  ·exact h.elim
 ·exact h.elim
theorem Rel.cell (h:Rel E M σ.H w) {id:Nat}{fz:Bool}{t:TypeId}{sz:Nat}{r:Row}(hr:aa7 σ.H id = .live fz t sz r) {i o:Nat}(hi:i<r.len) (ho:o<sz) :
  ∃v,Con M σ.H w (r.get i o) v∧v.oneCell'=true∧∀w',Same M σ.H w w'→w'.cell? ⟨M.phi id,M.off id+i*sz+o,none⟩=some v:=by
 obtain⟨cur,h1,h2,h3,-,-,h4⟩:=h.row _ _ _ _ _ hr
 obtain⟨v,h5,h6,h7⟩:=h4 i hi o ho
 refine⟨v, ?_,h6,fun w' hs=>?_⟩
 ·unfold vd7 at h7
  split at h7
  ·exact h7
  ·exact Con.of0 h7
 ·have:=hs (M.phi id) (.inr (.inl ⟨id,fz,t,sz,r,hr,rfl⟩))
  simp[World.cell?,this,h1,h5]
theorem nj7 {Q:Nat→Value→Prop}:∀(n:Nat),(∀j,j<n→∃v,Q j v)→∃vs:List Value,vs.length=n∧∀j v,vs[j]? = some v→Q j v
 | 0,_=>⟨[],rfl,fun j v h=>by simp at h⟩
 | n+1,h=>by
  obtain⟨vs,h1,h2⟩:=nj7 n fun j hj=>h j (by omega)
  obtain⟨v,hv⟩:=h n (by omega)
  refine⟨vs++[v],by simp[h1],fun j u hj=>?_⟩
  by_cases hlt:j<vs.length
  ·rw[List.getElem?_append_left hlt]at hj
   exact h2 j u hj
  ·rw[List.getElem?_append_right (by omega)]at hj
   have:j=n:=by
    have:=(List.getElem?_eq_some_iff.1 hj).1
    simp at this;omega
   subst this
   simp[h1]at hj
   subst hj;exact hv
theorem tj7 (hT:qb7 P ty) {t:TypeId}{fs:List (Nat×Nat)}(hk:(ty t).k = .st fs) {b o:Nat}{vs:List Value}(hl:vs.length=(ty t).sz) {w':World}(h:∀j v,vs[j]? = some v→w'.cell? ⟨b,o+j,none⟩=some v) :
  (Instr.loadAt t (.pointer (some ⟨b,o,none⟩))).run P w' = .ok (.agg vs.toArray) w':=by
 obtain⟨fields,hu,-⟩:=na7 hT hk
 have hz:=rb7 (P:=P) hT (t:=t) (by rw[hk];trivial) w'
 have hc:=run_loadCells_list (P:=P) w' ⟨b,o,none⟩ vs (fun j v hj=>by rw[addr_add];exact h j v hj)
 rw[← hl]at hz
 simp[Instr.loadAt,Instr.sureAddr,loadVar,isAgg,run_underlying hu,hz,hc]
theorem lg7 (hT:qb7 P ty) {t:TypeId}(hk:(match (ty t).k with | .st _=>False | .ar .. => False | .no=>False | _=>True)) {b o:Nat}{v:Value}{w':World}(h:w'.cell? ⟨b,o,none⟩=some v) :
  (Instr.loadAt t (.pointer (some ⟨b,o,none⟩))).run P w' = .ok v w':=by
 have hd:∃d,P.underlying t=some d∧(match d with | .struct _ | .array _ _=>False | _=>True):=by
  have hh:=(hT t).k
  cases hq:(ty t).k <;> rw[hq]at hk hh <;> simp only at hk
  ·exact⟨_,hh,trivial⟩
  ·exact⟨_,hh,trivial⟩
  ·exact⟨_,hh,trivial⟩
  ·exact hh
  ·exact⟨_,hh.1,trivial⟩
 obtain⟨d,hu,hd⟩:=hd
 cases d <;> first | exact hd.elim | simp[Instr.loadAt,Instr.sureAddr,loadVar,isAgg,run_underlying hu,h]
theorem yt7 (hT:qb7 P ty) (hR:Rel E M σ.H w) (t:TypeId) {p:RV}{u:Value}(hp:ha7 M σ.H w p u) (h:(gl7 (ty t) σ.H p).1):∃r,ha7 M σ.H w (gl7 (ty t) σ.H p).2 r∧∀w',Same M σ.H w w'→(Instr.loadAt t u).run P w' = .ok r w':=by
 unfold gl7 at h ⊢
 split at h
 ·rename_i n g
  obtain⟨b,off,rfl,hr,hc⟩:=hp
  split at h
  ·rename_i fs hk
   obtain⟨vs,h1,h2⟩:=nj7 (Q:=fun j v=>w.cell? ⟨b,off+j,none⟩=some v∧lb7 M.rho w (g j) v) (ty t).sz (fun j hj=>hc j (by simp only at h;omega))
   refine⟨.agg vs.toArray,⟨vs,rfl,mb7.of_getElem (by rw[xt7,h1]) fun i v hv=>?_⟩,fun w' hs=>tj7 hT hk h1 fun j v hj=>?_⟩
   ·rw[jo7 _ _ _ _ (by have:=(List.getElem?_eq_some_iff.1 hv).1;omega),Nat.zero_add]
    exact Con.of0 (h2 i v hv).2
   ·rw[← (h2 j v hj).1]
    exact World.cell?_of_block (hs b (.inl hr))
  ·exact h.elim
  ·exact h.elim
  ·rename_i h1 h2 h3
   obtain⟨v,hv,hcv⟩:=hc 0 (by simp only at h;omega)
   refine⟨v,Con.of0 hcv,fun w' hs=>lg7 hT ?_ ?_⟩
   ·cases hq:(ty t).k <;> simp_all
   ·rw[← hv]
    exact World.cell?_of_block (hs b (.inl hr))
 ·rename_i id n i o
  split at h
  ·rename_i fz ty' sz r hr
   split at h
   ·rename_i fs hk
    obtain⟨hn,hi,ho⟩:=h
    obtain rfl:=(hp.2 _ _ _ _ hr).2 hn
    obtain⟨vs,h1,h2⟩:=nj7 (Q:=fun j v=>Con M σ.H w (r.get i (o+j)) v∧v.oneCell'=true∧∀w',Same M σ.H w w'→w'.cell? ⟨M.phi id,M.off id+i*sz+(o+j),none⟩=some v) (ty t).sz (fun j hj=>hR.cell hr (by omega) (by omega))
    refine⟨.agg vs.toArray,⟨vs,rfl,mb7.of_getElem (by rw[xt7,h1]) fun j v hv=>?_⟩,fun w' hs=>tj7 hT hk h1 fun j v hj=>?_⟩
    ·rw[jo7 _ _ _ _ (by have:=(List.getElem?_eq_some_iff.1 hv).1;omega)]
     exact (h2 j v hv).1
    ·rw[Nat.add_assoc]
     exact (h2 j v hj).2.2 w' hs
   ·exact h.elim
   ·exact h.elim
   ·rename_i k1 k2 k3
    obtain⟨hn,hi,ho⟩:=h
    obtain rfl:=(hp.2 _ _ _ _ hr).2 hn
    obtain⟨v,h1,-,h2⟩:=hR.cell hr (i:=i) (o:=o) (by omega) ho
    refine⟨v,h1,fun w' hs=>lg7 hT ?_ (h2 w' hs)⟩
    cases hq:(ty t).k <;> simp_all
  ·exact h.elim
 ·rename_i t' ck o
  split at h
  ·rename_i e hk
   obtain⟨b,cur,i,rfl,e2,e3,e4⟩:=hp
   obtain⟨cur2,c1,c2,-,c4⟩:=hR.tau.cells b t' ck e2
   rw[e3]at c1
   cases c1
   unfold ykb7 at h ⊢
   split at h
   ·rename_i t2 ck2 b2 hq
    rw[nab7]at hq
    have ho:o<ck.length:=(List.getElem?_eq_some_iff.1 hq).1
    have hk2:(i*ck.length+o) % ck.length=o:=by rw[Nat.add_comm,Nat.add_mul_mod_self_right,Nat.mod_eq_of_lt ho]
    rw[Nat.add_mul]at e4
    obtain⟨v,g1,g2⟩:=c4 (i*ck.length+o) (by omega)
    have g3:=g2 (.s t2 ck2 b2) (by rw[hk2];exact hq)
    simp only[hk]
    refine⟨v,g3,fun w' hs=>lg7 hT (by rw[hk];trivial) ?_⟩
    have:=hs b (.inr (.inr ⟨_,e2⟩))
    simp[World.cell?,this,e3,g1]
   ·exact h.elim
  ·exact h.elim
 ·exact h.elim
theorem Con.one {x:AV}{v:Value}(hn:x.nj=true) (h:Con M σ.H w x v):v.oneCell'=true∧v.cells = #[v]:=by
 cases x with
 | int=>cases h;exact⟨rfl,rfl⟩
 | bool=>cases h;exact⟨rfl,rfl⟩
 | flt=>cases h;exact⟨rfl,rfl⟩
 | str=>cases h;exact⟨rfl,rfl⟩
 | nilp=>cases h;exact⟨rfl,rfl⟩
 | nils=>cases h;exact⟨rfl,rfl⟩
 | sl=>obtain⟨a,b,off,c,rfl,-⟩:=h;exact⟨rfl,rfl⟩
 | rp=>obtain⟨b,off,rfl,-⟩:=h;exact⟨rfl,rfl⟩
 | ws=>obtain⟨a,c,rfl,-⟩:=h;exact⟨rfl,rfl⟩
 | wu=>obtain⟨n,-,a,c,rfl,-⟩:=h;exact⟨rfl,rfl⟩
 | wp=>obtain⟨b,cur,i,rfl,-⟩:=h;exact⟨rfl,rfl⟩
 | junk=>cases hn
 | ptr=>exact⟨h.1.2,by have:=h.1.2;cases v <;> first | rfl | cases this⟩
 | h=>exact⟨h.1.2,by have:=h.1.2;cases v <;> first | rfl | cases this⟩
theorem gf7 {x:RV}{v:Value}(hn:njL (oa7 x)=true) (h0:(oa7 x).length≠0) (h:ha7 M σ.H w x v):mb7 M σ.H w (oa7 x) v.cells.toList:=by
 cases x with
 | c b =>
  simp only[oa7,njL,Bool.and_true]at hn
  have h':Con M σ.H w b v:=h
  rw[(Con.one hn h').2]
  exact⟨v,[],rfl,h',rfl⟩
 | agg l=>obtain⟨vs,rfl,h1⟩:=h;simpa[oa7,Value.cells]using h1
 | fn=>exact absurd rfl h0
 | tup=>exact absurd rfl h0
 | ifc=>exact absurd rfl h0
theorem zv7 (off:Nat):∀(l:List Value) (s:Nat) (cells:Array Value),off+s+l.length≤cells.size →
  ((l.zipIdx s).foldl (fun cs (p:Value×Nat)=>cs.setIfInBounds (off+p.2) p.1) cells).size=cells.size∧∀j,((l.zipIdx s).foldl (fun cs (p:Value×Nat)=>cs.setIfInBounds (off+p.2) p.1) cells)[j]? = if off+s≤j∧j<off+s+l.length then l[j-(off+s)]? else cells[j]?
 | [],s,cells,_=>⟨rfl,fun j=>by simp only[List.zipIdx_nil,List.foldl_nil,List.length_nil,Nat.add_zero];rw[if_neg (by omega)]⟩
 | v::l,s,cells,h=>by
  simp only[List.length_cons]at h
  have hs:(cells.setIfInBounds (off+s) v).size=cells.size:=Array.size_setIfInBounds
  obtain⟨h1,h2⟩:=zv7 off l (s+1) (cells.setIfInBounds (off+s) v) (by rw[hs];omega)
  simp only[List.zipIdx_cons,List.foldl_cons]
  refine⟨by rw[h1,hs],fun j=>?_⟩
  rw[h2 j,List.length_cons,Array.getElem?_setIfInBounds]
  by_cases e:j=off+s
  ·subst e
   rw[if_neg (by omega),if_pos rfl,if_pos (by omega),if_pos (by omega),Nat.sub_self];rfl
  ·by_cases e2:off+s≤j∧j<off+s+(l.length+1)
   ·rw[if_pos (show off+(s+1)≤j∧j<off+(s+1)+l.length by omega),if_pos e2,show j-(off+s)=(j-(off+(s+1)))+1 by omega];rfl
   ·rw[if_neg (show ¬(off+(s+1)≤j∧j<off+(s+1)+l.length) by omega),if_neg (fun h=>e h.symm),if_neg e2]
theorem nz7:∀(fs:List (Nat×Nat)) (i:Nat),(at2 fs i).2≠0→fs[i]? = some (at2 fs i)
 | [],_,h=>absurd rfl h
 | _::_,0,_=>rfl
 | _::fs,n+1,h=>nz7 fs n h
theorem to7 (pl:Nat→Nat×Nat) (place:Nat→Option (Nat×Nat)) (hpl:∀i,(pl i).2≠0→place i=some (pl i)):∀(ps:List (Nat×Operand)) (l:List AV) (cells:Array Value),(∀x∈ps,(σ.rd x.2).1=true→ha7 M σ.H w (σ.rd x.2).2 (a.eval x.2))→gOk true (pgs σ.rd ps)→mb7 M σ.H w l cells.toList→(sb7 pl σ.rd l ps).1 →
  ∃out,Instr.fill place cells (ps.map fun (i,x)=>(i,a.eval x))=some out∧mb7 M σ.H w (sb7 pl σ.rd l ps).2 out.toList
 | [],l,cells,_,_,hc,_=>⟨cells,rfl,hc⟩
 | (i,x)::ps,l,cells,hr,hg,hc,h=>by
  simp only[sb7]at h ⊢
  simp only[pgs,gOk]at hg
  obtain⟨⟨h0,h1,h2,h3⟩,h4⟩:=h
  have hx:=hr _ (List.mem_cons_self ..) (hg.1 trivial)
  have hcx:=gf7 h1 (by omega) hx
  have hlen:=hcx.len
  have hll:=hc.len
  have hfs:place i=some (pl i):=hpl i h0
  have hsz:(a.eval x).cells.size=(pl i).2:=by simpa[h2]using hlen
  have hcl:cells.size=l.length:=by simpa using hll
  obtain⟨f1,f2⟩:=zv7 (pl i).1 (a.eval x).cells.toList 0 cells (by simp only[Array.length_toList];omega)
  obtain⟨out,ho,hco⟩:=to7 pl place hpl ps (pat l (pl i).1 (oa7 (σ.rd x).2)) (((a.eval x).cells.toList.zipIdx 0).foldl (fun cs (p:Value×Nat)=>cs.setIfInBounds ((pl i).1+p.2) p.1) cells)
   (fun y hy=>hr y (List.mem_cons_of_mem _ hy)) hg.2 (mb7.of_getElem (by rw[nt7];simp only[Array.length_toList];omega) fun j v hj=>by
    rw[Array.getElem?_toList,f2 j]at hj
    rw[tz7 _ _ _ _ (by omega)]
    simp only[Nat.add_zero,Array.length_toList,hsz,h2]at hj ⊢
    split at hj
    ·rename_i hb
     rw[if_pos hb]
     exact hcx.get _ _ hj
    ·rename_i hb
     rw[if_neg hb]
     exact hc.get _ _ (by simpa using hj)) h4
  refine⟨out, ?_,hco⟩
  rw[← ho]
  simp only[List.map_cons,Instr.fill,hfs,hsz]
  rw[if_neg (by simp;omega)]
  congr 1
  rw[← Array.foldl_toList]
  simp[Array.toList_zipIdx]
theorem ic7 (hT:qb7 P ty) {t:TypeId}(hk:(match (ty t).k with | .no=>False | _=>True)):∃i z,P.info? t=some i∧i.zero=some z∧i.size=(ty t).sz∧i.bytes=(ty t).bytes∧z.cells.size=(ty t).sz∧zvL (ty t).zero z.cells.toList=true∧mb7 M σ.H w (ty t).zero z.cells.toList:=by
 obtain⟨i,z,h1,h2,h3,h4,h5,h6⟩:=hT.info hk
 exact⟨i,z,h1,h4,h2,h3,h6,h5,mb7.of_getElem (gk7 h5) fun j v hj=>Con.of0 (kt7 (tk7 h5 j v hj))⟩
theorem ldb7 (hT:qb7 P ty) (h:St E nt M σ a w) (t:TypeId) (ps:Array (Nat×Operand)) {fs:List (Nat×Nat)}(hk:(ty t).k = .st fs) (hg:gOk true (pgs σ.rd ps.toList)) (ho:(sb7 (at2 fs) σ.rd (ty t).zero ps.toList).1) :
  ∃r,ha7 M σ.H w (.agg (sb7 (at2 fs) σ.rd (ty t).zero ps.toList).2) r∧∀w',(Instr.build t (ps.map fun (i,x)=>(i,a.eval x))).run P w' = .ok r w':=by
 obtain⟨fields,hu,hfs,hinf⟩:=na7 hT hk
 obtain⟨i,z,hi,hz,-,-,-,-,hzc⟩:=ic7 (M:=M) (σ:=σ) (w:=w) (P:=P) hT (t:=t) (by rw[hk];trivial)
 obtain⟨out,h1,h2⟩:=to7 (M:=M) (σ:=σ) (w:=w) (a:=a) (at2 fs) (fun i=>fs[i]?) (nz7 fs) ps.toList (ty t).zero z.cells (fun x _ hx=>h.rd hx) hg hzc ho
 refine⟨.agg out,⟨out.toList,by simp,h2⟩,fun w'=>run_build w' t _ out ?_⟩
 have hm:fields.toList.mapM (fun f=>(P.info? f.type).map fun i=>(f.offset,i.size))=some fs:=by
  rw[← hfs]
  have:∀l:List Field,(∀f∈l,(P.info? f.type).isSome=true)→l.mapM (fun f=>(P.info? f.type).map fun i=>(f.offset,i.size))=some (l.map fun f=>(f.offset,P.cellsOf f.type)):=by
   intro l hl
   induction l with
   | nil=>rfl
   | cons f l ih =>
    obtain⟨inf,hinf⟩:=Option.isSome_iff_exists.1 (hl f (List.mem_cons_self ..))
    simp[List.mapM_cons,hinf,ih fun g hg=>hl g (List.mem_cons_of_mem _ hg),Program.cellsOf]
  exact this _ hinf
 unfold Program.built
 simp only[hi,hu,hz,hm]
 rw[← h1]
 simp
def kob7:Op→Bool
 | .load .. => true
 | _=>false
theorem xy7 (hT:qb7 P ty) (h:St E nt M σ a w) {o:Oper}(hv:isV o.op=true) {g:Bool}(hg:g=true) (hgs:gOk true (bm7 σ.rd o.op)) (ho:(opV ty g σ.rd σ.H o.op).1) :
  ∃v,ha7 M σ.H w (opV ty g σ.rd σ.H o.op).2 v∧∀w',(kob7 o.op=true→Same M σ.H w w')→(execOp a.eval o).run P w' = .ok (.value v) w':=by
 obtain⟨dst,op,type,pos,after,guard⟩:=o
 have lift:∀{x:Sem Value} {v:Value} {w':World},x.run P w' = .ok v w'→((do pure (Next.value (← x))):Sem Next).run P w' = .ok (.value v) w':=fun {x v w'} hx=>by
  rw[Sem.run_bind,hx];rfl
 cases op <;> simp only[isV,Bool.false_eq_true]at hv <;> simp only[bm7,gOk]at hgs <;> simp only[opV]at ho ⊢
 case move x=>exact⟨a.eval x,h.rd (hgs.1 trivial),fun w' _=>rfl⟩
 case assign x=>exact⟨a.eval x,h.rd (hgs.1 trivial),fun w' _=>rfl⟩
 case pick c x y =>
  subst hg
  have hc:=h.rd (hgs.1 trivial)
  split at ho
  ·rename_i cb hcb
   rw[hcb]at hc
   have hcv:a.eval c = .bool cb:=hc
   obtain⟨h1,h2,h3⟩:=ho
   simp only[gOk,Bool.true_and,and_true]at h1 h2
   have key:∃v,ha7 M σ.H w (mt7 (.c (.bool cb)) (σ.rd x).2 (σ.rd y).2).2 v∧v=(if cb=true then a.eval x else a.eval y):=by
    unfold mt7 at h3 ⊢
    split at h3
    ·rename_i c' p q e1 e2 e3
     cases e1
     cases cb with
     | true=>exact⟨_,by have:=h.rd (x:=x) (h1 rfl);rw[e2]at this;exact this,rfl⟩
     | false=>exact⟨_,by have:=h.rd (x:=y) (h2 rfl);rw[e3]at this;exact this,rfl⟩
    ·rename_i c' k p k' q e1 e2 e3
     cases e1
     simp only at h3
     subst h3
     cases cb with
     | true=>exact⟨_,by have:=h.rd (x:=x) (h1 rfl);rw[e2]at this;exact this,rfl⟩
     | false=>exact⟨_,by have:=h.rd (x:=y) (h2 rfl);rw[e3]at this;exact this,rfl⟩
    ·rename_i c1 e1 e2
     cases e1
     simp only at h3
     subst h3
     exact⟨_,h.rd (x:=y) (h2 rfl),rfl⟩
    ·rename_i c1 e1 e2 n
     cases e1
     simp only at h3
     subst h3
     exact⟨_,h.rd (x:=x) (h1 rfl),rfl⟩
    ·exact h3.elim
   obtain⟨v,hv1,hv2⟩:=key
   refine⟨v,hv1,fun w' _=>?_⟩
   subst hv2
   cases cb <;> simp[execOp,hcv,asBool]
  ·exact ho.elim
 case build t ps =>
  split at ho
  ·rename_i fs hk
   obtain⟨r,h1,h2⟩:=ldb7 hT h t ps hk hgs ho
   exact⟨r,h1,fun w' _=>lift (h2 w')⟩
  ·exact ho.elim
 case load t x =>
  obtain⟨r,h1,h2⟩:=yt7 hT h.rel t (h.rd (hgs.1 trivial)) ho
  exact⟨r,h1,fun w' hs=>lift (h2 w' (hs rfl))⟩
 case binOp op t x y yt =>
  obtain⟨r,h1,h2⟩:=yjb7 hT op t x y yt (h.rd (hgs.1 trivial)) (h.rd (hgs.2.1 trivial)) ho
  exact⟨r,h1,fun w' _=>lift (h2 w')⟩
 case unOp op t x =>
  obtain⟨r,h1,h2⟩:=uqb7 (P:=P) op (h.rd (hgs.1 trivial)) ho
  exact⟨r,h1,fun w' _=>lift (h2 w')⟩
 case convert s t x =>
  obtain⟨r,h1,h2⟩:=wgb7 hT s t (h.rd (hgs.1 trivial)) ho
  exact⟨r,h1,fun w' _=>lift (h2 w')⟩
 case fieldAddr t x f =>
  obtain⟨r,h1,h2⟩:=qdb7 hT t f (h.rd (hgs.1 trivial)) ho
  exact⟨r,h1,fun w' _=>lift (h2 w')⟩
 case indexAddr t x i =>
  obtain⟨r,h1,h2⟩:=zcb7 hT t (h.rd (hgs.1 trivial)) (h.rd (hgs.2.1 trivial)) ho
  exact⟨r,h1,fun w' _=>lift (h2 w')⟩
 case index t x i =>
  obtain⟨r,h1,h2⟩:=tib7 hT t (h.rd (hgs.1 trivial)) (h.rd (hgs.2.1 trivial)) ho
  exact⟨r,h1,fun w' _=>lift (h2 w')⟩
 case nilCheck x =>
  have hx:=h.rd (hgs.1 trivial)
  unfold ulb7 at ho ⊢
  split at ho
  ·rename_i id n i o hxe
   rw[hxe]at hx
   split at ho
   ·rename_i fz ty2 sz r hr
    have e:=(hx.2 _ _ _ _ hr).2 ho
    exact⟨_,hx,fun w' _=>by rw[e];simp[execOp,e]⟩
   ·exact ho.elim
  ·exact ho.elim
 case extract x i =>
  have hx:=h.rd (hgs.1 trivial)
  have key:∃v,ha7 M σ.H w (qjb7 (σ.rd x).2 i).2 v∧∀w',(Instr.extract (a.eval x) i).run P w' = .ok v w':=by
   unfold qjb7 at ho ⊢
   split at ho
   ·rename_i l hl
    rw[hl]at hx
    obtain⟨vs,hvs,hc⟩:=hx
    have hn:∀(l:List RV) (vs:List Value) (i:Nat),ab7 M σ.H w l vs→(kjb7 l i).1→∃v,vs[i]? = some v∧ha7 M σ.H w (kjb7 l i).2 v:=by
     intro l
     induction l with
     | nil=>intro vs i _ h;exact h.elim
     | cons b l ih =>
      rintro vs i ⟨v,r,rfl,h1,h2⟩ h
      cases i with
      | zero=>exact⟨v,rfl,h1⟩
      | succ n=>exact ih r n h2 h
    obtain⟨v,h1,h2⟩:=hn l vs i hc ho
    exact⟨v,h2,fun w'=>by rw[hvs];simp[Instr.extract,h1]⟩
   ·exact ho.elim
  obtain⟨r,h1,h2⟩:=key
  exact⟨r,h1,fun w' _=>lift (h2 w')⟩
 case slice t x lo hi mx =>
  cases lo <;> cases hi <;> cases mx <;> simp only[cnb7]at ho ⊢ <;> try exact ho.elim
  ·obtain⟨r,h1,h2⟩:=ifb7 hT t (h.rd (hgs.1 trivial)) (h.rd (hgs.2.1 rfl)) ho
   exact⟨r,h1,fun w' _=>lift (h2 w')⟩
  ·obtain⟨r,h1,h2⟩:=chb7 hT t (h.rd (hgs.1 trivial)) (h.rd (hgs.2.1 rfl)) ho
   exact⟨r,h1,fun w' _=>lift (h2 w')⟩
  ·obtain⟨r,h1,h2⟩:=tgb7 hT t (h.rd (hgs.1 trivial)) (h.rd (hgs.2.1 rfl)) (h.rd (hgs.2.2.1 rfl)) ho
   exact⟨r,h1,fun w' _=>lift (h2 w')⟩
 case makeFunc fn first caps =>
  obtain⟨first⟩:=first
  have key:∀(l:List Operand),gOk true (rgs σ.rd l)→∀as,tfb7 (rds σ.rd l)=some as→mb7 M σ.H w as (l.map a.eval):=by
   intro l
   induction l with
   | nil=>intro _ as e;cases e;rfl
   | cons x l ih =>
    intro hg as e
    simp only[rds,tfb7]at e
    have hx:=h.rd (hg.1 rfl)
    cases hq:(σ.rd x).2 <;> rw[hq]at e hx <;> simp only[tfb7]at e <;> try cases e
    rename_i b
    cases hc:tfb7 (rds σ.rd l) <;> rw[hc]at e <;> simp only[Option.map_none,Option.map_some,Option.some.injEq]at e <;> try cases e
    exact⟨_,_,rfl,hx,ih hg.2 _ hc⟩
  rcases first with _ | ⟨x,_ | ⟨y,r⟩⟩ <;> cases fn <;> simp only[gkb7]at ho ⊢ <;> try exact ho.elim
  ·rename_i f
   unfold njb7 at ho ⊢
   split at ho
   ·rename_i as has
    refine⟨.func (.func f) #[] (caps.map a.eval),⟨caps.toList.map a.eval, ?_,key caps.toList hgs as has⟩,fun w' _=>?_⟩
    ·show _=Value.func _ #[] (caps.toList.map a.eval).toArray
     congr 1;apply Array.toList_inj.1;simp
    ·simp[execOp,Instr.makeFunc]
   ·exact ho.elim
  ·rename_i f
   unfold njb7 at ho ⊢
   split at ho
   ·rename_i as has
    refine⟨.func (.func f) #[a.eval x] (caps.map a.eval),⟨(x::caps.toList).map a.eval, ?_,key (x::caps.toList) hgs as has⟩,fun w' _=>?_⟩
    ·show _=Value.func _ #[a.eval x] (caps.toList.map a.eval).toArray
     congr 1;apply Array.toList_inj.1;simp
    ·simp[execOp,Instr.makeFunc]
   ·exact ho.elim
 case call c =>
  obtain⟨callee,args,ats⟩:=c
  cases callee with
  | value f=>simp at hv
  | invoke r m=>simp at hv
  | builtin b =>
   simp only at hgs ho ⊢
   obtain⟨args⟩:=args
   obtain⟨ats⟩:=ats
   cases b <;> simp only[pmb7]at hv ho ⊢ <;> try exact ho.elim
   case len =>
    rcases args with _ | ⟨x,_ | ⟨y,rest⟩⟩ <;> simp only[rds]at ho <;> try exact ho.elim
    rcases ats with _ | ⟨t,_ | ⟨t2,rest⟩⟩ <;> simp only at ho <;> try exact ho.elim
    obtain⟨r,h1,h2⟩:=dnb7 hT t type (h.rd (hgs.1 rfl)) ho
    exact⟨r,h1,fun w' _=>by have:=lift (x:=Builtin.len_ #[t] type #[a.eval x]) (h2 w');simpa[execOp,resolve,invoke,builtin]using this⟩
   case max =>
    rcases args with _ | ⟨x,_ | ⟨y,_ | ⟨z,rest⟩⟩⟩ <;> simp only[rds]at ho <;> try exact ho.elim
    obtain⟨r,h1,h2⟩:=olb7 (P:=P) true (h.rd (hgs.1 rfl)) (h.rd (hgs.2.1 rfl)) ho ats.toArray type
    exact⟨r,h1,fun w' _=>by have:=lift (x:=Builtin.max_ ats.toArray type #[a.eval x,a.eval y]) (h2 w');simpa[execOp,resolve,invoke,builtin]using this⟩
   case min =>
    rcases args with _ | ⟨x,_ | ⟨y,_ | ⟨z,rest⟩⟩⟩ <;> simp only[rds]at ho <;> try exact ho.elim
    obtain⟨r,h1,h2⟩:=olb7 (P:=P) false (h.rd (hgs.1 rfl)) (h.rd (hgs.2.1 rfl)) ho ats.toArray type
    exact⟨r,h1,fun w' _=>by have:=lift (x:=Builtin.min_ ats.toArray type #[a.eval x,a.eval y]) (h2 w');simpa[execOp,resolve,invoke,builtin]using this⟩
theorem cab7 (hT:qb7 P ty) (h:St E nt M σ a w) {o:Oper}(hv:isV o.op=true) {g:Bool}(hg:g=true) (hgs:gOk true (bm7 σ.rd o.op)) (ho:(opV ty g σ.rd σ.H o.op).1) :
  ∃v,ha7 M σ.H w (opV ty g σ.rd σ.H o.op).2 v∧∀w',Same M σ.H w w'→(execOp a.eval o).run P w' = .ok (.value v) w':=by
 obtain⟨v,h1,h2⟩:=xy7 hT h hv hg hgs ho
 exact⟨v,h1,fun w' hs=>h2 w' fun _=>hs⟩
end val
end Go.Proofs.YtabadfkikdefeaaGreat.Ab
