/- An abstract machine: what temporaries and rows of one's own hold, told without addresses; what a piece of code asks, as a plain condition ('awp'). -/
import Derived.Test.YtabadfkikdefeaaGreatO1
set_option linter.all false
set_option maxRecDepth 100000
set_option maxHeartbeats 6400000
namespace Go.Proofs.YtabadfkikdefeaaGreat.Ab
open Go.RowKit
inductive CK where
 | i (k:IntKind)
 | s (t:TypeId) (ck:List CK) (b:Nat)
inductive AV where
 | int (k:IntKind) (n:Int)
 | bool (b:Bool)
 | flt (n:Nat)
 | str (s:ByteArray)
 | nilp
 | nils
 | ptr (id n i o:Nat)
 | h (id st len:Nat)
 | sl (n sz:Nat) (f:Nat→Nat→AV)
 | rp (n:Nat) (f:Nat→AV)
 | ws (t:TypeId) (ck:List CK) (n:Nat)
 | wu (t:TypeId) (ck:List CK) (b:Nat)
 | wp (t:TypeId) (ck:List CK) (o:Nat)
 | junk
inductive RV where
 | c (a:AV)
 | agg (l:List AV)
 | fn (f:FuncId) (caps:List AV) (nb:Nat:=0)
 | tup (l:List RV)
 | ifc (t:TypeId) (x:RV)
inductive Row where
 | box (l:List AV)
 | ints (k:IntKind) (l:List Int)
 | bools (l:List Bool)
 | gen (els:List (List AV))
 | own (els:List (List AV))
inductive Root where
 | live (fz:Bool) (ty:TypeId) (sz:Nat) (r:Row)
 | dead
abbrev Tm:=List (Nat×Bool×RV)
structure AS where
 tm:Tm
 H:List Root
inductive TyK where
 | i (k:IntKind)
 | b
 | str
 | sc
 | st (fs:List (Nat×Nat))
 | ar (n esz:Nat)
 | sl (e:TypeId)
 | no
structure TyE where
 sz:Nat
 bytes:Nat
 k:TyK
 zero:List AV
 wk:Option (List CK)
abbrev Ty:=TypeId→TyE
def inK:IntKind→Int→Prop
 | .i8,n=>-128≤n∧n≤127
 | .i16,n=>-32768≤n∧n≤32767
 | .i32,n=>-2147483648≤n∧n≤2147483647
 | .i64,n=>-9223372036854775808≤n∧n≤9223372036854775807
 | .u8,n=>0≤n∧n≤255
 | .u16,n=>0≤n∧n≤65535
 | .u32,n=>0≤n∧n≤4294967295
 | .u64,n=>0≤n∧n≤18446744073709551615
def lk:Tm→Nat→Bool×RV
 | [],_=>(true,.c .junk)
 | (k,v)::l,t=>if k=t then v else lk l t
def nl7:Value→RV
 | .int k n=>.c (.int k n)
 | .bool b=>.c (.bool b)
 | .string s=>.c (.str s)
 | .float .f64 n=>.c (.flt n)
 | .pointer none=>.c .nilp
 | .slice none 0 0=>.c .nils
 | _=>.c .junk
def AS.rd (σ:AS):Operand→Bool×RV
 | .tmp t=>lk σ.tm t
 | .const v=>(true,nl7 v)
 | .func f=>(true,.fn f [])
 | .global _=>(true,.c .junk)
def wb7 (l:Tm) (g:Bool) (d:Option Nat) (v:RV):Tm :=
 match d with
 | some t=>(t,g,v)::l
 | none=>l
def aa7:List Root→Nat→Root
 | [],_=>.dead
 | r::_,0=>r
 | _::l,n+1=>aa7 l n
def ca7:List Root→Nat→Root→List Root
 | [],_,_=>[]
 | _::l,0,a=>a::l
 | b::l,n+1,a=>b::ca7 l n a
def nth:List AV→Nat→AV
 | [],_=>.junk
 | a::_,0=>a
 | _::l,n+1=>nth l n
def zbb7:List AV→Nat→AV→List AV
 | [],_,_=>[]
 | _::l,0,a=>a::l
 | b::l,n+1,a=>b::zbb7 l n a
def pat:List AV→Nat→List AV→List AV
 | l,_,[]=>l
 | l,o,a::vs=>pat (zbb7 l o a) (o+1) vs
def Row.len:Row→Nat
 | .box _=>1
 | .ints _ l=>l.length
 | .bools l=>l.length
 | .gen l=>l.length
 | .own l=>l.length
def Row.isBox:Row→Bool
 | .box _=>true
 | .own _=>true
 | _=>false
def Row.one:Row→Bool
 | .box _=>true
 | _=>false
def Row.get:Row→Nat→Nat→AV
 | .box l,_,o=>nth l o
 | .ints k l,i,_=>.int k (l.getD i 0)
 | .bools l,i,_=>.bool (l.getD i false)
 | .gen l,i,o=>nth (l.getD i []) o
 | .own l,i,o=>nth (l.getD i []) o
def tab (f:Nat→AV):Nat→Nat→List AV
 | _,0=>[]
 | k,n+1=>f k::tab f (k+1) n
def at2:List (Nat×Nat)→Nat→Nat×Nat
 | [],_=>(0,0)
 | a::_,0=>a
 | _::l,n+1=>at2 l n
def oa7:RV→List AV
 | .c a=>[a]
 | .agg l=>l
 | _=>[]
def AV.nj:AV→Bool
 | .junk=>false
 | _=>true
def njL:List AV→Bool
 | []=>true
 | a::l=>a.nj&&njL l
def AV.fr:AV→Bool
 | .junk | .ptr .. | .h .. | .ws .. | .wu .. | .wp .. => false
 | _=>true
abbrev Vo:=Prop×RV
def no:Vo:=(False,.c .junk)
def hmb7 (op:BinOp) (a b:Int):Vo :=
 match op with
 | .eql=>(True,.c (.bool (decide (a=b))))
 | .neq=>(True,.c (.bool (decide (a≠b))))
 | .lss=>(True,.c (.bool (decide (a<b))))
 | .leq=>(True,.c (.bool (decide (a≤b))))
 | .gtr=>(True,.c (.bool (decide (b<a))))
 | .geq=>(True,.c (.bool (decide (b≤a))))
 | _=>no
def se7 (op:BinOp) (k:IntKind) (a b:Int):Vo :=
 match op with
 | .add=>(inK k (a+b),.c (.int k (a+b)))
 | .sub=>(inK k (a-b),.c (.int k (a-b)))
 | .mul=>(inK k (a*b),.c (.int k (a*b)))
 | .quo=>(b≠0∧inK k (a.tdiv b),.c (.int k (a.tdiv b)))
 | .rem=>(b≠0,.c (.int k (a.tmod b)))
 | _=>hmb7 op a b
def eqS (a b:ByteArray):Bool:=decide (a.data.toList=b.data.toList)
def zhb7 (op:BinOp) (a b:ByteArray):Vo :=
 match op with
 | .add=>(a.size+b.size≤9223372036854775807,.c (.str (a++b)))
 | .eql=>(True,.c (.bool (eqS a b)))
 | .neq=>(True,.c (.bool (!eqS a b)))
 | _=>no
def okb7 (s:ByteArray) (lo hi:Int):Vo:=(0≤lo∧lo≤hi∧hi≤s.size,.c (.str (s.extract lo.toNat hi.toNat)))
def lcb7 (op:BinOp) (t:TyK):RV→RV→Vo
 | .c (.int k a),.c (.int k' b)=>(k=k'∧(se7 op k a b).1,(se7 op k a b).2)
 | .c (.bool a),.c (.bool b)=>match t with
  | .b=>match op with
   | .eql=>(True,.c (.bool (a==b)))
   | .neq=>(True,.c (.bool (a != b)))
   | _=>no
  | _=>no
 | .c (.str a),.c (.str b)=>zhb7 op a b
 | _,_=>no
def unV (op:UnOp):RV→Vo
 | .c (.bool a)=>match op with
  | .not=>(True,.c (.bool (!a)))
  | _=>no
 | .c (.int k a)=>match op with
  | .neg=>(inK k (-a),.c (.int k (-a)))
  | _=>no
 | _=>no
def odb7 (c a b:Bool):Bool:=if c=true then a else b
def hvb7 (c:Bool) (a b:Int):Int:=if c=true then a else b
def mt7:RV→RV→RV→Vo
 | .c (.bool c),.c (.bool a),.c (.bool b)=>(True,.c (.bool (odb7 c a b)))
 | .c (.bool c),.c (.int k a),.c (.int k' b)=>(k=k',.c (.int k (hvb7 c a b)))
 | .c (.bool c),.c .junk,b=>(c=false,b)
 | .c (.bool c),a,.c .junk=>(c=true,a)
 | _,_,_=>no
def vld (H:List Root) (id st len:Nat):Prop :=
 match aa7 H id with
 | .live _ _ _ r=>st+len=r.len
 | .dead=>False
def an7 (H:List Root) (id st len:Nat):Prop :=
 match aa7 H id with
 | .live _ _ _ r=>st+len=r.len∧r.isBox=false
 | .dead=>False
def hjb7 (k:TyK) (H:List Root) (x:RV):Vo :=
 match k with
 | .sl _=>match x with
  | .c (.sl n _ _)=>(True,.c (.int .i64 n))
  | .c (.h id st n)=>(vld H id st n,.c (.int .i64 n))
  | .c .nils=>(True,.c (.int .i64 0))
  | .c (.ws _ _ n)=>(True,.c (.int .i64 n))
  | _=>no
 | .str=>match x with
  | .c (.str s)=>(True,.c (.int .i64 s.size))
  | _=>no
 | _=>no
def anb7 (H:List Root) (id n:Nat):Prop :=
 match aa7 H id with
 | .live _ _ _ r=>r.len=n
 | .dead=>False
def rl7 (k:TyK) (H:List Root) (x:RV) (f:Nat):Vo :=
 match k with
 | .st fs=>match x with
  | .c (.rp n g)=>((at2 fs f).2≠0∧(at2 fs f).1+(at2 fs f).2≤n,.c (.rp (at2 fs f).2 (fun j=>g (j+(at2 fs f).1))))
  | .c (.ptr id n i o)=>((at2 fs f).2≠0∧anb7 H id n,.c (.ptr id n i (o+(at2 fs f).1)))
  | .c (.wp t ck o)=>((at2 fs f).2≠0,.c (.wp t ck (o+(at2 fs f).1)))
  | _=>no
 | _=>no
def ll7 (ty:Ty) (k:TyK) (H:List Root):RV→RV→Vo
 | .c (.sl n sz f),.c (.int _ i)=>match k with
  | .sl e=>((0≤i∧i<n)∧sz=(ty e).sz,.c (.rp sz (fun j=>f i.toNat j)))
  | _=>no
 | .c (.h id st n),.c (.int _ i)=>match k with
  | .sl e=>match aa7 H id with
   | .live _ _ sz r=>((0≤i∧i<n)∧st+n=r.len∧sz=(ty e).sz,.c (.ptr id r.len (st+i.toNat) 0))
   | .dead=>no
  | _=>no
 | .c (.ws t ck n),.c (.int _ i)=>match k with
  | .sl e=>((0≤i∧i<n)∧t=e∧ck.length=(ty e).sz,.c (.wp t ck 0))
  | _=>no
 | _,_=>no
def pnb7:List CK→Nat→Option CK
 | [],_=>none
 | a::_,0=>some a
 | _::l,n+1=>pnb7 l n
def ykb7:Option CK→Vo
 | some (.s t ck b)=>(True,.c (.wu t ck b))
 | _=>no
def gl7 (e:TyE) (H:List Root):RV→Vo
 | .c (.rp n g)=>match e.k with
  | .st _=>(e.sz≤n,.agg (tab g 0 e.sz))
  | .ar .. => no
  | .no=>no
  | _=>(1≤n,.c (g 0))
 | .c (.ptr id n i o)=>match aa7 H id with
  | .live _ _ sz r=>match e.k with
   | .st _=>(r.len=n∧i<n∧o+e.sz≤sz,.agg (tab (r.get i) o e.sz))
   | .ar .. => no
   | .no=>no
   | _=>(r.len=n∧i<n∧o<sz,.c (r.get i o))
  | .dead=>no
 | .c (.wp _ ck o)=>match e.k with
  | .sl _=>ykb7 (pnb7 ck o)
  | _=>no
 | _=>no
def kjb7:List RV→Nat→Vo
 | [],_=>no
 | a::_,0=>(True,a)
 | _::l,n+1=>kjb7 l n
def qjb7 (x:RV) (i:Nat):Vo :=
 match x with
 | .tup l=>kjb7 l i
 | _=>no
def bs7 (s k:TyK):RV→Vo
 | .c (.int _ n)=>match s with
  | .i _=>match k with
   | .i k=>(inK k n,.c (.int k n))
   | _=>no
  | _=>no
 | _=>no
def sb7 (pl:Nat→Nat×Nat) (rd:Operand→Bool×RV):List AV→List (Nat×Operand)→Prop×List AV
 | l,[]=>(True,l)
 | l,(i,x)::ps=>(((pl i).2≠0∧njL (oa7 (rd x).2)=true∧(oa7 (rd x).2).length=(pl i).2∧(pl i).1+(pl i).2≤l.length)∧(sb7 pl rd (pat l (pl i).1 (oa7 (rd x).2)) ps).1,(sb7 pl rd (pat l (pl i).1 (oa7 (rd x).2)) ps).2)
def mmV (mx:Bool):RV→RV→Vo
 | .c (.int k a),.c (.int k' b)=>(k=k',.c (.int k (if mx then max a b else min a b)))
 | _,_=>no
def gOk (g:Bool):List Bool→Prop
 | []=>True
 | h::l=>(g=true→h=true)∧gOk g l
def rds (rd:Operand→Bool×RV):List Operand→List RV
 | []=>[]
 | x::l=>(rd x).2::rds rd l
def rgs (rd:Operand→Bool×RV):List Operand→List Bool
 | []=>[]
 | x::l=>(rd x).1::rgs rd l
def pgs (rd:Operand→Bool×RV):List (Nat×Operand)→List Bool
 | []=>[]
 | (_,x)::l=>(rd x).1::pgs rd l
def keb7 (k:TyK):RV→RV→Vo
 | .c (.ws t ck n),.c (.int _ m)=>match k with
  | .sl _=>(0≤m∧m≤n,.c (.ws t ck m.toNat))
  | _=>no
 | .c .nils,.c (.int _ m)=>match k with
  | .sl _=>(m=0,.c .nils)
  | _=>no
 | .c (.sl n sz f),.c (.int _ m)=>match k with
  | .sl _=>(0≤m∧m≤n,.c (.sl m.toNat sz f))
  | _=>no
 | .c (.str s),.c (.int _ m)=>match k with
  | .str=>okb7 s 0 m
  | _=>no
 | _,_=>no
def lhb7 (ty:Ty) (k:TyK):RV→RV→Vo
 | .c (.str s),.c (.int _ m)=>match k with
  | .str=>okb7 s m s.size
  | _=>no
 | .c (.sl n sz f),.c (.int _ m)=>match k with
  | .sl e=>((0≤m∧m<n)∧sz=(ty e).sz,.c (.sl (n-m.toNat) sz fun i j=>f (i+m.toNat) j))
  | _=>no
 | _,_=>no
def yib7 (k:TyK):RV→RV→RV→Vo
 | .c (.str s),.c (.int _ l),.c (.int _ m)=>match k with
  | .str=>okb7 s l m
  | _=>no
 | _,_,_=>no
def rpb7 (s:ByteArray) (n:Int):Int:=((s.data.toList.getD n.toNat 0).toNat:Int)
def nib7 (k:TyK):RV→RV→Vo
 | .c (.str s),.c (.int _ m)=>match k with
  | .str=>(0≤m∧m<s.size,.c (.int .u8 (rpb7 s m)))
  | _=>no
 | _,_=>no
def ulb7 (H:List Root) (x:RV):Vo :=
 match x with
 | .c (.ptr id n i o)=>match aa7 H id with
  | .live _ _ _ r=>(r.len=n,.c (.ptr id n i o))
  | _=>no
 | _=>no
def cnb7 (ty:Ty) (k:TyK) (rd:Operand→Bool×RV) (x:RV):Option Operand→Option Operand→Option Operand→Vo
 | none,some h,none=>keb7 k x (rd h).2
 | some l,none,none=>lhb7 ty k x (rd l).2
 | some l,some h,none=>yib7 k x (rd l).2 (rd h).2
 | _,_,_=>no
def tfb7:List RV→Option (List AV)
 | []=>some []
 | .c a::l=>(tfb7 l).map (a :: ·)
 | _::_=>none
def njb7 (f:FuncId) (nb:Nat):Option (List AV)→Vo
 | some l=>(True,.fn f l nb)
 | none=>no
def gkb7 (rd:Operand→Bool×RV) (fn:Fn) (first:List Operand) (l:List RV):Vo :=
 match fn,first with
 | .func f,[]=>njb7 f 0 (tfb7 l)
 | .func f,[x]=>njb7 f 1 (tfb7 ((rd x).2::l))
 | _,_=>no
section
variable (ty:Ty)
def bm7 (rd:Operand→Bool×RV):Op→List Bool
 | .move x | .assign x | .unOp _ _ x | .fieldAddr _ x _ | .load _ x | .extract x _ | .convert _ _ x | .field _ x _ | .box _ x | .nilCheck x | .makeInterface _ x | .panic x=>[(rd x).1]
 | .binOp _ _ x y _ | .indexAddr _ x y | .index _ x y | .store _ x y | .makeSlice _ x y=>[(rd x).1,(rd y).1]
 | .pick c _ _=>[(rd c).1]
 | .build _ ps | .buildSlice _ _ ps=>pgs rd ps.toList
 | .call c=>match c.callee with
  | .value f=>(rd f).1::rgs rd c.args.toList
  | _=>rgs rd c.args.toList
 | .slice _ x lo hi _=>(rd x).1::(rgs rd lo.toList++rgs rd hi.toList)
 | .makeFunc _ first caps=>rgs rd first.toList++rgs rd caps.toList
 | _=>[]
def pmb7 (H:List Root) (b:Builtin) (ts:List TypeId) (l:List RV):Vo :=
 match b with
 | .len=>match l with
  | [x]=>match ts with
   | [t]=>hjb7 (ty t).k H x
   | _=>no
  | _=>no
 | .max=>match l with
  | [x,y]=>mmV true x y
  | _=>no
 | .min=>match l with
  | [x,y]=>mmV false x y
  | _=>no
 | _=>no
def opV (g:Bool) (rd:Operand→Bool×RV) (H:List Root):Op→Vo
 | .move x | .assign x=>(True,(rd x).2)
 | .binOp op t x y _=>lcb7 op (ty t).k (rd x).2 (rd y).2
 | .unOp op _ x=>unV op (rd x).2
 | .convert s t x=>bs7 (ty s).k (ty t).k (rd x).2
 | .pick c a b=>match (rd c).2 with
  | .c (.bool cb)=>(gOk (g&&cb) [(rd a).1]∧gOk (g && !cb) [(rd b).1]∧(mt7 (.c (.bool cb)) (rd a).2 (rd b).2).1,(mt7 (.c (.bool cb)) (rd a).2 (rd b).2).2)
  | _=>no
 | .fieldAddr t x f=>rl7 (ty t).k H (rd x).2 f
 | .indexAddr t x i=>ll7 ty (ty t).k H (rd x).2 (rd i).2
 | .load t x=>gl7 (ty t) H (rd x).2
 | .index t x i=>nib7 (ty t).k (rd x).2 (rd i).2
 | .nilCheck x=>ulb7 H (rd x).2
 | .extract x i=>qjb7 (rd x).2 i
 | .slice t x lo hi mx=>cnb7 ty (ty t).k rd (rd x).2 lo hi mx
 | .makeFunc fn first caps=>gkb7 rd fn first.toList (rds rd caps.toList)
 | .build t ps=>match (ty t).k with
  | .st fs=>((sb7 (at2 fs) rd (ty t).zero ps.toList).1,.agg (sb7 (at2 fs) rd (ty t).zero ps.toList).2)
  | _=>no
 | .call c=>match c.callee with
  | .builtin b=>pmb7 ty H b c.argTypes.toList (rds rd c.args.toList)
  | _=>no
 | _=>no
def isV:Op→Bool
 | .move _ | .assign _ | .binOp .. | .unOp .. | .convert .. | .pick .. | .fieldAddr .. | .indexAddr .. | .index .. | .nilCheck .. | .load .. | .extract .. | .build .. | .slice .. | .makeFunc .. => true
 | .call c=>match c.callee with
  | .builtin .len | .builtin .max | .builtin .min=>true
  | _=>false
 | _=>false
def frz (H:List Root):AV→AV
 | .h id st len=>match aa7 H id with
  | .live _ _ sz r=>.sl len sz (fun i j=>r.get (st+i) j)
  | .dead=>.junk
 | .ptr .. => .junk
 | a=>a
def hh7 (H:List Root):List AV→List AV
 | []=>[]
 | a::l=>frz H a::hh7 H l
def bb7 (H:List Root):List AV→Prop
 | []=>True
 | .h id st len::l=>an7 H id st len∧bb7 H l
 | .ptr .. :: _=>False
 | .junk::_=>False
 | .ws .. :: _=>False
 | .wu .. :: _=>False
 | .wp .. :: _=>False
 | _::l=>bb7 H l
def Root.mark:Root→Root
 | .live _ ty sz r=>.live true ty sz r
 | .dead=>.dead
def frzH:List Root→List AV→List Root
 | H,[]=>H
 | H,.h id _ _::l=>frzH (ca7 H id (aa7 H id).mark) l
 | H,_::l=>frzH H l
def Row.put (sz:Nat):Row→Nat→Nat→List AV→Prop×Row
 | .box l,_,o,cs=>(True,.box (pat l o cs))
 | .ints k l,i,_,[.int k' n]=>(k'=k∧sz=1,.ints k (l.set i n))
 | .bools l,i,_,[.bool b]=>(sz=1,.bools (l.set i b))
 | .gen l,i,o,cs=>(True,.gen (l.set i (pat (l.getD i []) o cs)))
 | .own l,i,o,cs=>(True,.own (l.set i (pat (l.getD i []) o cs)))
 | r,_,_,_=>(False,r)
def kN (k:TyK):Prop :=
 match k with
 | .no=>False
 | _=>True
def mv7 (e:TyE) (H:List Root) (p v:RV) (K:List Root→Prop):Prop :=
 match p with
 | .c (.ptr id n i o)=>match aa7 H id with
  | .live fz t sz r=>fz=false∧((oa7 v).length=e.sz∧r.len=n∧i<n∧o+e.sz≤sz∧0<e.sz∧kN e.k) ∧
   if r.isBox then njL (oa7 v)=true∧K (ca7 H id (.live false t sz (r.put sz i o (oa7 v)).2))
   else bb7 H (oa7 v)∧aa7 (frzH H (oa7 v)) id = .live false t sz r∧(r.put sz i o (hh7 H (oa7 v))).1∧K (ca7 (frzH H (oa7 v)) id (.live false t sz (r.put sz i o (hh7 H (oa7 v))).2))
  | .dead=>False
 | _=>False
def sj7 (k:IntKind):List (List AV)→Option (List Int)
 | []=>some []
 | [.int k' n]::l=>if k'=k then (sj7 k l).map (n :: ·) else none
 | _::_=>none
def rh7:List (List AV)→Option (List Bool)
 | []=>some []
 | [.bool b]::l=>(rh7 l).map (b :: ·)
 | _::_=>none
def rep (z:List AV):Nat→List AV
 | 0=>[]
 | n+1=>z++rep z n
def takeN:Nat→List AV→List AV
 | 0,_=>[]
 | _,[]=>[]
 | n+1,a::l=>a::takeN n l
def px7:Nat→List AV→List AV
 | 0,l=>l
 | _,[]=>[]
 | n+1,_::l=>px7 n l
def chunk (sz:Nat):Nat→List AV→List (List AV)
 | 0,_=>[]
 | n+1,l=>takeN sz l::chunk sz n (px7 sz l)
def mf7 (k:TyK) (els:List (List AV)):Prop×Row :=
 match k with
 | .i k=>match sj7 k els with
  | some l=>(True,.ints k l)
  | none=>(False,.gen els)
 | .b=>match rh7 els with
  | some l=>(True,.bools l)
  | none=>(False,.gen els)
 | .no=>(False,.gen els)
 | _=>(True,.gen els)
def jjb7 (e:TypeId) (H:List Root) (n:Nat) (q:Prop×List AV) (K:RV→List Root→Prop):Prop :=
 q.1∧bb7 H q.2∧(mf7 (ty e).k (chunk (ty e).sz n (hh7 H q.2))).1∧(0<(ty e).sz∧n*(ty e).sz≤16777216)∧K (.c (.h H.length 0 n)) (frzH H q.2++[.live false e (ty e).sz (mf7 (ty e).k (chunk (ty e).sz n (hh7 H q.2))).2])
def llb7 (e:TypeId) (H:List Root) (n:Nat) (q:Prop×List AV) (K:RV→List Root→Prop):Prop :=
 q.1∧njL q.2=true∧(0<(ty e).sz∧n*(ty e).sz≤16777216)∧K (.c (.h H.length 0 n)) (H++[.live false e (ty e).sz (.own (chunk (ty e).sz n q.2))])
def zOk (k:TyK) (z:List AV):Prop :=
 match k with
 | .i k=>z=[.int k 0]
 | .b=>z=[.bool false]
 | .no=>False
 | _=>bb7 [] z
def zeros (k:TyK) (z:List AV) (n:Nat):Row :=
 match k with
 | .i k=>.ints k (List.replicate n 0)
 | .b=>.bools (List.replicate n false)
 | _=>.gen (List.replicate n z)
def jd7 (wk:Option (List CK)) (k:TyK) (z:List AV) (n:Nat):Row :=
 match wk with
 | some []=>.own (List.replicate n z)
 | _=>zeros k z n
def obb7 (k:TyK) (H:List Root) (n c:RV) (K:RV→List Root→Prop):Prop :=
 match k with
 | .sl e=>match n,c with
  | .c (.int _ n),.c (.int _ c)=>(0≤n∧n≤1099511627776∧c=n∧0<(ty e).sz∧(ty e).bytes≤128∧zOk (ty e).k (ty e).zero)∧K (.c (.h H.length 0 n.toNat)) (H++[.live false e (ty e).sz (jd7 (ty e).wk (ty e).k (ty e).zero n.toNat)])
  | _,_=>False
 | _=>False
def ckE:List CK→List AV→Prop
 | [],[]=>True
 | .i k::l,.int k' n::z=>(k=k'∧inK k n)∧ckE l z
 | .s t c b::l,.ws t' c' n::z=>(t=t'∧c=c'∧n≤b)∧ckE l z
 | .s t c b::l,.wu t' c' b'::z=>(t=t'∧c=c'∧b'≤b)∧ckE l z
 | .s _ _ _::l,.nils::z=>ckE l z
 | _,_=>False
def zW:List CK→List AV→Prop
 | [],[]=>True
 | .i k::l,.int k' n::z=>(k=k'∧n=0)∧zW l z
 | .s _ _ _::l,.nils::z=>zW l z
 | _,_=>False
def job7 (e:TypeId) (ck:List CK) (n:Nat) (q:Prop×List AV) (K:RV→Prop):Prop :=
 q.1∧(n=1∧ckE ck q.2∧0<(ty e).sz∧(ty e).sz≤16777216∧ck.length=(ty e).sz)∧K (.c (.ws e ck 1))
def appW (e:TypeId) (ck:List CK) (s x:RV) (K:RV→Prop):Prop :=
 match x with
 | .c (.ws t' ck' m)=>((t'=e∧ck'=ck∧0<m∧m≤1099511627776)∧ck.length=(ty e).sz∧0<(ty e).sz∧(ty e).bytes≤128∧zW ck (ty e).zero)∧match s with
  | .c .nils=>K (.c (.ws e ck m))
  | .c (.ws t2 ck2 n)=>(t2=e∧ck2=ck∧n+m≤1099511627776)∧K (.c (.ws e ck (n+m)))
  | .c (.wu t2 ck2 b)=>(t2=e∧ck2=ck∧b+m≤1099511627776)∧K (.c (.wu e ck (b+m)))
  | _=>False
 | _=>False
def Row.app:Row→Row→Prop×Row
 | .ints k l,.ints k' m=>(k=k',.ints k (l++m))
 | .bools l,.bools m=>(True,.bools (l++m))
 | .gen l,.gen m=>(True,.gen (l++m))
 | .own l,.own m=>(True,.own (l++m))
 | r,_=>(False,r)
def Row.drop:Row→Nat→Row
 | .ints k l,n=>.ints k (l.drop n)
 | .bools l,n=>.bools (l.drop n)
 | .gen l,n=>.gen (l.drop n)
 | .own l,n=>.own (l.drop n)
 | r,_=>r
def nv7 (k:IntKind) (g:Nat→AV):Nat→Nat→Option (List Int)
 | _,0=>some []
 | i,n+1=>match g i with
  | .int k' v=>if k'=k then (nv7 k g (i+1) n).map (v :: ·) else none
  | _=>none
def ww7 (f:Nat→Nat→AV) (sz:Nat):Nat→Nat→List (List AV)
 | _,0=>[]
 | i,n+1=>tab (f i) 0 sz::ww7 f sz (i+1) n
def ex7 (n sz:Nat) (f:Nat→Nat→AV):Row :=
 match f 0 0 with
 | .int k _=>match nv7 k (fun i=>f i 0) 0 n with
  | some l=>if sz=1 then .ints k l else .gen (ww7 f sz 0 n)
  | none=>.gen (ww7 f sz 0 n)
 | _=>.gen (ww7 f sz 0 n)
def ta7 (H:List Root):RV→Prop×Row×Nat
 | .c (.sl n sz f)=>((0<n∧0<sz)∧((List.range n).all fun i=>(List.range sz).all fun j=>(f i j).nj)=true,ex7 n sz f,sz)
 | .c (.h id st len)=>match aa7 H id with
  | .live _ _ sz r=>(st+len=r.len∧r.one=false,r.drop st,sz)
  | .dead=>(False,.gen [],0)
 | _=>(False,.gen [],0)
def AV.strOf:AV→Option ByteArray
 | .str s=>some s
 | _=>none
def strOf:RV→Option ByteArray
 | .c a=>a.strOf
 | _=>none
def byI (s:ByteArray):List Int:=s.data.toList.map fun b=>(b.toNat:Int)
def inb7 (k:TyK) (H:List Root) (s:RV) (b:ByteArray) (K:RV→List Root→Prop):Prop :=
 match k with
 | .sl e=>((ty e).k = .i .u8∧(ty e).sz=1∧(ty e).bytes=1) ∧
  match s with
  | .c .nils=>(0<b.size∧b.size≤1099511627776)∧K (.c (.h H.length 0 b.size)) (H++[.live false e 1 (.ints .u8 (byI b))])
  | .c (.h id st len)=>match aa7 H id with
   | .live fz t sz r=>(fz=false∧st=0∧len=r.len∧t=e∧sz=1∧len+b.size≤1099511627776)∧(r.app (.ints .u8 (byI b))).1∧K (.c (.h id 0 (len+b.size))) (ca7 H id (.live false t sz (r.app (.ints .u8 (byI b))).2))
   | .dead=>False
  | _=>False
 | _=>False
def uw7 (k:TyK) (H:List Root) (s x:RV) (K:RV→List Root→Prop):Prop :=
 match k with
 | .sl e=>(ta7 H x).1∧(ta7 H x).2.2=(ty e).sz∧0<(ty e).sz∧(ty e).bytes≤128 ∧
  match s with
  | .c .nils=>(0<(ta7 H x).2.1.len∧(ta7 H x).2.1.len≤1099511627776)∧K (.c (.h H.length 0 (ta7 H x).2.1.len)) (H++[.live false e (ty e).sz (ta7 H x).2.1])
  | .c (.h id st len)=>match aa7 H id with
   | .live fz t sz r=>(fz=false∧st=0∧len=r.len∧t=e∧sz=(ty e).sz∧len+(ta7 H x).2.1.len≤1099511627776)∧(r.app (ta7 H x).2.1).1∧K (.c (.h id 0 (len+(ta7 H x).2.1.len))) (ca7 H id (.live false t sz (r.app (ta7 H x).2.1).2))
   | .dead=>False
  | _=>False
 | _=>False
end
end Go.Proofs.YtabadfkikdefeaaGreat.Ab
