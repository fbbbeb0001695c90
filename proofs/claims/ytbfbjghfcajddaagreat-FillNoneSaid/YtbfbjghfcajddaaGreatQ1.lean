/- Texts of the proof, joined: A1, A2, A3. -/
import Derived.Laws.Tables
import Derived.Test.YtbfbjghfcajddaaGreatO1
set_option linter.all false
set_option maxRecDepth 100000
set_option maxHeartbeats 6400000
namespace Go.Proofs.YtbfbjghfcajddaaGreat.Ab
open Go.RowKit
inductive CK where
 | i (k:IntKind)
 | s (t:TypeId) (ck:List CK) (b:Nat)
inductive AV where
 | int (k:IntKind) (n:Int)
 | bool (b:Bool)
 | flt (n:Nat)
 | str (s:ByteArray)
 | nilp
 | nils
 | ptr (id n i o:Nat)
 | h (id st len:Nat)
 | sl (n sz:Nat) (f:Nat → Nat → AV)
 | rp (n:Nat) (f:Nat → AV)
 | ws (t:TypeId) (ck:List CK) (n:Nat)
 | wu (t:TypeId) (ck:List CK) (b:Nat)
 | wp (t:TypeId) (ck:List CK) (o:Nat)
 | junk
inductive RV where
 | c (a:AV)
 | agg (l:List AV)
 | fn (f:FuncId) (caps:List AV)
 | tup (l:List RV)
 | ifc (t:TypeId) (x:RV)
inductive Row where
 | box (l:List AV)
 | ints (k:IntKind) (l:List Int)
 | bools (l:List Bool)
 | gen (els:List (List AV))
 | own (els:List (List AV))
inductive Root where
 | live (fz:Bool) (ty:TypeId) (sz:Nat) (r:Row)
 | dead
abbrev Tm:=List (Nat × Bool × RV)
structure AS where
 tm:Tm
 H:List Root
inductive TyK where
 | i (k:IntKind)
 | b
 | str
 | sc
 | st (fs:List (Nat × Nat))
 | ar (n esz:Nat)
 | sl (e:TypeId)
 | no
structure TyE where
 sz:Nat
 bytes:Nat
 k:TyK
 zero:List AV
 wk:Option (List CK)
abbrev Ty:=TypeId → TyE
def inK:IntKind → Int → Prop
 | .i8,n => -128 ≤ n ∧ n ≤ 127
 | .i16,n => -32768 ≤ n ∧ n ≤ 32767
 | .i32,n => -2147483648 ≤ n ∧ n ≤ 2147483647
 | .i64,n => -9223372036854775808 ≤ n ∧ n ≤ 9223372036854775807
 | .u8,n=>0 ≤ n ∧ n ≤ 255
 | .u16,n=>0 ≤ n ∧ n ≤ 65535
 | .u32,n=>0 ≤ n ∧ n ≤ 4294967295
 | .u64,n=>0 ≤ n ∧ n ≤ 18446744073709551615
def lk:Tm → Nat → Bool × RV
 | [],_=>(true, .c .junk)
 | (k,v) :: l,t=>if k = t then v else lk l t
def vi7:Value → RV
 | .int k n => .c (.int k n)
 | .bool b => .c (.bool b)
 | .string s => .c (.str s)
 | .float .f64 n => .c (.flt n)
 | .pointer none => .c .nilp
 | .slice none 0 0 => .c .nils
 | _ => .c .junk
def AS.rd (σ:AS):Operand → Bool × RV
 | .tmp t=>lk σ.tm t
 | .const v=>(true,vi7 v)
 | .func f=>(true, .fn f [])
 | .global _=>(true, .c .junk)
def dc7 (l:Tm) (g:Bool) (d:Option Nat) (v:RV):Tm :=
 match d with
 | some t=>(t,g,v) :: l
 | none=>l
def aa7:List Root → Nat → Root
 | [],_ => .dead
 | r :: _,0=>r
 | _ :: l,n + 1=>aa7 l n
def ba7:List Root → Nat → Root → List Root
 | [],_,_=>[]
 | _ :: l,0,a=>a :: l
 | b :: l,n + 1,a=>b :: ba7 l n a
def nth:List AV → Nat → AV
 | [],_ => .junk
 | a :: _,0=>a
 | _ :: l,n + 1=>nth l n
def do7:List AV → Nat → AV → List AV
 | [],_,_=>[]
 | _ :: l,0,a=>a :: l
 | b :: l,n + 1,a=>b :: do7 l n a
def pat:List AV → Nat → List AV → List AV
 | l,_,[]=>l
 | l,o,a :: vs=>pat (do7 l o a) (o + 1) vs
def Row.len:Row → Nat
 | .box _=>1
 | .ints _ l=>l.length
 | .bools l=>l.length
 | .gen l=>l.length
 | .own l=>l.length
def Row.isBox:Row → Bool
 | .box _=>true
 | .own _=>true
 | _=>false
def Row.one:Row → Bool
 | .box _=>true
 | _=>false
def Row.get:Row → Nat → Nat → AV
 | .box l,_,o=>nth l o
 | .ints k l,i,_ => .int k (l.getD i 0)
 | .bools l,i,_ => .bool (l.getD i false)
 | .gen l,i,o=>nth (l.getD i []) o
 | .own l,i,o=>nth (l.getD i []) o
def tab (f:Nat → AV):Nat → Nat → List AV
 | _,0=>[]
 | k,n + 1=>f k :: tab f (k + 1) n
def at2:List (Nat × Nat) → Nat → Nat × Nat
 | [],_=>(0,0)
 | a :: _,0=>a
 | _ :: l,n + 1=>at2 l n
def ga7:RV → List AV
 | .c a=>[a]
 | .agg l=>l
 | _=>[]
def AV.nj:AV → Bool
 | .junk=>false
 | _=>true
def njL:List AV → Bool
 | []=>true
 | a :: l=>a.nj && njL l
def AV.fr:AV → Bool
 | .junk | .ptr .. | .h .. | .ws .. | .wu .. | .wp .. => false
 | _=>true
abbrev Vo:=Prop × RV
def no:Vo:=(False, .c .junk)
def ru7 (op:BinOp) (a b:Int):Vo :=
 match op with
 | .eql=>(True, .c (.bool (decide (a = b))))
 | .neq=>(True, .c (.bool (decide (a ≠ b))))
 | .lss=>(True, .c (.bool (decide (a < b))))
 | .leq=>(True, .c (.bool (decide (a ≤ b))))
 | .gtr=>(True, .c (.bool (decide (b < a))))
 | .geq=>(True, .c (.bool (decide (b ≤ a))))
 | _=>no
def ne7 (op:BinOp) (k:IntKind) (a b:Int):Vo :=
 match op with
 | .add=>(inK k (a + b), .c (.int k (a + b)))
 | .sub=>(inK k (a - b), .c (.int k (a - b)))
 | .mul=>(inK k (a * b), .c (.int k (a * b)))
 | .quo=>(b ≠ 0 ∧ inK k (a.tdiv b), .c (.int k (a.tdiv b)))
 | .rem=>(b ≠ 0, .c (.int k (a.tmod b)))
 | _=>ru7 op a b
def ip7 (op:BinOp) (t:TyK):RV → RV → Vo
 | .c (.int k a), .c (.int k' b)=>(k = k' ∧ (ne7 op k a b).1,(ne7 op k a b).2)
 | .c (.bool a), .c (.bool b)=>match t with
  | .b=>match op with
   | .eql=>(True, .c (.bool (a == b)))
   | .neq=>(True, .c (.bool (a != b)))
   | _=>no
  | _=>no
 | _,_=>no
def unV (op:UnOp):RV → Vo
 | .c (.bool a)=>match op with
  | .not=>(True, .c (.bool (!a)))
  | _=>no
 | .c (.int k a)=>match op with
  | .neg=>(inK k (-a), .c (.int k (-a)))
  | _=>no
 | _=>no
def kx7 (c a b:Bool):Bool:=if c = true then a else b
def lx7 (c:Bool) (a b:Int):Int:=if c = true then a else b
def xk7:RV → RV → RV → Vo
 | .c (.bool c), .c (.bool a), .c (.bool b)=>(True, .c (.bool (kx7 c a b)))
 | .c (.bool c), .c (.int k a), .c (.int k' b)=>(k = k', .c (.int k (lx7 c a b)))
 | .c (.bool c), .c .junk,b=>(c = false,b)
 | .c (.bool c),a, .c .junk=>(c = true,a)
 | _,_,_=>no
def vld (H:List Root) (id st len:Nat):Prop :=
 match aa7 H id with
 | .live _ _ _ r=>st + len = r.len
 | .dead=>False
def qo7 (H:List Root) (id st len:Nat):Prop :=
 match aa7 H id with
 | .live _ _ _ r=>st + len = r.len ∧ r.isBox = false
 | .dead=>False
def js7 (k:TyK) (H:List Root) (x:RV):Vo :=
 match k with
 | .sl _=>match x with
  | .c (.sl n _ _)=>(True, .c (.int .i64 n))
  | .c (.h id st n)=>(vld H id st n, .c (.int .i64 n))
  | .c .nils=>(True, .c (.int .i64 0))
  | .c (.ws _ _ n)=>(True, .c (.int .i64 n))
  | _=>no
 | .str=>match x with
  | .c (.str s)=>(True, .c (.int .i64 s.size))
  | _=>no
 | _=>no
def kv7 (H:List Root) (id n:Nat):Prop :=
 match aa7 H id with
 | .live _ _ _ r=>r.len = n
 | .dead=>False
def wf7 (k:TyK) (H:List Root) (x:RV) (f:Nat):Vo :=
 match k with
 | .st fs=>match x with
  | .c (.rp n g)=>((at2 fs f).2 ≠ 0 ∧ (at2 fs f).1 + (at2 fs f).2 ≤ n, .c (.rp (at2 fs f).2 (fun j=>g (j + (at2 fs f).1))))
  | .c (.ptr id n i o)=>((at2 fs f).2 ≠ 0 ∧ kv7 H id n, .c (.ptr id n i (o + (at2 fs f).1)))
  | .c (.wp t ck o)=>((at2 fs f).2 ≠ 0, .c (.wp t ck (o + (at2 fs f).1)))
  | _=>no
 | _=>no
def fg7 (ty:Ty) (k:TyK) (H:List Root):RV → RV → Vo
 | .c (.sl n sz f), .c (.int _ i)=>match k with
  | .sl e=>((0 ≤ i ∧ i < n) ∧ sz = (ty e).sz, .c (.rp sz (fun j=>f i.toNat j)))
  | _=>no
 | .c (.h id st n), .c (.int _ i)=>match k with
  | .sl e=>match aa7 H id with
   | .live _ _ sz r=>((0 ≤ i ∧ i < n) ∧ st + n = r.len ∧ sz = (ty e).sz, .c (.ptr id r.len (st + i.toNat) 0))
   | .dead=>no
  | _=>no
 | .c (.ws t ck n), .c (.int _ i)=>match k with
  | .sl e=>((0 ≤ i ∧ i < n) ∧ t = e ∧ ck.length = (ty e).sz, .c (.wp t ck 0))
  | _=>no
 | _,_=>no
def fv7:List CK → Nat → Option CK
 | [],_=>none
 | a :: _,0=>some a
 | _ :: l,n + 1=>fv7 l n
def jv7:Option CK → Vo
 | some (.s t ck b)=>(True, .c (.wu t ck b))
 | _=>no
def rf7 (e:TyE) (H:List Root):RV → Vo
 | .c (.rp n g)=>match e.k with
  | .st _=>(e.sz ≤ n, .agg (tab g 0 e.sz))
  | .ar .. => no
  | .no=>no
  | _=>(1 ≤ n, .c (g 0))
 | .c (.ptr id n i o)=>match aa7 H id with
  | .live _ _ sz r=>match e.k with
   | .st _=>(r.len = n ∧ i < n ∧ o + e.sz ≤ sz, .agg (tab (r.get i) o e.sz))
   | .ar .. => no
   | .no=>no
   | _=>(r.len = n ∧ i < n ∧ o < sz, .c (r.get i o))
  | .dead=>no
 | .c (.wp _ ck o)=>match e.k with
  | .sl _=>jv7 (fv7 ck o)
  | _=>no
 | _=>no
def au7:List RV → Nat → Vo
 | [],_=>no
 | a :: _,0=>(True,a)
 | _ :: l,n + 1=>au7 l n
def hu7 (x:RV) (i:Nat):Vo :=
 match x with
 | .tup l=>au7 l i
 | _=>no
def cl7 (s k:TyK):RV → Vo
 | .c (.int _ n)=>match s with
  | .i _=>match k with
   | .i k=>(inK k n, .c (.int k n))
   | _=>no
  | _=>no
 | _=>no
def ta7 (pl:Nat → Nat × Nat) (rd:Operand → Bool × RV):List AV → List (Nat × Operand) → Prop × List AV
 | l,[]=>(True,l)
 | l,(i,x) :: ps=>(((pl i).2 ≠ 0 ∧ njL (ga7 (rd x).2) = true ∧ (ga7 (rd x).2).length = (pl i).2 ∧ (pl i).1 + (pl i).2 ≤ l.length) ∧ (ta7 pl rd (pat l (pl i).1 (ga7 (rd x).2)) ps).1,(ta7 pl rd (pat l (pl i).1 (ga7 (rd x).2)) ps).2)
def mmV (mx:Bool):RV → RV → Vo
 | .c (.int k a), .c (.int k' b)=>(k = k', .c (.int k (if mx then max a b else min a b)))
 | _,_=>no
def gOk (g:Bool):List Bool → Prop
 | []=>True
 | h :: l=>(g = true → h = true) ∧ gOk g l
def rds (rd:Operand → Bool × RV):List Operand → List RV
 | []=>[]
 | x :: l=>(rd x).2 :: rds rd l
def rgs (rd:Operand → Bool × RV):List Operand → List Bool
 | []=>[]
 | x :: l=>(rd x).1 :: rgs rd l
def pgs (rd:Operand → Bool × RV):List (Nat × Operand) → List Bool
 | []=>[]
 | (_,x) :: l=>(rd x).1 :: pgs rd l
def bs7 (k:TyK):RV → RV → Vo
 | .c (.ws t ck n), .c (.int _ m)=>match k with
  | .sl _=>(0 ≤ m ∧ m ≤ n, .c (.ws t ck m.toNat))
  | _=>no
 | .c .nils, .c (.int _ m)=>match k with
  | .sl _=>(m = 0, .c .nils)
  | _=>no
 | .c (.sl n sz f), .c (.int _ m)=>match k with
  | .sl _=>(0 ≤ m ∧ m ≤ n, .c (.sl m.toNat sz f))
  | _=>no
 | _,_=>no
def iv7 (k:TyK) (rd:Operand → Bool × RV) (x:RV):Option Operand → Option Operand → Option Operand → Vo
 | none,some h,none=>bs7 k x (rd h).2
 | _,_,_=>no
def as7:List RV → Option (List AV)
 | []=>some []
 | .c a :: l=>(as7 l).map (a :: ·)
 | _ :: _=>none
def uv7 (f:FuncId):Option (List AV) → Vo
 | some l=>(True, .fn f l)
 | none=>no
def cv7 (fn:Fn) (first:List Operand) (l:List RV):Vo :=
 match fn,first with
 | .func f,[]=>uv7 f (as7 l)
 | _,_=>no
section
variable (ty:Ty)
def pl7 (rd:Operand → Bool × RV):Op → List Bool
 | .move x | .assign x | .unOp _ _ x | .fieldAddr _ x _ | .load _ x | .extract x _ | .convert _ _ x | .field _ x _ | .box _ x | .nilCheck x=>[(rd x).1]
 | .binOp _ _ x y _ | .indexAddr _ x y | .index _ x y | .store _ x y | .makeSlice _ x y=>[(rd x).1,(rd y).1]
 | .pick c _ _=>[(rd c).1]
 | .build _ ps | .buildSlice _ _ ps=>pgs rd ps.toList
 | .call c=>match c.callee with
  | .value f=>(rd f).1 :: rgs rd c.args.toList
  | _=>rgs rd c.args.toList
 | .slice _ x lo hi _=>(rd x).1 :: (rgs rd lo.toList ++ rgs rd hi.toList)
 | .makeFunc _ _ caps=>rgs rd caps.toList
 | _=>[]
def ev7 (H:List Root) (b:Builtin) (ts:List TypeId) (l:List RV):Vo :=
 match b with
 | .len=>match l with
  | [x]=>match ts with
   | [t]=>js7 (ty t).k H x
   | _=>no
  | _=>no
 | .max=>match l with
  | [x,y]=>mmV true x y
  | _=>no
 | .min=>match l with
  | [x,y]=>mmV false x y
  | _=>no
 | _=>no
def opV (g:Bool) (rd:Operand → Bool × RV) (H:List Root):Op → Vo
 | .move x | .assign x=>(True,(rd x).2)
 | .binOp op t x y _=>ip7 op (ty t).k (rd x).2 (rd y).2
 | .unOp op _ x=>unV op (rd x).2
 | .convert s t x=>cl7 (ty s).k (ty t).k (rd x).2
 | .pick c a b=>match (rd c).2 with
  | .c (.bool cb)=>(gOk (g && cb) [(rd a).1] ∧ gOk (g && !cb) [(rd b).1] ∧ (xk7 (.c (.bool cb)) (rd a).2 (rd b).2).1,(xk7 (.c (.bool cb)) (rd a).2 (rd b).2).2)
  | _=>no
 | .fieldAddr t x f=>wf7 (ty t).k H (rd x).2 f
 | .indexAddr t x i=>fg7 ty (ty t).k H (rd x).2 (rd i).2
 | .load t x=>rf7 (ty t) H (rd x).2
 | .extract x i=>hu7 (rd x).2 i
 | .slice t x lo hi mx=>iv7 (ty t).k rd (rd x).2 lo hi mx
 | .makeFunc fn first caps=>cv7 fn first.toList (rds rd caps.toList)
 | .build t ps=>match (ty t).k with
  | .st fs=>((ta7 (at2 fs) rd (ty t).zero ps.toList).1, .agg (ta7 (at2 fs) rd (ty t).zero ps.toList).2)
  | _=>no
 | .call c=>match c.callee with
  | .builtin b=>ev7 ty H b c.argTypes.toList (rds rd c.args.toList)
  | _=>no
 | _=>no
def isV:Op → Bool
 | .move _ | .assign _ | .binOp .. | .unOp .. | .convert .. | .pick .. | .fieldAddr .. | .indexAddr .. | .load .. | .extract .. | .build .. | .slice .. | .makeFunc .. => true
 | .call c=>match c.callee with
  | .builtin .len | .builtin .max | .builtin .min=>true
  | _=>false
 | _=>false
def frz (H:List Root):AV → AV
 | .h id st len=>match aa7 H id with
  | .live _ _ sz r => .sl len sz (fun i j=>r.get (st + i) j)
  | .dead => .junk
 | .ptr .. => .junk
 | a=>a
def qf7 (H:List Root):List AV → List AV
 | []=>[]
 | a :: l=>frz H a :: qf7 H l
def lb7 (H:List Root):List AV → Prop
 | []=>True
 | .h id st len :: l=>qo7 H id st len ∧ lb7 H l
 | .ptr .. :: _=>False
 | .junk :: _=>False
 | .ws .. :: _=>False
 | .wu .. :: _=>False
 | .wp .. :: _=>False
 | _ :: l=>lb7 H l
def Root.mark:Root → Root
 | .live _ ty sz r => .live true ty sz r
 | .dead => .dead
def frzH:List Root → List AV → List Root
 | H,[]=>H
 | H, .h id _ _ :: l=>frzH (ba7 H id (aa7 H id).mark) l
 | H,_ :: l=>frzH H l
def Row.put (sz:Nat):Row → Nat → Nat → List AV → Prop × Row
 | .box l,_,o,cs=>(True, .box (pat l o cs))
 | .ints k l,i,_,[.int k' n]=>(k' = k ∧ sz = 1, .ints k (l.set i n))
 | .bools l,i,_,[.bool b]=>(sz = 1, .bools (l.set i b))
 | .gen l,i,o,cs=>(True, .gen (l.set i (pat (l.getD i []) o cs)))
 | .own l,i,o,cs=>(True, .own (l.set i (pat (l.getD i []) o cs)))
 | r,_,_,_=>(False,r)
def kN (k:TyK):Prop :=
 match k with
 | .no=>False
 | _=>True
def ln7 (e:TyE) (H:List Root) (p v:RV) (K:List Root → Prop):Prop :=
 match p with
 | .c (.ptr id n i o)=>match aa7 H id with
  | .live fz t sz r=>fz = false ∧ ((ga7 v).length = e.sz ∧ r.len = n ∧ i < n ∧ o + e.sz ≤ sz ∧ 0 < e.sz ∧ kN e.k) ∧
   if r.isBox then njL (ga7 v) = true ∧ K (ba7 H id (.live false t sz (r.put sz i o (ga7 v)).2))
   else lb7 H (ga7 v) ∧ aa7 (frzH H (ga7 v)) id = .live false t sz r ∧ (r.put sz i o (qf7 H (ga7 v))).1 ∧ K (ba7 (frzH H (ga7 v)) id (.live false t sz (r.put sz i o (qf7 H (ga7 v))).2))
  | .dead=>False
 | _=>False
def tg7 (k:IntKind):List (List AV) → Option (List Int)
 | []=>some []
 | [.int k' n] :: l=>if k' = k then (tg7 k l).map (n :: ·) else none
 | _ :: _=>none
def xe7:List (List AV) → Option (List Bool)
 | []=>some []
 | [.bool b] :: l=>(xe7 l).map (b :: ·)
 | _ :: _=>none
def rep (z:List AV):Nat → List AV
 | 0=>[]
 | n + 1=>z ++ rep z n
def takeN:Nat → List AV → List AV
 | 0,_=>[]
 | _,[]=>[]
 | n + 1,a :: l=>a :: takeN n l
def sl7:Nat → List AV → List AV
 | 0,l=>l
 | _,[]=>[]
 | n + 1,_ :: l=>sl7 n l
def chunk (sz:Nat):Nat → List AV → List (List AV)
 | 0,_=>[]
 | n + 1,l=>takeN sz l :: chunk sz n (sl7 sz l)
def ad7 (k:TyK) (els:List (List AV)):Prop × Row :=
 match k with
 | .i k=>match tg7 k els with
  | some l=>(True, .ints k l)
  | none=>(False, .gen els)
 | .b=>match xe7 els with
  | some l=>(True, .bools l)
  | none=>(False, .gen els)
 | .no=>(False, .gen els)
 | _=>(True, .gen els)
def lw7 (e:TypeId) (H:List Root) (n:Nat) (q:Prop × List AV) (K:RV → List Root → Prop):Prop :=
 q.1 ∧ lb7 H q.2 ∧ (ad7 (ty e).k (chunk (ty e).sz n (qf7 H q.2))).1 ∧ (0 < (ty e).sz ∧ n * (ty e).sz ≤ 16777216) ∧ K (.c (.h H.length 0 n)) (frzH H q.2 ++ [.live false e (ty e).sz (ad7 (ty e).k (chunk (ty e).sz n (qf7 H q.2))).2])
def dx7 (e:TypeId) (H:List Root) (n:Nat) (q:Prop × List AV) (K:RV → List Root → Prop):Prop :=
 q.1 ∧ njL q.2 = true ∧ (0 < (ty e).sz ∧ n * (ty e).sz ≤ 16777216) ∧ K (.c (.h H.length 0 n)) (H ++ [.live false e (ty e).sz (.own (chunk (ty e).sz n q.2))])
def zOk (k:TyK) (z:List AV):Prop :=
 match k with
 | .i k=>z = [.int k 0]
 | .b=>z = [.bool false]
 | .no=>False
 | _=>lb7 [] z
def zeros (k:TyK) (z:List AV) (n:Nat):Row :=
 match k with
 | .i k => .ints k (List.replicate n 0)
 | .b => .bools (List.replicate n false)
 | _ => .gen (List.replicate n z)
def cd7 (wk:Option (List CK)) (k:TyK) (z:List AV) (n:Nat):Row :=
 match wk with
 | some [] => .own (List.replicate n z)
 | _=>zeros k z n
def lq7 (k:TyK) (H:List Root) (n c:RV) (K:RV → List Root → Prop):Prop :=
 match k with
 | .sl e=>match n,c with
  | .c (.int _ n), .c (.int _ c)=>(0 ≤ n ∧ n ≤ 1099511627776 ∧ c = n ∧ 0 < (ty e).sz ∧ (ty e).bytes ≤ 128 ∧ zOk (ty e).k (ty e).zero) ∧ K (.c (.h H.length 0 n.toNat)) (H ++ [.live false e (ty e).sz (cd7 (ty e).wk (ty e).k (ty e).zero n.toNat)])
  | _,_=>False
 | _=>False
def ckE:List CK → List AV → Prop
 | [],[]=>True
 | .i k :: l, .int k' n :: z=>(k = k' ∧ inK k n) ∧ ckE l z
 | .s t c b :: l, .ws t' c' n :: z=>(t = t' ∧ c = c' ∧ n ≤ b) ∧ ckE l z
 | .s t c b :: l, .wu t' c' b' :: z=>(t = t' ∧ c = c' ∧ b' ≤ b) ∧ ckE l z
 | .s _ _ _ :: l, .nils :: z=>ckE l z
 | _,_=>False
def zW:List CK → List AV → Prop
 | [],[]=>True
 | .i k :: l, .int k' n :: z=>(k = k' ∧ n = 0) ∧ zW l z
 | .s _ _ _ :: l, .nils :: z=>zW l z
 | _,_=>False
def nx7 (e:TypeId) (ck:List CK) (n:Nat) (q:Prop × List AV) (K:RV → Prop):Prop :=
 q.1 ∧ (n = 1 ∧ ckE ck q.2 ∧ 0 < (ty e).sz ∧ (ty e).sz ≤ 16777216 ∧ ck.length = (ty e).sz) ∧ K (.c (.ws e ck 1))
def appW (e:TypeId) (ck:List CK) (s x:RV) (K:RV → Prop):Prop :=
 match x with
 | .c (.ws t' ck' m)=>((t' = e ∧ ck' = ck ∧ 0 < m ∧ m ≤ 1099511627776) ∧ ck.length = (ty e).sz ∧ 0 < (ty e).sz ∧ (ty e).bytes ≤ 128 ∧ zW ck (ty e).zero) ∧ match s with
  | .c .nils=>K (.c (.ws e ck m))
  | .c (.ws t2 ck2 n)=>(t2 = e ∧ ck2 = ck ∧ n + m ≤ 1099511627776) ∧ K (.c (.ws e ck (n + m)))
  | .c (.wu t2 ck2 b)=>(t2 = e ∧ ck2 = ck ∧ b + m ≤ 1099511627776) ∧ K (.c (.wu e ck (b + m)))
  | _=>False
 | _=>False
def Row.app:Row → Row → Prop × Row
 | .ints k l, .ints k' m=>(k = k', .ints k (l ++ m))
 | .bools l, .bools m=>(True, .bools (l ++ m))
 | .gen l, .gen m=>(True, .gen (l ++ m))
 | .own l, .own m=>(True, .own (l ++ m))
 | r,_=>(False,r)
def Row.drop:Row → Nat → Row
 | .ints k l,n => .ints k (l.drop n)
 | .bools l,n => .bools (l.drop n)
 | .gen l,n => .gen (l.drop n)
 | .own l,n => .own (l.drop n)
 | r,_=>r
def gj7 (k:IntKind) (g:Nat → AV):Nat → Nat → Option (List Int)
 | _,0=>some []
 | i,n + 1=>match g i with
  | .int k' v=>if k' = k then (gj7 k g (i + 1) n).map (v :: ·) else none
  | _=>none
def rk7 (f:Nat → Nat → AV) (sz:Nat):Nat → Nat → List (List AV)
 | _,0=>[]
 | i,n + 1=>tab (f i) 0 sz :: rk7 f sz (i + 1) n
def kl7 (n sz:Nat) (f:Nat → Nat → AV):Row :=
 match f 0 0 with
 | .int k _=>match gj7 k (fun i=>f i 0) 0 n with
  | some l=>if sz = 1 then .ints k l else .gen (rk7 f sz 0 n)
  | none => .gen (rk7 f sz 0 n)
 | _ => .gen (rk7 f sz 0 n)
def ja7 (H:List Root):RV → Prop × Row × Nat
 | .c (.sl n sz f)=>((0 < n ∧ 0 < sz) ∧ ((List.range n).all fun i=>(List.range sz).all fun j=>(f i j).nj) = true,kl7 n sz f,sz)
 | .c (.h id st len)=>match aa7 H id with
  | .live _ _ sz r=>(st + len = r.len ∧ r.one = false,r.drop st,sz)
  | .dead=>(False, .gen [],0)
 | _=>(False, .gen [],0)
def zr7 (k:TyK) (H:List Root) (s x:RV) (K:RV → List Root → Prop):Prop :=
 match k with
 | .sl e=>(ja7 H x).1 ∧ (ja7 H x).2.2 = (ty e).sz ∧ 0 < (ty e).sz ∧ (ty e).bytes ≤ 128 ∧
  match s with
  | .c .nils=>(0 < (ja7 H x).2.1.len ∧ (ja7 H x).2.1.len ≤ 1099511627776) ∧ K (.c (.h H.length 0 (ja7 H x).2.1.len)) (H ++ [.live false e (ty e).sz (ja7 H x).2.1])
  | .c (.h id st len)=>match aa7 H id with
   | .live fz t sz r=>(fz = false ∧ st = 0 ∧ len = r.len ∧ t = e ∧ sz = (ty e).sz ∧ len + (ja7 H x).2.1.len ≤ 1099511627776) ∧ (r.app (ja7 H x).2.1).1 ∧ K (.c (.h id 0 (len + (ja7 H x).2.1.len))) (ba7 H id (.live false t sz (r.app (ja7 H x).2.1).2))
   | .dead=>False
  | _=>False
 | _=>False
end
def za7 (rho:Nat → Prop) (w:World):AV → Value → Prop
 | .int k n,v=>v = .int k n
 | .bool b,v=>v = .bool b
 | .flt n,v=>v = .float .f64 n
 | .str s,v=>v = .string s
 | .nilp,v=>v = .pointer none
 | .nils,v=>v = .slice none 0 0
 | .sl n sz f,v => ∃ a b off c,v = .slice a n c ∧ n ≤ c ∧ c ≤ maxLen ∧ (0 < n → a = some ⟨b,off,none⟩ ∧ rho b) ∧ ∀ i,i < n → ∀ j,j < sz → ∃ u,w.cell? ⟨b,off + i * sz + j,none⟩ = some u ∧ za7 rho w (f i j) u
 | .rp n f,v => ∃ b off,v = .pointer (some ⟨b,off,none⟩) ∧ rho b ∧ ∀ j,j < n → ∃ u,w.cell? ⟨b,off + j,none⟩ = some u ∧ za7 rho w (f j) u
 | .ptr ..,_=>False
 | .h ..,_=>False
 | .ws ..,_=>False
 | .wu ..,_=>False
 | .wp ..,_=>False
 | .junk,_=>True
structure Mp where
 phi:Nat → Nat
 rho:Nat → Prop
 tau:Nat → Option (TypeId × List CK)
def WSl (M:Mp) (w:World) (t:TypeId) (ck:List CK) (n:Nat) (v:Value):Prop :=
 ∃ a c,v = .slice a n c ∧ n ≤ c ∧ c ≤ maxLen ∧ (a = none → c = 0) ∧ ∀ ad,a = some ad → ∃ b cur,ad = ⟨b,0,none⟩ ∧ M.tau b = some (t,ck) ∧ w.heap[b]? = some (.cells cur t (0,0)) ∧ c * ck.length = cur.size
def WPt (M:Mp) (w:World) (t:TypeId) (ck:List CK) (o:Nat) (v:Value):Prop :=
 ∃ b cur i,v = .pointer (some ⟨b,i * ck.length + o,none⟩) ∧ M.tau b = some (t,ck) ∧ w.heap[b]? = some (.cells cur t (0,0)) ∧ (i + 1) * ck.length ≤ cur.size
def ji7 (M:Mp) (w:World):CK → Value → Prop
 | .i k,v => ∃ n,v = .int k n ∧ inK k n
 | .s t ck b,v => ∃ n,n ≤ b ∧ WSl M w t ck n v
structure zk7 (E0:Nat) (M:Mp) (H:List Root) (w:World):Prop where
 new:∀ b q,M.tau b = some q → E0 ≤ b ∧ ¬ M.rho b
 row:∀ b q id fz ty sz r,M.tau b = some q → aa7 H id = .live fz ty sz r → M.phi id ≠ b
 cells:∀ b t ck,M.tau b = some (t,ck) → ∃ cur,w.heap[b]? = some (.cells cur t (0,0)) ∧ 0 < ck.length ∧ (∃ n,n * ck.length = cur.size) ∧ ∀ k,k < cur.size → ∃ v,cur[k]? = some v ∧ ∀ q,ck[k % ck.length]? = some q → ji7 M w q v
def Con (M:Mp) (H:List Root) (w:World):AV → Value → Prop
 | .ptr id n i o,v=>(id < H.length ∧ v.oneCell' = true) ∧ ∀ fz ty sz r,aa7 H id = .live fz ty sz r → n ≤ r.len ∧ (r.len = n → v = .pointer (some ⟨M.phi id,i * sz + o,none⟩))
 | .h id st len,v=>(id < H.length ∧ v.oneCell' = true) ∧ ∀ fz ty sz r,aa7 H id = .live fz ty sz r → st + len ≤ r.len ∧ (st + len = r.len → ∃ cap cur,v = .slice (some ⟨M.phi id,st * sz,none⟩) len cap ∧ len ≤ cap ∧ cap ≤ maxLen ∧ w.heap[M.phi id]? = some (.cells cur ty (0,0)) ∧ (st + cap) * sz = cur.size)
 | .int k n,v=>za7 M.rho w (.int k n) v
 | .bool b,v=>za7 M.rho w (.bool b) v
 | .flt n,v=>za7 M.rho w (.flt n) v
 | .str s,v=>za7 M.rho w (.str s) v
 | .nilp,v=>za7 M.rho w .nilp v
 | .nils,v=>za7 M.rho w .nils v
 | .sl n sz f,v=>za7 M.rho w (.sl n sz f) v
 | .rp n f,v=>za7 M.rho w (.rp n f) v
 | .ws t ck n,v=>WSl M w t ck n v
 | .wu t ck b,v => ∃ n,n ≤ b ∧ WSl M w t ck n v
 | .wp t ck o,v=>WPt M w t ck o v
 | .junk,_=>True
def sa7 (M:Mp) (H:List Root) (w:World):List AV → List Value → Prop
 | [],vs=>vs = []
 | a :: l,vs => ∃ v r,vs = v :: r ∧ Con M H w a v ∧ sa7 M H w l r
mutual
def ha7 (M:Mp) (H:List Root) (w:World):RV → Value → Prop
 | .c a,v=>Con M H w a v
 | .agg l,v => ∃ vs:List Value,v = .agg vs.toArray ∧ sa7 M H w l vs
 | .fn f caps,v => ∃ vs:List Value,v = .func (.func f) #[] vs.toArray ∧ sa7 M H w caps vs
 | .tup l,v => ∃ vs:List Value,v = .tuple vs.toArray ∧ ka7 M H w l vs
 | .ifc t x,v => ∃ u,v = .iface t u ∧ ha7 M H w x u
def ka7 (M:Mp) (H:List Root) (w:World):List RV → List Value → Prop
 | [],vs=>vs = []
 | a :: l,vs => ∃ v r,vs = v :: r ∧ ha7 M H w a v ∧ ka7 M H w l r
end
def pc7 (M:Mp) (H:List Root) (w:World) (bx:Bool) (a:AV) (v:Value):Prop:=if bx then Con M H w a v else za7 M.rho w a v
def vn7 (M:Mp) (H:List Root) (w:World) (b:Nat) (ty:TypeId) (sz:Nat) (r:Row):Prop :=
 ∃ cur,w.heap[b]? = some (.cells cur ty (0,0)) ∧ 0 < sz ∧ r.len * sz ≤ cur.size ∧ (∃ cap,cap * sz = cur.size) ∧ (r.one = true → cur.size = sz) ∧ ∀ i,i < r.len → ∀ o,o < sz → ∃ v,cur[i * sz + o]? = some v ∧ v.oneCell' = true ∧ pc7 M H w r.isBox (r.get i o) v
structure Env where
 W0:World
 rho0:Nat → Prop
structure Rel (E:Env) (M:Mp) (H:List Root) (w:World):Prop where
 bel:Below E.W0.heap.size E.W0 w
 low:∀ id fz ty sz r,aa7 H id = .live fz ty sz r → E.W0.heap.size ≤ M.phi id
 row:∀ id fz ty sz r,aa7 H id = .live fz ty sz r → vn7 M H w (M.phi id) ty sz r
 froz:∀ id ty sz r,aa7 H id = .live true ty sz r → M.rho (M.phi id)
 thaw:∀ id ty sz r,aa7 H id = .live false ty sz r → ¬ M.rho (M.phi id)
 inj:∀ i j t s r t' s' r',aa7 H i = .live false t s r → aa7 H j = .live false t' s' r' → M.phi i = M.phi j → i = j
 rlt:∀ b,M.rho b → b < w.heap.size
 src:∀ b,M.rho b → E.rho0 b ∨ E.W0.heap.size ≤ b
 tau:zk7 E.W0.heap.size M H w
def Kp (M:Mp) (H:List Root) (w:World) (M':Mp) (H':List Root) (w':World):Prop := ∀ a v,Con M H w a v → Con M' H' w' a v
section
variable (P:Program)
def Enters (f : FuncId) : Prop := ∃ fn c, P.funcs[f]? = some fn ∧ (fn.name == "runtime.NumGoroutine") = false ∧ fn.body = some c
def hc7 (g:Option Nat) (w w':World):Prop:=w.heap.size ≤ w'.heap.size ∧ ∀ b,b < w.heap.size → some b ≠ g → w'.heap[b]? = w.heap[b]?
abbrev Pu:=Option (Option Nat)
def isW:Pu → Prop
 | none=>True
 | some _=>False
def ab7 (pu:Pu) (f:FuncId) (args:List RV) (H:List Root) (K:RV → List Root → Prop):Prop :=
 Enters P f ∧ ∀ E M w vs,Rel E M H w → ka7 M H w args vs → Calls P f vs.toArray w fun e w' => ∃ M' H' r v,e = .returned v ∧ Rel E M' H' w' ∧ Kp M H w M' H' w' ∧ ha7 M' H' w' r v ∧ (∀ g,pu = some g → hc7 (g.map M.phi) w w') ∧ H.length ≤ H'.length ∧ K r H'
end
section
variable (P:Program) (ty:Ty)
def dv7 (k:TyK) (H:List Root) (s x:RV) (K:RV → List Root → Prop):Prop :=
 match k with
 | .sl e=>match (ty e).wk with
  | none=>zr7 ty k H s x K
  | some []=>zr7 ty k H s x K
  | some (c :: cs)=>appW ty e (c :: cs) s x (fun r=>K r H)
 | _=>False
def ox7 (e:TyE) (ck:List CK) (o:Nat) (v:RV) (K:Prop):Prop :=
 ((ga7 v).length = e.sz ∧ 0 < e.sz ∧ kN e.k ∧ o + e.sz ≤ ck.length ∧ ckE ((ck.drop o).take e.sz) (ga7 v)) ∧ K
def gv7 (e:TyE) (H:List Root) (p v:RV) (K:List Root → Prop):Prop :=
 match p with
 | .c (.wp _ ck o)=>ox7 e ck o v (K H)
 | _=>ln7 e H p v K
def eff (pu:Pu) (tm:Tm) (rd:Operand → Bool × RV) (H:List Root) (o:Oper) (K:AS → Prop):Prop :=
 match o.op with
 | .box t x=>((ga7 (rd x).2).length = (ty t).sz ∧ 0 < (ty t).sz ∧ njL (ga7 (rd x).2) = true) ∧ K ⟨dc7 tm true o.dst (.c (.ptr H.length 1 0 0)),H ++ [.live false t (ty t).sz (.box (ga7 (rd x).2))]⟩
 | .alloc t=>(0 < (ty t).sz ∧ kN (ty t).k) ∧ K ⟨dc7 tm true o.dst (.c (.ptr H.length 1 0 0)),H ++ [.live false t (ty t).sz (.box (ty t).zero)]⟩
 | .store t p v=>isW pu ∧ gv7 (ty t) H (rd p).2 (rd v).2 (fun H=>K ⟨dc7 tm true o.dst (.c .junk),H⟩)
 | .buildSlice t n ps=>match (ty t).k with
  | .sl e=>match (ty e).wk with
   | none=>lw7 ty e H n (ta7 (fun i=>(i * (ty e).sz,(ty e).sz)) rd (rep (ty e).zero n) ps.toList) (fun r H=>K ⟨dc7 tm true o.dst r,H⟩)
   | some []=>dx7 ty e H n (ta7 (fun i=>(i * (ty e).sz,(ty e).sz)) rd (rep (ty e).zero n) ps.toList) (fun r H=>K ⟨dc7 tm true o.dst r,H⟩)
   | some (c :: cs)=>nx7 ty e (c :: cs) n (ta7 (fun i=>(i * (ty e).sz,(ty e).sz)) rd (rep (ty e).zero n) ps.toList) (fun r=>K ⟨dc7 tm true o.dst r,H⟩)
  | _=>False
 | .makeSlice t n c=>lq7 ty (ty t).k H (rd n).2 (rd c).2 (fun r H=>K ⟨dc7 tm true o.dst r,H⟩)
 | .call c=>match c.callee with
  | .builtin .append=>match c.args.toList with
   | [s,x]=>isW pu ∧ c.argTypes.toList = [c.argTypes.getD 0 0,c.argTypes.getD 0 0] ∧ dv7 ty (ty (c.argTypes.getD 0 0)).k H (rd s).2 (rd x).2 (fun r H=>K ⟨dc7 tm true o.dst r,H⟩)
   | _=>False
  | .value f=>match (rd f).2 with
   | .fn f caps=>ab7 P pu f (rds rd c.args.toList ++ caps.map .c) H (fun r H=>K ⟨dc7 tm true o.dst r,H⟩)
   | _=>False
  | _=>False
 | _=>False
def vu7:List Oper → Nat → Option Oper
 | [],_=>none
 | o :: _,0=>some o
 | _ :: l,n + 1=>vu7 l n
def guardOf (tm:Tm) (ops:Array Oper):Option (Nat × Bool) → Option Bool
 | none=>some true
 | some (j,want)=>match vu7 ops.toList j with
  | some o=>match o.dst with
   | some d=>match lk tm d with
    | (g, .c (.bool b))=>some (g && (if want then b else !b))
    | _=>none
   | none=>none
  | none=>none
def su7 (H:List Root) (k:Nat):Prop :=
 match aa7 H k with
 | .live fz _ _ r=>fz = false ∧ r.len = 1
 | .dead=>False
def stb (dd:Option Nat) (A:Nat → Prop):Prop :=
 match dd with
 | none=>True
 | some k=>A k
def fo7 (g:Option Bool) (dd:Option Nat) (σ:AS) (o:Oper) (K:AS → Prop):Prop :=
 match g with
 | none=>False
 | some g=>gOk g (pl7 σ.rd o.op) ∧ stb dd (fun k=>su7 σ.H k ∧ (g = true → (opV ty g σ.rd (ba7 σ.H k .dead) o.op).1)) ∧ (g = true → (opV ty g σ.rd σ.H o.op).1) ∧ K ⟨dc7 σ.tm g o.dst (opV ty g σ.rd σ.H o.op).2,σ.H⟩
def ov7 (g:Bool) (A B:Prop):Prop:=(g = true → A) ∧ (g = false → B)
def nw7 (g:Option Bool) (pu:Pu) (σ:AS) (o:Oper) (K:AS → Prop):Prop :=
 match g with
 | none=>False
 | some g=>gOk g (pl7 σ.rd o.op) ∧ ov7 g (eff P ty pu σ.tm σ.rd σ.H o K) (K ⟨dc7 σ.tm g o.dst (.c .junk),σ.H⟩)
def fs7 (pu:Pu) (dd:Option Nat) (ops:Array Oper) (σ:AS) (o:Oper) (K:AS → Prop):Prop :=
 if isV o.op then fo7 ty (guardOf σ.tm ops o.guard) dd σ o K
 else stb dd (su7 σ.H) ∧ nw7 P ty (guardOf σ.tm ops o.guard) pu σ o K
def pick (ops:Array Oper):List Nat → List Oper
 | []=>[]
 | i :: l=>ops.getD i default :: pick ops l
def asg:Code → List Nat
 | .region _ ops _=>ops.toList.filterMap (·.dst)
 | .seq a b=>asg a ++ asg b
 | .cond _ a b=>asg a ++ asg b
 | .block _ a=>asg a
 | .loop a=>asg a
 | .scope a=>asg a
 | .rangeFunc _ _ a b=>asg a ++ asg b
 | _=>[]
def gets (tm:Tm):List Nat → List (Bool × RV)
 | []=>[]
 | t :: l=>lk tm t :: gets tm l
def fxT (tm:Tm):List Nat → Tm
 | []=>[]
 | t :: l=>(t,lk tm t) :: fxT tm l
def AV.scp (k:Nat):AV → Bool
 | .ptr id .. => decide (id < k)
 | .h id .. => decide (id < k)
 | _=>true
def ol7 (k:Nat):List AV → Bool
 | []=>true
 | a :: l=>a.scp k && ol7 k l
mutual
def vv7 (k:Nat):RV → Bool
 | .c a=>a.scp k
 | .agg l=>ol7 k l
 | .fn _ l=>ol7 k l
 | .tup l=>cp7 k l
 | .ifc _ x=>vv7 k x
def cp7 (k:Nat):List RV → Bool
 | []=>true
 | a :: l=>vv7 k a && cp7 k l
end
def vk7 (k:Nat):List (List AV) → Bool
 | []=>true
 | l :: m=>ol7 k l && vk7 k m
def nl7 (k:Nat):List Root → Bool
 | []=>true
 | .live _ _ _ (.box l) :: H=>ol7 k l && nl7 k H
 | .live _ _ _ (.own l) :: H=>vk7 k l && nl7 k H
 | _ :: H=>nl7 k H
def pos:List Nat → Nat → Nat → Option Nat
 | [],_,_=>none
 | a :: l,id,k=>if a = id then some k else pos l id (k + 1)
def sp7 (n:Nat) (ids:List Nat) (id:Nat):Option Nat:=if id < n then some id else pos ids id n
def ms7 (m i o:Nat):Option Nat → AV
 | some j => .ptr j m i o
 | none => .junk
def mkH (st len:Nat):Option Nat → AV
 | some j => .h j st len
 | none => .junk
def dp7 (n:Nat) (ids:List Nat):AV → AV
 | .ptr id m i o=>ms7 m i o (sp7 n ids id)
 | .h id st len=>mkH st len (sp7 n ids id)
 | x=>x
def eo7 (n:Nat) (ids:List Nat):List AV → List AV
 | []=>[]
 | x :: l=>dp7 n ids x :: eo7 n ids l
mutual
def ds7 (n:Nat) (ids:List Nat):RV → RV
 | .c a => .c (dp7 n ids a)
 | .agg l => .agg (eo7 n ids l)
 | .fn f l => .fn f (eo7 n ids l)
 | .tup l => .tup (bq7 n ids l)
 | .ifc t x => .ifc t (ds7 n ids x)
def bq7 (n:Nat) (ids:List Nat):List RV → List RV
 | []=>[]
 | x :: l=>ds7 n ids x :: bq7 n ids l
end
def ej7 (n:Nat) (ids:List Nat):List (List AV) → List (List AV)
 | []=>[]
 | l :: m=>eo7 n ids l :: ej7 n ids m
def ci7 (n:Nat) (ids:List Nat):Row → Row
 | .box l => .box (eo7 n ids l)
 | .own l => .own (ej7 n ids l)
 | r=>r
def bf7 (n:Nat) (ids:List Nat):Root → Root
 | .live fz t sz r => .live fz t sz (ci7 n ids r)
 | .dead => .dead
def gl7 (n:Nat) (ids:List Nat):List Root → List Root
 | []=>[]
 | r :: l=>bf7 n ids r :: gl7 n ids l
def xh7 (n:Nat) (ids:List Nat) (H:List Root):List Nat → List Root
 | []=>[]
 | i :: l=>bf7 n ids (aa7 H i) :: xh7 n ids H l
def kk7 (n:Nat) (ids:List Nat) (H:List Root):List Root:=gl7 n ids (H.take n) ++ xh7 n ids H ids
def uq7 (n:Nat) (ids:List Nat):Tm → Tm
 | []=>[]
 | (k,g,v) :: l=>(k,g,ds7 n ids v) :: uq7 n ids l
def okI (n:Nat):List Nat → Bool
 | []=>true
 | i :: l=>decide (n ≤ i) && !l.contains i && okI n l
end
section heap
theorem sb7 (H:List Root) (x:Root) (id:Nat):aa7 (H ++ [x]) id = if id = H.length then x else aa7 H id:=by
 induction H generalizing id with
 | nil=>cases id <;> simp [aa7]
 | cons a l ih=>cases id with
  | zero=>simp [aa7]
  | succ n=>simp only [List.cons_append,aa7,ih,List.length_cons]; simp
theorem xc7 {H:List Root} {id:Nat} (h:H.length ≤ id):aa7 H id = .dead:=by
 induction H generalizing id with
 | nil=>rfl
 | cons a l ih=>cases id with
  | zero=>simp at h
  | succ n=>exact ih (by simpa using h)
theorem jc7 {H:List Root} {id:Nat} {fz:Bool} {ty:TypeId} {sz:Nat} {r:Row} (h:aa7 H id = .live fz ty sz r):id < H.length:=by
 rcases Nat.lt_or_ge id H.length with h1 | h1
 ·exact h1
 ·rw [xc7 h1] at h; cases h
theorem ea7 (H:List Root) (id:Nat) (x:Root):(ba7 H id x).length = H.length:=by
 induction H generalizing id with
 | nil=>rfl
 | cons a l ih=>cases id <;> simp [ba7,ih]
theorem ua7 (H:List Root) (id:Nat) (x:Root) (j:Nat):aa7 (ba7 H id x) j = if j = id ∧ id < H.length then x else aa7 H j:=by
 induction H generalizing id j with
 | nil=>simp [ba7,aa7]
 | cons a l ih=>cases id <;> cases j <;> simp [ba7,aa7,ih]
theorem ac7 (H:List Root) (k id:Nat):aa7 (H.take k) id = if id < k then aa7 H id else .dead:=by
 induction H generalizing k id with
 | nil=>simp [aa7]
 | cons a l ih=>cases k <;> cases id <;> simp [aa7,ih]
end heap
theorem za7.keep {rho rho':Nat → Prop} {w w':World} (hb:∀ b,rho b → w'.heap[b]? = w.heap[b]?) (hr:∀ b,rho b → rho' b):∀ {a:AV} {v:Value},za7 rho w a v → za7 rho' w' a v
 | .int ..,_,h=>h
 | .bool _,_,h=>h
 | .flt _,_,h=>h
 | .str _,_,h=>h
 | .nilp,_,h=>h
 | .nils,_,h=>h
 | .junk,_,_=>trivial
 | .ws ..,_,h=>h.elim
 | .wu ..,_,h=>h.elim
 | .wp ..,_,h=>h.elim
 | .sl n sz f,v,⟨a,b,off,c,h1,h2,h3,h4,h5⟩=>⟨a,b,off,c,h1,h2,h3,fun hn=>⟨(h4 hn).1,hr _ (h4 hn).2⟩,fun i hi j hj=>by
   obtain ⟨u,hu,hc⟩:=h5 i hi j hj
   refine ⟨u, ?_,za7.keep hb hr hc⟩
   rw [← hu]
   exact World.cell?_of_block (hb _ (h4 (by omega)).2)⟩
 | .rp n f,v,⟨b,off,h1,h2,h3⟩=>⟨b,off,h1,hr _ h2,fun j hj=>by
   obtain ⟨u,hu,hc⟩:=h3 j hj
   refine ⟨u, ?_,za7.keep hb hr hc⟩
   rw [← hu]
   exact World.cell?_of_block (hb _ h2)⟩
def ge7 (M:Mp) (w:World) (M':Mp) (w':World):Prop :=
 (∀ b q,M.tau b = some q → M'.tau b = some q) ∧ ∀ b t ck cur,M.tau b = some (t,ck) → w.heap[b]? = some (.cells cur t (0,0)) → ∃ cur',w'.heap[b]? = some (.cells cur' t (0,0)) ∧ cur'.size = cur.size
theorem ge7.of {M M':Mp} {w w':World} (h:M'.tau = M.tau) (hb:∀ b q,M.tau b = some q → w'.heap[b]? = w.heap[b]?):ge7 M w M' w' :=
 ⟨fun b q hq=>by rw [h]; exact hq,fun b t ck cur hq hc=>⟨cur,by rw [hb _ _ hq]; exact hc,rfl⟩⟩
theorem WSl.keep {M M':Mp} {w w':World} (k:ge7 M w M' w') {t:TypeId} {ck:List CK} {n:Nat} {v:Value} (h:WSl M w t ck n v):WSl M' w' t ck n v:=by
 obtain ⟨a,c,h1,h2,h3,h4,h5⟩:=h
 refine ⟨a,c,h1,h2,h3,h4,fun ad e => ?_⟩
 obtain ⟨b,cur,e1,e2,e3,e4⟩:=h5 ad e
 obtain ⟨cur',k1,k2⟩:=k.2 b t ck cur e2 e3
 exact ⟨b,cur',e1,k.1 _ _ e2,k1,by omega⟩
theorem WPt.keep {M M':Mp} {w w':World} (k:ge7 M w M' w') {t:TypeId} {ck:List CK} {o:Nat} {v:Value} (h:WPt M w t ck o v):WPt M' w' t ck o v:=by
 obtain ⟨b,cur,i,e1,e2,e3,e4⟩:=h
 obtain ⟨cur',k1,k2⟩:=k.2 b t ck cur e2 e3
 exact ⟨b,cur',i,e1,k.1 _ _ e2,k1,by omega⟩
theorem ji7.keep {M M':Mp} {w w':World} (k:ge7 M w M' w') {q:CK} {v:Value} (h:ji7 M w q v):ji7 M' w' q v:=by
 cases q with
 | i kk=>exact h
 | s t ck b=>obtain ⟨n,hb,h⟩:=h; exact ⟨n,hb,h.keep k⟩
theorem zk7.lt {E0:Nat} {M:Mp} {H:List Root} {w:World} (h:zk7 E0 M H w) {b:Nat} {q:TypeId × List CK} (hq:M.tau b = some q):b < w.heap.size:=by
 obtain ⟨t,ck⟩:=q
 obtain ⟨cur,h1, -⟩:=h.cells b t ck hq
 exact (Array.getElem?_eq_some_iff.1 h1).1
theorem zk7.keep {E0:Nat} {M M':Mp} {H H':List Root} {w w':World} (h:zk7 E0 M H w) (ht:M'.tau = M.tau) (hb:∀ b q,M.tau b = some q → w'.heap[b]? = w.heap[b]?) (hr:∀ b q,M.tau b = some q → ¬ M'.rho b)
  (hp:∀ b q id fz ty sz r,M.tau b = some q → aa7 H' id = .live fz ty sz r → M'.phi id ≠ b):zk7 E0 M' H' w':=by
 have k:=ge7.of (w:=w) (w':=w') ht hb
 refine ⟨fun b q hq => ?_,fun b q id fz ty sz r hq hl => ?_,fun b t ck hq => ?_⟩
 ·rw [ht] at hq; exact ⟨(h.new b q hq).1,hr b q hq⟩
 ·rw [ht] at hq; exact hp b q id fz ty sz r hq hl
 ·rw [ht] at hq
  obtain ⟨cur,h1,h2,h3,h4⟩:=h.cells b t ck hq
  refine ⟨cur,by rw [hb b _ hq]; exact h1,h2,h3,fun i hi => ?_⟩
  obtain ⟨v,g1,g2⟩:=h4 i hi
  exact ⟨v,g1,fun q hq=>(g2 q hq).keep k⟩
theorem Con.of0 {M:Mp} {H:List Root} {w:World} {a:AV} {v:Value} (h:za7 M.rho w a v):Con M H w a v:=by
 cases a <;> first | exact h | exact h.elim | trivial
theorem Con.to0 {M:Mp} {H:List Root} {w:World} {a:AV} {v:Value} (hf:a.fr = true) (h:Con M H w a v):za7 M.rho w a v:=by
 cases a <;> first | exact h | (simp [AV.fr] at hf)
section
variable {M:Mp} {H:List Root} {w:World}
theorem sa7.of_getElem:∀ {l:List AV} {vs:List Value},vs.length = l.length → (∀ i v,vs[i]? = some v → Con M H w (nth l i) v) → sa7 M H w l vs
 | [],[],_,_=>rfl
 | a :: l,v :: vs,hl,h=>⟨v,vs,rfl,h 0 v rfl,sa7.of_getElem (by simpa using hl) fun i u hu=>h (i + 1) u (by simpa using hu)⟩
 | [],_ :: _,h,_=>by simp at h
 | _ :: _,[],h,_=>by simp at h
theorem sa7.len:∀ {l:List AV} {vs:List Value},sa7 M H w l vs → vs.length = l.length
 | [],_,h=>by cases h; rfl
 | a :: l,_,⟨v,r,h,_,h2⟩=>by subst h; simp [sa7.len h2]
theorem sa7.get:∀ {l:List AV} {vs:List Value},sa7 M H w l vs → ∀ i v,vs[i]? = some v → Con M H w (nth l i) v
 | [],_,h,i,v,hv=>by cases h; simp at hv
 | a :: l,_,⟨v,r,h,h1,h2⟩,0,u,hu=>by subst h; cases hu; exact h1
 | a :: l,_,⟨v,r,h,h1,h2⟩,i + 1,u,hu=>by subst h; exact sa7.get h2 i u (by simpa using hu)
theorem bj7 (f:Nat → AV):∀ n k,(tab f k n).length = n
 | 0,_=>rfl
 | n + 1,k=>by simp [tab,bj7 f n]
theorem mg7 (f:Nat → AV):∀ n k i,i < n → nth (tab f k n) i = f (k + i)
 | n + 1,k,0,_=>rfl
 | n + 1,k,i + 1,h=>by simp only [tab,nth]; rw [mg7 f n (k + 1) i (by omega)]; congr 1; omega
theorem qe7:∀ (l:List AV) (i:Nat) (a:AV),(do7 l i a).length = l.length
 | [],_,_=>rfl
 | _ :: _,0,_=>rfl
 | _ :: l,i + 1,a=>by simp [do7,qe7 l i a]
theorem gg7:∀ (l:List AV) (i:Nat) (a:AV) (j:Nat),nth (do7 l i a) j = if j = i ∧ i < l.length then a else nth l j
 | [],i,a,j=>by simp [do7,nth]
 | b :: l,0,a,0=>by simp [do7,nth]
 | b :: l,0,a,j + 1=>by simp [do7,nth]
 | b :: l,i + 1,a,0=>by simp [do7,nth]
 | b :: l,i + 1,a,j + 1=>by simp [do7,nth,gg7 l i a j]
theorem si7:∀ (cs l:List AV) (o:Nat),(pat l o cs).length = l.length
 | [],_,_=>rfl
 | a :: cs,l,o=>by simp [pat,si7 cs,qe7]
theorem em7:∀ (cs l:List AV) (o j:Nat),o + cs.length ≤ l.length → nth (pat l o cs) j = if o ≤ j ∧ j < o + cs.length then nth cs (j - o) else nth l j
 | [],l,o,j,_=>by simp only [pat,List.length_nil,Nat.add_zero]; rw [if_neg (by omega)]
 | a :: cs,l,o,j,h=>by
  simp only [List.length_cons] at h
  simp only [pat,List.length_cons]
  rw [em7 cs _ _ _ (by rw [qe7]; omega),gg7]
  by_cases h1:j = o
  ·subst h1
   rw [if_neg (by omega),if_pos ⟨rfl,by omega⟩,if_pos (by omega),Nat.sub_self]; rfl
  ·by_cases h2:o + 1 ≤ j ∧ j < o + 1 + cs.length
   ·rw [if_pos h2,if_pos (by omega),show j - o = (j - (o + 1)) + 1 by omega]; rfl
   ·rw [if_neg h2,if_neg (fun h=>h1 h.1),if_neg (by omega)]
theorem cg7:∀ (l m:List AV) (i:Nat),nth (l ++ m) i = if i < l.length then nth l i else nth m (i - l.length)
 | [],m,i=>by simp
 | a :: l,m,0=>by simp [nth]
 | a :: l,m,i + 1=>by simp [nth,cg7 l m i]
end
def Seen (M:Mp) (H:List Root) (b:Nat):Prop:=M.rho b ∨ (∃ id fz ty sz r,aa7 H id = .live fz ty sz r ∧ b = M.phi id) ∨ ∃ q,M.tau b = some q
def Same (M:Mp) (H:List Root) (w w':World):Prop := ∀ b,Seen M H b → w'.heap[b]? = w.heap[b]?
def zvB:AV → Value → Bool
 | .int k n, .int k' n'=>decide (k = k') && decide (n = n')
 | .bool b, .bool b'=>b == b'
 | .flt n, .float .f64 n'=>decide (n = n')
 | .str s, .string s'=>decide (s.data.toList = s'.data.toList)
 | .nilp, .pointer none=>true
 | .nils, .slice none 0 0=>true
 | _,_=>false
def zvL:List AV → List Value → Bool
 | [],[]=>true
 | a :: l,v :: vs=>zvB a v && zvL l vs
 | _,_=>false
theorem tm7 {rho:Nat → Prop} {w:World} {a:AV} {v:Value} (h:zvB a v = true):za7 rho w a v:=by
 cases a <;> cases v <;> simp [zvB] at h <;> try exact h.elim
 case int.int=>obtain ⟨rfl,rfl⟩:=h; rfl
 case bool.bool=>subst h; rfl
 case flt.float k _=>cases k <;> simp [zvB] at h; subst h; rfl
 case str.string s t =>
  obtain ⟨⟨s⟩⟩:=s; obtain ⟨⟨t⟩⟩:=t
  simp at h; subst h; rfl
 case nilp.pointer p=>cases p <;> simp [zvB] at h; rfl
 case nils.slice a l c =>
  cases a with
  | some a=>simp [zvB] at h
  | none =>
   cases l with
   | succ _=>simp [zvB] at h
   | zero=>cases c with
    | succ _=>simp [zvB] at h
    | zero=>rfl
theorem gm7 {a:AV} {v:Value} (h:zvB a v = true):v.oneCell' = true:=by
 cases a <;> cases v <;> first | rfl | simp [zvB] at h
theorem ig7:∀ {l:List AV} {vs:List Value},zvL l vs = true → vs.length = l.length
 | [],[],_=>rfl
 | _ :: _,_ :: _,h=>by simp [zvL] at h; simp [ig7 h.2]
 | [],_ :: _,h=>by simp [zvL] at h
 | _ :: _,[],h=>by simp [zvL] at h
theorem kg7:∀ {l:List AV} {vs:List Value},zvL l vs = true → ∀ i v,vs[i]? = some v → zvB (nth l i) v = true
 | [],[],_,i,v,hv=>by simp at hv
 | _ :: _,_ :: _,h,0,v,hv=>by simp [zvL] at h; cases hv; exact h.1
 | _ :: _,_ :: _,h,i + 1,v,hv=>by simp [zvL] at h; exact kg7 h.2 i v (by simpa using hv)
 | [],_ :: _,h,_,_,_=>by simp [zvL] at h
 | _ :: _,[],h,_,_,_=>by simp [zvL] at h
def kOk (P:Program) (ty:Ty) (t:TypeId):TyK → Prop
 | .i k=>P.underlying t = some (.int k)
 | .b=>P.underlying t = some .bool
 | .str=>P.underlying t = some .string
 | .sc => ∃ d,P.underlying t = some d ∧ (match d with | .struct _ | .array _ _=>False | _=>True)
 | .st fs => ∃ fields,P.underlying t = some (.struct fields) ∧ fields.toList.map (fun f=>(f.offset,P.cellsOf f.type)) = fs ∧ ∀ f ∈ fields.toList,(P.info? f.type).isSome = true
 | .ar n esz => ∃ e,P.underlying t = some (.array n e) ∧ P.cellsOf e = esz ∧ (P.info? e).isSome = true
 | .sl e=>P.underlying t = some (.slice e) ∧ (match (ty e).k with | .no=>False | _=>True)
 | .no=>True
structure xs7 (P:Program) (ty:Ty) (t:TypeId):Prop where
 k:kOk P ty t (ty t).k
 i:(match (ty t).k with | .no=>True | _ => ∃ i z,P.info? t = some i ∧ i.size = (ty t).sz ∧ i.bytes = (ty t).bytes ∧ i.zero = some z ∧ zvL (ty t).zero z.cells.toList = true ∧ z.cells.size = (ty t).sz)
def ob7 (P:Program) (ty:Ty):Prop := ∀ t,xs7 P ty t
theorem ob7.info {P:Program} {ty:Ty} (h:ob7 P ty) {t:TypeId} (hk:(match (ty t).k with | .no=>False | _=>True)):∃ i z,P.info? t = some i ∧ i.size = (ty t).sz ∧ i.bytes = (ty t).bytes ∧ i.zero = some z ∧ zvL (ty t).zero z.cells.toList = true ∧ z.cells.size = (ty t).sz:=by
 have:=(h t).i
 cases hh:(ty t).k <;> simp only [hh] at this hk <;> first | exact this | exact hk.elim
structure St (E:Env) (nt:Nat) (M:Mp) (σ:AS) (a:Act) (w:World):Prop where
 rel:Rel E M σ.H w
 tms:∀ t,(lk σ.tm t).1 = true → ha7 M σ.H w (lk σ.tm t).2 (a.tmps.getD t undef)
 off:∀ t,(lk σ.tm t).1 = false → a.tmps.getD t undef = undef
 sz:a.tmps.size = nt
 df:a.defers = []
section val
variable {P:Program} {ty:Ty} {E:Env} {nt:Nat} {M:Mp} {σ:AS} {a:Act} {w:World}
theorem sk7 (v:Value):ha7 M σ.H w (vi7 v) v:=by
 unfold vi7
 split <;> first | (simp only [ha7]; first | rfl | trivial)
theorem St.rd (h:St E nt M σ a w) {x:Operand} (hg:(σ.rd x).1 = true):ha7 M σ.H w (σ.rd x).2 (a.eval x):=by
 cases x with
 | tmp t=>exact h.tms t hg
 | const v=>exact sk7 v
 | global g=>trivial
 | func f=>exact ⟨[],rfl,rfl⟩
theorem ma7 {k:IntKind} {n:Int} {v:Value} (h:ha7 M σ.H w (.c (.int k n)) v):v = .int k n:=h
theorem ug7 {b:Bool} {v:Value} (h:ha7 M σ.H w (.c (.bool b)) v):v = .bool b:=h
theorem de7 {k:IntKind} {n:Int} (h:inK k n):k.wrap n = n:=by
 cases k <;> simp only [inK] at h <;> simp only [IntKind.wrap,IntKind.signed,IntKind.bits,Int.reducePow,Nat.reduceSub,Bool.true_and,Bool.false_and,decide_eq_true_eq,Bool.false_eq_true,if_false]
 all_goals (try split)
 all_goals (try simp only [ge_iff_le,decide_eq_true_eq] at *)
 all_goals omega
theorem ze7 (op:BinOp) (t:TypeId) (x y:Operand) (k k':IntKind) (m n:Int) (w:World):(eqGuard op t x y (.int k m) (.int k' n)).run P w = .ok () w:=by
 cases op <;> rfl
theorem ke7 (op:BinOp) (t:TypeId) (x y:Operand) (m n:Bool) (w:World):(eqGuard op t x y (.bool m) (.bool n)).run P w = .ok () w:=by
 cases op <;> rfl
theorem ts7 (op:BinOp) (t:TypeId) (k:IntKind) (m n:Int) (h:(ne7 op k m n).1):∃ v,ha7 M σ.H w (ne7 op k m n).2 v ∧ ∀ w',(binOp op t (.int k m) (.int k n)).run P w' = .ok v w':=by
 cases op <;> simp only [ne7,ru7,no] at h ⊢ <;> try exact h.elim
 case add=>exact ⟨_,rfl,fun w'=>by simp [binOp,Op.intArith,de7 h]⟩
 case sub=>exact ⟨_,rfl,fun w'=>by simp [binOp,Op.intArith,de7 h]⟩
 case mul=>exact ⟨_,rfl,fun w'=>by simp [binOp,Op.intArith,de7 h]⟩
 case quo=>exact ⟨_,rfl,fun w'=>by simp [binOp,Op.intDiv,de7 h.2,h.1]⟩
 case rem=>exact ⟨_,rfl,fun w'=>by simp [binOp,Op.intDiv,h]⟩
 case eql=>exact ⟨_,rfl,fun w'=>by simp [binOp,Op.intCmp]; rfl⟩
 case neq=>exact ⟨_,rfl,fun w'=>by simp [binOp,Op.intCmp]; rfl⟩
 case lss=>exact ⟨_,rfl,fun w'=>by simp [binOp,Op.intCmp]⟩
 case leq=>exact ⟨_,rfl,fun w'=>by simp [binOp,Op.intCmp]⟩
 case gtr=>exact ⟨_,rfl,fun w'=>by simp [binOp,Op.intCmp]⟩
 case geq=>exact ⟨_,rfl,fun w'=>by simp [binOp,Op.intCmp]⟩
theorem bu7 (hT:ob7 P ty) (op:BinOp) (t:TypeId) (x y:Operand) (yt:TypeId) {p q:RV} {u v:Value} (hp:ha7 M σ.H w p u) (hq:ha7 M σ.H w q v) (h:(ip7 op (ty t).k p q).1) :
  ∃ r,ha7 M σ.H w (ip7 op (ty t).k p q).2 r ∧ ∀ w',(do eqGuard op t x y u v; binOp op t u v).run P w' = .ok r w':=by
 unfold ip7 at h ⊢
 split at h
 ·rename_i k m k' n
  obtain ⟨hk,h⟩:=h
  subst hk
  obtain rfl:=ma7 hp
  obtain rfl:=ma7 hq
  obtain ⟨r,h1,h2⟩:=ts7 (P:=P) (M:=M) (σ:=σ) (w:=w) op t k m n h
  refine ⟨r,h1,fun w' => ?_⟩
  rw [Sem.run_bind,ze7]
  exact h2 w'
 ·rename_i m n
  obtain rfl:=ug7 hp
  obtain rfl:=ug7 hq
  split at h
  ·rename_i hk
   have hu:P.underlying t = some .bool:=by have:=(hT t).k; rw [hk] at this; exact this
   split at h
   ·refine ⟨.bool (m == n),rfl,fun w' => ?_⟩
    rw [Sem.run_bind,ke7]
    exact run_eql_bool w' t m n hu
   ·refine ⟨.bool (m != n),rfl,fun w' => ?_⟩
    rw [Sem.run_bind,ke7]
    exact run_neq_bool w' t m n hu
   ·exact h.elim
  ·exact h.elim
 ·exact h.elim
theorem uw7 (op:UnOp) {p:RV} {u:Value} (hp:ha7 M σ.H w p u) (h:(unV op p).1):∃ r,ha7 M σ.H w (unV op p).2 r ∧ ∀ w',(Op.unary op u).run P w' = .ok r w':=by
 unfold unV at h ⊢
 split at h
 ·rename_i m
  obtain rfl:=ug7 hp
  split at h
  ·exact ⟨_,rfl,fun w'=>rfl⟩
  ·exact h.elim
 ·rename_i k m
  obtain rfl:=ma7 hp
  split at h
  ·exact ⟨.int k (-m),rfl,fun w'=>by simp [Op.unary,Op.intArith,de7 h]⟩
  ·exact h.elim
 ·exact h.elim
theorem na7 (hT:ob7 P ty) {t:TypeId} {k:TyK} (hk:(ty t).k = k):kOk P ty t k:=by have:=(hT t).k; rw [hk] at this; exact this
theorem sr7 (hT:ob7 P ty) (s t:TypeId) {p:RV} {u:Value} (hp:ha7 M σ.H w p u) (h:(cl7 (ty s).k (ty t).k p).1):∃ r,ha7 M σ.H w (cl7 (ty s).k (ty t).k p).2 r ∧ ∀ w',(convert s t u).run P w' = .ok r w':=by
 unfold cl7 at h ⊢
 split at h
 ·rename_i k0 n
  obtain rfl:=ma7 hp
  split at h
  ·rename_i k1 hs
   split at h
   ·rename_i k hk
    have hu:P.underlying t = some (.int k):=na7 hT hk
    have hd:P.underlying s = some (.int k1):=na7 hT hs
    exact ⟨.int k n,rfl,fun w'=>by simp [convert,run_underlying hu,run_underlying hd,Conv.intToInt,de7 h]⟩
   ·exact h.elim
  ·exact h.elim
 ·exact h.elim
theorem mu7 (mx:Bool) {p q:RV} {u v:Value} (hp:ha7 M σ.H w p u) (hq:ha7 M σ.H w q v) (h:(mmV mx p q).1) (at_:Array TypeId) (t:TypeId):∃ r,ha7 M σ.H w (mmV mx p q).2 r ∧ ∀ w',(if mx then Builtin.max_ at_ t #[u,v] else Builtin.min_ at_ t #[u,v]).run P w' = .ok r w':=by
 unfold mmV at h ⊢
 split at h
 ·rename_i k m k' n
  obtain rfl:=ma7 hp
  obtain rfl:=ma7 hq
  simp only at h
  subst h
  refine ⟨_,rfl,fun w' => ?_⟩
  cases mx
  ·simp [Builtin.min_,Builtin.min2]; omega
  ·simp [Builtin.max_,Builtin.max2]; omega
 ·exact h.elim
theorem xv7 {id st len:Nat} {v:Value} (hv:vld σ.H id st len) (h:ha7 M σ.H w (.c (.h id st len)) v):∃ fz ty sz r cap cur,aa7 σ.H id = .live fz ty sz r ∧ st + len = r.len ∧ v = .slice (some ⟨M.phi id,st * sz,none⟩) len cap ∧ len ≤ cap ∧ cap ≤ maxLen ∧ w.heap[M.phi id]? = some (.cells cur ty (0,0)) ∧ (st + cap) * sz = cur.size:=by
 unfold vld at hv
 split at hv
 ·rename_i fz t sz r hr
  obtain ⟨cap,cur,h1,h2,h3,h4,h5⟩:=(h.2 _ _ _ _ hr).2 hv
  exact ⟨fz,t,sz,r,cap,cur,hr,hv,h1,h2,h3,h4,h5⟩
 ·exact hv.elim
theorem nu7 (hT:ob7 P ty) (t:TypeId) (rt:TypeId) {p:RV} {u:Value} (hp:ha7 M σ.H w p u) (h:(js7 (ty t).k σ.H p).1) :
  ∃ r,ha7 M σ.H w (js7 (ty t).k σ.H p).2 r ∧ ∀ w',(Builtin.len_ #[t] rt #[u]).run P w' = .ok r w':=by
 unfold js7 at h ⊢
 split at h
 ·rename_i e hk
  have hd:P.underlying t = some (.slice e):=(na7 hT hk).1
  split at h
  ·rename_i n sz f
   obtain ⟨a,b,off,c,rfl, -⟩:=hp
   exact ⟨.int .i64 n,rfl,fun w'=>by simp [Builtin.len_,run_underlying hd,goInt]⟩
  ·rename_i id st n
   obtain ⟨fz,t',sz,r,cap,cur,h1,h2,rfl, -⟩:=xv7 h hp
   exact ⟨.int .i64 n,rfl,fun w'=>by simp [Builtin.len_,run_underlying hd,goInt]⟩
  ·have hp':u = .slice none 0 0:=hp
   subst hp'
   exact ⟨.int .i64 0,rfl,fun w'=>by simp [Builtin.len_,run_underlying hd,goInt]⟩
  ·rename_i t' ck n
   obtain ⟨a,c,rfl, -⟩:=hp
   exact ⟨.int .i64 n,rfl,fun w'=>by simp [Builtin.len_,run_underlying hd,goInt]⟩
  ·exact h.elim
 ·rename_i hk
  have hd:P.underlying t = some .string:=na7 hT hk
  split at h
  ·rename_i s
   have hp':u = .string s:=hp
   subst hp'
   exact ⟨.int .i64 s.size,rfl,fun w'=>by simp [Builtin.len_,run_underlying hd,goInt]⟩
  ·exact h.elim
 ·exact h.elim
theorem addr_add (b o n:Nat):(⟨b,o,none⟩:Addr).add n = ⟨b,o + n,none⟩:=by unfold Addr.add; split <;> simp_all
theorem vl7 {fields:Array Field} {fs:List (Nat × Nat)} {P:Program} (h:fields.toList.map (fun f=>(f.offset,P.cellsOf f.type)) = fs) {i:Nat} (hi:(at2 fs i).2 ≠ 0):∃ f,fields[i]? = some f ∧ at2 fs i = (f.offset,P.cellsOf f.type):=by
 subst h
 obtain ⟨fields⟩:=fields
 induction fields generalizing i with
 | nil=>simp [at2] at hi
 | cons f l ih=>cases i with
  | zero=>exact ⟨f,rfl,rfl⟩
  | succ n =>
   obtain ⟨g,h1,h2⟩:=ih (i:=n) hi
   exact ⟨g,by simpa using h1,h2⟩
theorem aj7 {fields:Array Field} {i:Nat} {f:Field} (h:fields[i]? = some f):f ∈ fields.toList:=by
 obtain ⟨hi,rfl⟩:=Array.getElem?_eq_some_iff.1 h
 exact Array.mem_toList_iff.2 (Array.getElem_mem hi)
theorem df7 {b o i:Nat} {f:Field} {fields:Array Field} (t:TypeId) (hu:P.underlying t = some (.struct fields)) (hf:fields[i]? = some f) (hi:(P.info? f.type).isSome = true) (h0:P.cellsOf f.type ≠ 0) (w':World) :
  (Instr.fieldAt t (.pointer (some ⟨b,o,none⟩)) i).run P w' = .ok (.pointer (some ⟨b,o + f.offset,none⟩)) w':=by
 obtain ⟨inf,hinf⟩:=Option.isSome_iff_exists.1 hi
 have h0' : ¬ inf.size = 0:=by simpa [Program.cellsOf,hinf] using h0
 simp [Instr.fieldAt,run_underlying hu,hf,Instr.sureAddr,fieldPlace,sizeOf,typeInfo,hinf,h0',addr_add]
theorem lo7 (hT:ob7 P ty) (t:TypeId) (i:Nat) {p:RV} {u:Value} (hp:ha7 M σ.H w p u) (h:(wf7 (ty t).k σ.H p i).1):∃ r,ha7 M σ.H w (wf7 (ty t).k σ.H p i).2 r ∧ ∀ w',(Instr.fieldAt t u i).run P w' = .ok r w':=by
 unfold wf7 at h ⊢
 split at h
 ·rename_i fs hk
  obtain ⟨fields,hu,hfs,hinf⟩:=na7 hT hk
  split at h
  ·rename_i n g
   obtain ⟨h0,hn⟩:=h
   obtain ⟨f,hf,he⟩:=vl7 hfs h0
   obtain ⟨b,off,rfl,hr,hc⟩:=hp
   rw [he] at h0 hn ⊢
   refine ⟨_,⟨b,off + f.offset,rfl,hr,fun j hj => ?_⟩,fun w'=>df7 t hu hf (hinf f (aj7 hf)) h0 w'⟩
   obtain ⟨u,hu,hc⟩:=hc (j + f.offset) (by simp only at hn hj; omega)
   exact ⟨u,by rw [← hu]; congr 2; omega,hc⟩
  ·rename_i id n i' o
   obtain ⟨h0,hv⟩:=h
   obtain ⟨f,hf,he⟩:=vl7 hfs h0
   obtain ⟨hl,hp⟩:=hp
   rw [he] at h0 ⊢
   unfold kv7 at hv
   split at hv
   ·rename_i fz ty' sz r hr
    obtain rfl:=(hp _ _ _ _ hr).2 hv
    refine ⟨_,⟨⟨hl.1,rfl⟩,fun fz2 ty2 sz2 r2 hr2=>⟨(hp _ _ _ _ hr2).1,fun hl2 => ?_⟩⟩,fun w'=>df7 t hu hf (hinf f (aj7 hf)) h0 w'⟩
    rw [hr] at hr2
    cases hr2
    simp only [Nat.add_assoc]
   ·exact hv.elim
  ·rename_i t' ck o
   obtain ⟨f,hf,he⟩:=vl7 hfs h
   obtain ⟨b,cur,i',rfl,e2,e3,e4⟩:=hp
   simp only [he] at h ⊢
   exact ⟨_,⟨b,cur,i',rfl,e2,e3,e4⟩,fun w'=>by rw [← Nat.add_assoc]; exact df7 t hu hf (hinf f (aj7 hf)) h w'⟩
  ·exact h.elim
 ·exact h.elim
theorem ya7 (hT:ob7 P ty) {t:TypeId} (hk:(match (ty t).k with | .no=>False | _=>True)) (w':World):(sizeOf t).run P w' = .ok (ty t).sz w':=by
 obtain ⟨i,z,h1,h2, -⟩:=hT.info hk
 simp [sizeOf,typeInfo,h1,h2]
theorem kp7 (hT:ob7 P ty) (t:TypeId) {p q:RV} {u v:Value} (hp:ha7 M σ.H w p u) (hq:ha7 M σ.H w q v) (h:(fg7 ty (ty t).k σ.H p q).1):∃ r,ha7 M σ.H w (fg7 ty (ty t).k σ.H p q).2 r ∧ ∀ w',(Instr.indexAt t u v).run P w' = .ok r w':=by
 unfold fg7 at h ⊢
 split at h
 ·rename_i n sz f k i
  obtain rfl:=ma7 hq
  split at h
  ·rename_i e hk
   obtain ⟨hu,hke⟩:P.underlying t = some (.slice e) ∧ _:=na7 hT hk
   obtain ⟨⟨h1,h2⟩,rfl⟩:=h
   obtain ⟨a,b,off,c,rfl,h3,h4,h5,h6⟩:=hp
   obtain ⟨rfl,hr⟩:=h5 (by omega)
   refine ⟨.pointer (some ⟨b,off + i.toNat * (ty e).sz,none⟩),⟨b,off + i.toNat * (ty e).sz,rfl,hr,fun j hj=>h6 i.toNat (by omega) j hj⟩,fun w' => ?_⟩
   simp [Instr.indexAt,run_underlying hu,asIntOf,h1,h2,ya7 hT hke,addr_add]
  ·exact h.elim
 ·rename_i id st n k i
  obtain rfl:=ma7 hq
  split at h
  ·rename_i e hk
   obtain ⟨hu,hke⟩:P.underlying t = some (.slice e) ∧ _:=na7 hT hk
   split at h
   ·rename_i fz ty' sz r hr
    obtain ⟨⟨h1,h2⟩,h3,rfl⟩:=h
    obtain ⟨cap,cur,rfl, -⟩:=(hp.2 _ _ _ _ hr).2 h3
    refine ⟨.pointer (some ⟨M.phi id,st * (ty e).sz + i.toNat * (ty e).sz,none⟩),⟨⟨hp.1.1,rfl⟩,fun fz2 ty2 sz2 r2 hr2 => ?_⟩,fun w' => ?_⟩
    ·rw [hr] at hr2
     cases hr2
     exact ⟨Nat.le_refl _,fun _=>by simp only [Nat.add_zero,Nat.add_mul]⟩
    ·simp [Instr.indexAt,run_underlying hu,asIntOf,h1,h2,ya7 hT hke,addr_add]
   ·exact h.elim
  ·exact h.elim
 ·rename_i t' ck n k i
  obtain rfl:=ma7 hq
  split at h
  ·rename_i e hk
   obtain ⟨hu,hke⟩:P.underlying t = some (.slice e) ∧ _:=na7 hT hk
   obtain ⟨⟨h1,h2⟩,rfl,h3⟩:=h
   obtain ⟨a,c,rfl,k1,k2,k3,k4⟩:=hp
   cases a with
   | none=>have:=k3 rfl; omega
   | some ad =>
    obtain ⟨b,cur,rfl,g1,g2,g3⟩:=k4 ad rfl
    refine ⟨.pointer (some ⟨b,i.toNat * ck.length + 0,none⟩),⟨b,cur,i.toNat,rfl,g1,g2, ?_⟩,fun w' => ?_⟩
    ·rw [← g3]; exact Nat.mul_le_mul_right _ (by omega)
    ·simp [Instr.indexAt,run_underlying hu,asIntOf,h1,h2,ya7 hT hke,addr_add,h3]
  ·exact h.elim
 ·exact h.elim
theorem tn7:∀ (l:List CK) (i:Nat),fv7 l i = l[i]?
 | [],_=>rfl
 | _ :: _,0=>rfl
 | _ :: l,n + 1=>by simp only [fv7,List.getElem?_cons_succ]; exact tn7 l n
theorem fu7 (hT:ob7 P ty) (t:TypeId) {p q:RV} {u v:Value} (hp:ha7 M σ.H w p u) (hq:ha7 M σ.H w q v) (h:(bs7 (ty t).k p q).1):∃ r,ha7 M σ.H w (bs7 (ty t).k p q).2 r ∧ ∀ w',(Instr.sliceAt t u none (some v) none).run P w' = .ok r w':=by
 unfold bs7 at h ⊢
 split at h
 ·rename_i t' ck n k m
  obtain rfl:=ma7 hq
  split at h
  ·rename_i e hk
   obtain ⟨hu,hke⟩:P.underlying t = some (.slice e) ∧ _:=na7 hT hk
   have hel:P.elem t = e:=by simp [Program.elem,hu]
   obtain ⟨h1,h2⟩:=h
   obtain ⟨a,c,rfl,k1,k2,k3,k4⟩:=hp
   refine ⟨.slice a m.toNat c,⟨a,c,rfl,by omega,k2,k3,k4⟩,fun w' => ?_⟩
   rw [run_sliceAt_slice w' t _ _ _ _ (by rw [hel]; exact hu),run_slice_h w' t a n c (by rw [hel]; exact hu) k m h1 (by omega),hel,ya7 hT hke]
   simp only [Result.andThen,sliced,Nat.sub_zero,Nat.zero_mul]
   by_cases hc:c = 0
   ·rw [if_pos hc]
   ·rw [if_neg hc]
    cases a with
    | none=>rfl
    | some ad =>
     obtain ⟨b,cur,rfl, -⟩:=k4 ad rfl
     simp [addr_add]
  ·exact h.elim
 ·rename_i k m
  obtain rfl:=ma7 hq
  split at h
  ·rename_i e hk
   obtain ⟨hu,hke⟩:P.underlying t = some (.slice e) ∧ _:=na7 hT hk
   have hel:P.elem t = e:=by simp [Program.elem,hu]
   have hp:u = .slice none 0 0:=hp
   have h:m = 0:=h
   subst hp h
   refine ⟨.slice none 0 0,rfl,fun w' => ?_⟩
   rw [run_sliceAt_slice w' t _ _ _ _ (by rw [hel]; exact hu),run_slice_h w' t none 0 0 (by rw [hel]; exact hu) k 0 (Int.le_refl _) (Int.le_refl _),hel,ya7 hT hke]
   rfl
  ·exact h.elim
 ·rename_i n sz f k m
  obtain rfl:=ma7 hq
  split at h
  ·rename_i e hk
   obtain ⟨hu,hke⟩:P.underlying t = some (.slice e) ∧ _:=na7 hT hk
   have hel:P.elem t = e:=by simp [Program.elem,hu]
   obtain ⟨h1,h2⟩:=h
   obtain ⟨a,b,off,c,rfl,k1,k2,k3,k4⟩:=hp
   refine ⟨sliced a 0 m.toNat c (ty e).sz, ?_,fun w' => ?_⟩
   ·refine ⟨if c = 0 then a else a.map (·.add (0 * (ty e).sz)),b,off,c,rfl,by omega,k2,fun hm => ?_,fun i hi=>k4 i (by omega)⟩
    obtain ⟨rfl,hr⟩:=k3 (by omega)
    rw [if_neg (by omega)]
    exact ⟨by simp [addr_add],hr⟩
   ·rw [run_sliceAt_slice w' t _ _ _ _ (by rw [hel]; exact hu),run_slice_h w' t a n c (by rw [hel]; exact hu) k m h1 (by omega),hel,ya7 hT hke]
    rfl
  ·exact h.elim
 ·exact h.elim
theorem Rel.cell (h:Rel E M σ.H w) {id:Nat} {fz:Bool} {t:TypeId} {sz:Nat} {r:Row} (hr:aa7 σ.H id = .live fz t sz r) {i o:Nat} (hi:i < r.len) (ho:o < sz) :
  ∃ v,Con M σ.H w (r.get i o) v ∧ v.oneCell' = true ∧ ∀ w',Same M σ.H w w' → w'.cell? ⟨M.phi id,i * sz + o,none⟩ = some v:=by
 obtain ⟨cur,h1,h2,h3, -, -,h4⟩:=h.row _ _ _ _ _ hr
 obtain ⟨v,h5,h6,h7⟩:=h4 i hi o ho
 refine ⟨v, ?_,h6,fun w' hs => ?_⟩
 ·unfold pc7 at h7
  split at h7
  ·exact h7
  ·exact Con.of0 h7
 ·have:=hs (M.phi id) (.inr (.inl ⟨id,fz,t,sz,r,hr,rfl⟩))
  simp [World.cell?,this,h1,h5]
theorem oe7 {Q:Nat → Value → Prop}:∀ (n:Nat),(∀ j,j < n → ∃ v,Q j v) → ∃ vs:List Value,vs.length = n ∧ ∀ j v,vs[j]? = some v → Q j v
 | 0,_=>⟨[],rfl,fun j v h=>by simp at h⟩
 | n + 1,h=>by
  obtain ⟨vs,h1,h2⟩:=oe7 n fun j hj=>h j (by omega)
  obtain ⟨v,hv⟩:=h n (by omega)
  refine ⟨vs ++ [v],by simp [h1],fun j u hj => ?_⟩
  by_cases hlt:j < vs.length
  ·rw [List.getElem?_append_left hlt] at hj
   exact h2 j u hj
  ·rw [List.getElem?_append_right (by omega)] at hj
   have:j = n:=by
    have:=(List.getElem?_eq_some_iff.1 hj).1
    simp at this; omega
   subst this
   simp [h1] at hj
   subst hj; exact hv
theorem ef7 (hT:ob7 P ty) {t:TypeId} {fs:List (Nat × Nat)} (hk:(ty t).k = .st fs) {b o:Nat} {vs:List Value} (hl:vs.length = (ty t).sz) {w':World} (h:∀ j v,vs[j]? = some v → w'.cell? ⟨b,o + j,none⟩ = some v) :
  (Instr.loadAt t (.pointer (some ⟨b,o,none⟩))).run P w' = .ok (.agg vs.toArray) w':=by
 obtain ⟨fields,hu, -⟩:=na7 hT hk
 have hz:=ya7 (P:=P) hT (t:=t) (by rw [hk]; trivial) w'
 have hc:=run_loadCells_list (P:=P) w' ⟨b,o,none⟩ vs (fun j v hj=>by rw [addr_add]; exact h j v hj)
 rw [← hl] at hz
 simp [Instr.loadAt,Instr.sureAddr,loadVar,isAgg,run_underlying hu,hz,hc]
theorem gd7 (hT:ob7 P ty) {t:TypeId} (hk:(match (ty t).k with | .st _=>False | .ar .. => False | .no=>False | _=>True)) {b o:Nat} {v:Value} {w':World} (h:w'.cell? ⟨b,o,none⟩ = some v) :
  (Instr.loadAt t (.pointer (some ⟨b,o,none⟩))).run P w' = .ok v w':=by
 have hd:∃ d,P.underlying t = some d ∧ (match d with | .struct _ | .array _ _=>False | _=>True):=by
  have hh:=(hT t).k
  cases hq:(ty t).k <;> rw [hq] at hk hh <;> simp only at hk
  ·exact ⟨_,hh,trivial⟩
  ·exact ⟨_,hh,trivial⟩
  ·exact ⟨_,hh,trivial⟩
  ·exact hh
  ·exact ⟨_,hh.1,trivial⟩
 obtain ⟨d,hu,hd⟩:=hd
 cases d <;> first | exact hd.elim | simp [Instr.loadAt,Instr.sureAddr,loadVar,isAgg,run_underlying hu,h]
theorem gi7 (hT:ob7 P ty) (hR:Rel E M σ.H w) (t:TypeId) {p:RV} {u:Value} (hp:ha7 M σ.H w p u) (h:(rf7 (ty t) σ.H p).1):∃ r,ha7 M σ.H w (rf7 (ty t) σ.H p).2 r ∧ ∀ w',Same M σ.H w w' → (Instr.loadAt t u).run P w' = .ok r w':=by
 unfold rf7 at h ⊢
 split at h
 ·rename_i n g
  obtain ⟨b,off,rfl,hr,hc⟩:=hp
  split at h
  ·rename_i fs hk
   obtain ⟨vs,h1,h2⟩:=oe7 (Q:=fun j v=>w.cell? ⟨b,off + j,none⟩ = some v ∧ za7 M.rho w (g j) v) (ty t).sz (fun j hj=>hc j (by simp only at h; omega))
   refine ⟨.agg vs.toArray,⟨vs,rfl,sa7.of_getElem (by rw [bj7,h1]) fun i v hv => ?_⟩,fun w' hs=>ef7 hT hk h1 fun j v hj => ?_⟩
   ·rw [mg7 _ _ _ _ (by have:=(List.getElem?_eq_some_iff.1 hv).1; omega),Nat.zero_add]
    exact Con.of0 (h2 i v hv).2
   ·rw [← (h2 j v hj).1]
    exact World.cell?_of_block (hs b (.inl hr))
  ·exact h.elim
  ·exact h.elim
  ·rename_i h1 h2 h3
   obtain ⟨v,hv,hcv⟩:=hc 0 (by simp only at h; omega)
   refine ⟨v,Con.of0 hcv,fun w' hs=>gd7 hT ?_ ?_⟩
   ·cases hq:(ty t).k <;> simp_all
   ·rw [← hv]
    exact World.cell?_of_block (hs b (.inl hr))
 ·rename_i id n i o
  split at h
  ·rename_i fz ty' sz r hr
   split at h
   ·rename_i fs hk
    obtain ⟨hn,hi,ho⟩:=h
    obtain rfl:=(hp.2 _ _ _ _ hr).2 hn
    obtain ⟨vs,h1,h2⟩:=oe7 (Q:=fun j v=>Con M σ.H w (r.get i (o + j)) v ∧ v.oneCell' = true ∧ ∀ w',Same M σ.H w w' → w'.cell? ⟨M.phi id,i * sz + (o + j),none⟩ = some v) (ty t).sz (fun j hj=>hR.cell hr (by omega) (by omega))
    refine ⟨.agg vs.toArray,⟨vs,rfl,sa7.of_getElem (by rw [bj7,h1]) fun j v hv => ?_⟩,fun w' hs=>ef7 hT hk h1 fun j v hj => ?_⟩
    ·rw [mg7 _ _ _ _ (by have:=(List.getElem?_eq_some_iff.1 hv).1; omega)]
     exact (h2 j v hv).1
    ·rw [Nat.add_assoc]
     exact (h2 j v hj).2.2 w' hs
   ·exact h.elim
   ·exact h.elim
   ·rename_i k1 k2 k3
    obtain ⟨hn,hi,ho⟩:=h
    obtain rfl:=(hp.2 _ _ _ _ hr).2 hn
    obtain ⟨v,h1, -,h2⟩:=hR.cell hr (i:=i) (o:=o) (by omega) ho
    refine ⟨v,h1,fun w' hs=>gd7 hT ?_ (h2 w' hs)⟩
    cases hq:(ty t).k <;> simp_all
  ·exact h.elim
 ·rename_i t' ck o
  split at h
  ·rename_i e hk
   obtain ⟨b,cur,i,rfl,e2,e3,e4⟩:=hp
   obtain ⟨cur2,c1,c2, -,c4⟩:=hR.tau.cells b t' ck e2
   rw [e3] at c1
   cases c1
   unfold jv7 at h ⊢
   split at h
   ·rename_i t2 ck2 b2 hq
    rw [tn7] at hq
    have ho:o < ck.length:=(List.getElem?_eq_some_iff.1 hq).1
    have hk2:(i * ck.length + o) % ck.length = o:=by rw [Nat.add_comm,Nat.add_mul_mod_self_right,Nat.mod_eq_of_lt ho]
    rw [Nat.add_mul] at e4
    obtain ⟨v,g1,g2⟩:=c4 (i * ck.length + o) (by omega)
    have g3:=g2 (.s t2 ck2 b2) (by rw [hk2]; exact hq)
    simp only [hk]
    refine ⟨v,g3,fun w' hs=>gd7 hT (by rw [hk]; trivial) ?_⟩
    have:=hs b (.inr (.inr ⟨_,e2⟩))
    simp [World.cell?,this,e3,g1]
   ·exact h.elim
  ·exact h.elim
 ·exact h.elim
theorem Con.one {x:AV} {v:Value} (hn:x.nj = true) (h:Con M σ.H w x v):v.oneCell' = true ∧ v.cells = #[v]:=by
 cases x with
 | int=>cases h; exact ⟨rfl,rfl⟩
 | bool=>cases h; exact ⟨rfl,rfl⟩
 | flt=>cases h; exact ⟨rfl,rfl⟩
 | str=>cases h; exact ⟨rfl,rfl⟩
 | nilp=>cases h; exact ⟨rfl,rfl⟩
 | nils=>cases h; exact ⟨rfl,rfl⟩
 | sl=>obtain ⟨a,b,off,c,rfl, -⟩:=h; exact ⟨rfl,rfl⟩
 | rp=>obtain ⟨b,off,rfl, -⟩:=h; exact ⟨rfl,rfl⟩
 | ws=>obtain ⟨a,c,rfl, -⟩:=h; exact ⟨rfl,rfl⟩
 | wu=>obtain ⟨n, -,a,c,rfl, -⟩:=h; exact ⟨rfl,rfl⟩
 | wp=>obtain ⟨b,cur,i,rfl, -⟩:=h; exact ⟨rfl,rfl⟩
 | junk=>cases hn
 | ptr=>exact ⟨h.1.2,by have:=h.1.2; cases v <;> first | rfl | cases this⟩
 | h=>exact ⟨h.1.2,by have:=h.1.2; cases v <;> first | rfl | cases this⟩
theorem ic7 {x:RV} {v:Value} (hn:njL (ga7 x) = true) (h0:(ga7 x).length ≠ 0) (h:ha7 M σ.H w x v):sa7 M σ.H w (ga7 x) v.cells.toList:=by
 cases x with
 | c b =>
  simp only [ga7,njL,Bool.and_true] at hn
  have h':Con M σ.H w b v:=h
  rw [(Con.one hn h').2]
  exact ⟨v,[],rfl,h',rfl⟩
 | agg l=>obtain ⟨vs,rfl,h1⟩:=h; simpa [ga7,Value.cells] using h1
 | fn=>exact absurd rfl h0
 | tup=>exact absurd rfl h0
 | ifc=>exact absurd rfl h0
theorem gk7 (off:Nat):∀ (l:List Value) (s:Nat) (cells:Array Value),off + s + l.length ≤ cells.size →
  ((l.zipIdx s).foldl (fun cs (p:Value × Nat)=>cs.setIfInBounds (off + p.2) p.1) cells).size = cells.size ∧ ∀ j,((l.zipIdx s).foldl (fun cs (p:Value × Nat)=>cs.setIfInBounds (off + p.2) p.1) cells)[j]? = if off + s ≤ j ∧ j < off + s + l.length then l[j - (off + s)]? else cells[j]?
 | [],s,cells,_=>⟨rfl,fun j=>by simp only [List.zipIdx_nil,List.foldl_nil,List.length_nil,Nat.add_zero]; rw [if_neg (by omega)]⟩
 | v :: l,s,cells,h=>by
  simp only [List.length_cons] at h
  have hs:(cells.setIfInBounds (off + s) v).size = cells.size:=Array.size_setIfInBounds
  obtain ⟨h1,h2⟩:=gk7 off l (s + 1) (cells.setIfInBounds (off + s) v) (by rw [hs]; omega)
  simp only [List.zipIdx_cons,List.foldl_cons]
  refine ⟨by rw [h1,hs],fun j => ?_⟩
  rw [h2 j,List.length_cons,Array.getElem?_setIfInBounds]
  by_cases e:j = off + s
  ·subst e
   rw [if_neg (by omega),if_pos rfl,if_pos (by omega),if_pos (by omega),Nat.sub_self]; rfl
  ·by_cases e2:off + s ≤ j ∧ j < off + s + (l.length + 1)
   ·rw [if_pos (show off + (s + 1) ≤ j ∧ j < off + (s + 1) + l.length by omega),if_pos e2,show j - (off + s) = (j - (off + (s + 1))) + 1 by omega]; rfl
   ·rw [if_neg (show ¬ (off + (s + 1) ≤ j ∧ j < off + (s + 1) + l.length) by omega),if_neg (fun h=>e h.symm),if_neg e2]
theorem bm7:∀ (fs:List (Nat × Nat)) (i:Nat),(at2 fs i).2 ≠ 0 → fs[i]? = some (at2 fs i)
 | [],_,h=>absurd rfl h
 | _ :: _,0,_=>rfl
 | _ :: fs,n + 1,h=>bm7 fs n h
theorem zg7 (pl:Nat → Nat × Nat) (place:Nat → Option (Nat × Nat)) (hpl:∀ i,(pl i).2 ≠ 0 → place i = some (pl i)):∀ (ps:List (Nat × Operand)) (l:List AV) (cells:Array Value),(∀ x ∈ ps,(σ.rd x.2).1 = true → ha7 M σ.H w (σ.rd x.2).2 (a.eval x.2)) → gOk true (pgs σ.rd ps) → sa7 M σ.H w l cells.toList → (ta7 pl σ.rd l ps).1 →
  ∃ out,Instr.fill place cells (ps.map fun (i,x)=>(i,a.eval x)) = some out ∧ sa7 M σ.H w (ta7 pl σ.rd l ps).2 out.toList
 | [],l,cells,_,_,hc,_=>⟨cells,rfl,hc⟩
 | (i,x) :: ps,l,cells,hr,hg,hc,h=>by
  simp only [ta7] at h ⊢
  simp only [pgs,gOk] at hg
  obtain ⟨⟨h0,h1,h2,h3⟩,h4⟩:=h
  have hx:=hr _ (List.mem_cons_self ..) (hg.1 trivial)
  have hcx:=ic7 h1 (by omega) hx
  have hlen:=hcx.len
  have hll:=hc.len
  have hfs:place i = some (pl i):=hpl i h0
  have hsz:(a.eval x).cells.size = (pl i).2:=by simpa [h2] using hlen
  have hcl:cells.size = l.length:=by simpa using hll
  obtain ⟨f1,f2⟩:=gk7 (pl i).1 (a.eval x).cells.toList 0 cells (by simp only [Array.length_toList]; omega)
  obtain ⟨out,ho,hco⟩:=zg7 pl place hpl ps (pat l (pl i).1 (ga7 (σ.rd x).2)) (((a.eval x).cells.toList.zipIdx 0).foldl (fun cs (p:Value × Nat)=>cs.setIfInBounds ((pl i).1 + p.2) p.1) cells)
   (fun y hy=>hr y (List.mem_cons_of_mem _ hy)) hg.2 (sa7.of_getElem (by rw [si7]; simp only [Array.length_toList]; omega) fun j v hj=>by
    rw [Array.getElem?_toList,f2 j] at hj
    rw [em7 _ _ _ _ (by omega)]
    simp only [Nat.add_zero,Array.length_toList,hsz,h2] at hj ⊢
    split at hj
    ·rename_i hb
     rw [if_pos hb]
     exact hcx.get _ _ hj
    ·rename_i hb
     rw [if_neg hb]
     exact hc.get _ _ (by simpa using hj)) h4
  refine ⟨out, ?_,hco⟩
  rw [← ho]
  simp only [List.map_cons,Instr.fill,hfs,hsz]
  rw [if_neg (by simp; omega)]
  congr 1
  rw [← Array.foldl_toList]
  simp [Array.toList_zipIdx]
theorem mb7 (hT:ob7 P ty) {t:TypeId} (hk:(match (ty t).k with | .no=>False | _=>True)):∃ i z,P.info? t = some i ∧ i.zero = some z ∧ i.size = (ty t).sz ∧ i.bytes = (ty t).bytes ∧ z.cells.size = (ty t).sz ∧ zvL (ty t).zero z.cells.toList = true ∧ sa7 M σ.H w (ty t).zero z.cells.toList:=by
 obtain ⟨i,z,h1,h2,h3,h4,h5,h6⟩:=hT.info hk
 exact ⟨i,z,h1,h4,h2,h3,h6,h5,sa7.of_getElem (ig7 h5) fun j v hj=>Con.of0 (tm7 (kg7 h5 j v hj))⟩
theorem so7 (hT:ob7 P ty) (h:St E nt M σ a w) (t:TypeId) (ps:Array (Nat × Operand)) {fs:List (Nat × Nat)} (hk:(ty t).k = .st fs) (hg:gOk true (pgs σ.rd ps.toList)) (ho:(ta7 (at2 fs) σ.rd (ty t).zero ps.toList).1) :
  ∃ r,ha7 M σ.H w (.agg (ta7 (at2 fs) σ.rd (ty t).zero ps.toList).2) r ∧ ∀ w',(Instr.build t (ps.map fun (i,x)=>(i,a.eval x))).run P w' = .ok r w':=by
 obtain ⟨fields,hu,hfs,hinf⟩:=na7 hT hk
 obtain ⟨i,z,hi,hz, -, -, -, -,hzc⟩:=mb7 (M:=M) (σ:=σ) (w:=w) (P:=P) hT (t:=t) (by rw [hk]; trivial)
 obtain ⟨out,h1,h2⟩:=zg7 (M:=M) (σ:=σ) (w:=w) (a:=a) (at2 fs) (fun i=>fs[i]?) (bm7 fs) ps.toList (ty t).zero z.cells (fun x _ hx=>h.rd hx) hg hzc ho
 refine ⟨.agg out,⟨out.toList,by simp,h2⟩,fun w'=>run_build w' t _ out ?_⟩
 have hm:fields.toList.mapM (fun f=>(P.info? f.type).map fun i=>(f.offset,i.size)) = some fs:=by
  rw [← hfs]
  have:∀ l:List Field,(∀ f ∈ l,(P.info? f.type).isSome = true) → l.mapM (fun f=>(P.info? f.type).map fun i=>(f.offset,i.size)) = some (l.map fun f=>(f.offset,P.cellsOf f.type)):=by
   intro l hl
   induction l with
   | nil=>rfl
   | cons f l ih =>
    obtain ⟨inf,hinf⟩:=Option.isSome_iff_exists.1 (hl f (List.mem_cons_self ..))
    simp [List.mapM_cons,hinf,ih fun g hg=>hl g (List.mem_cons_of_mem _ hg),Program.cellsOf]
  exact this _ hinf
 unfold Program.built
 simp only [hi,hu,hz,hm]
 rw [← h1]
 simp
def xu7:Op → Bool
 | .load .. => true
 | _=>false
theorem dm7 (hT:ob7 P ty) (h:St E nt M σ a w) {o:Oper} (hv:isV o.op = true) {g:Bool} (hg:g = true) (hgs:gOk true (pl7 σ.rd o.op)) (ho:(opV ty g σ.rd σ.H o.op).1) :
  ∃ v,ha7 M σ.H w (opV ty g σ.rd σ.H o.op).2 v ∧ ∀ w',(xu7 o.op = true → Same M σ.H w w') → (execOp a.eval o).run P w' = .ok (.value v) w':=by
 obtain ⟨dst,op,type,pos,after,guard⟩:=o
 have lift:∀ {x:Sem Value} {v:Value} {w':World},x.run P w' = .ok v w' → ((do pure (Next.value (← x))):Sem Next).run P w' = .ok (.value v) w':=fun {x v w'} hx=>by
  rw [Sem.run_bind,hx]; rfl
 cases op <;> simp only [isV,Bool.false_eq_true] at hv <;> simp only [pl7,gOk] at hgs <;> simp only [opV] at ho ⊢
 case move x=>exact ⟨a.eval x,h.rd (hgs.1 trivial),fun w' _=>rfl⟩
 case assign x=>exact ⟨a.eval x,h.rd (hgs.1 trivial),fun w' _=>rfl⟩
 case pick c x y =>
  subst hg
  have hc:=h.rd (hgs.1 trivial)
  split at ho
  ·rename_i cb hcb
   rw [hcb] at hc
   have hcv:a.eval c = .bool cb:=hc
   obtain ⟨h1,h2,h3⟩:=ho
   simp only [gOk,Bool.true_and,and_true] at h1 h2
   have key:∃ v,ha7 M σ.H w (xk7 (.c (.bool cb)) (σ.rd x).2 (σ.rd y).2).2 v ∧ v = (if cb = true then a.eval x else a.eval y):=by
    unfold xk7 at h3 ⊢
    split at h3
    ·rename_i c' p q e1 e2 e3
     cases e1
     cases cb with
     | true=>exact ⟨_,by have:=h.rd (x:=x) (h1 rfl); rw [e2] at this; exact this,rfl⟩
     | false=>exact ⟨_,by have:=h.rd (x:=y) (h2 rfl); rw [e3] at this; exact this,rfl⟩
    ·rename_i c' k p k' q e1 e2 e3
     cases e1
     simp only at h3
     subst h3
     cases cb with
     | true=>exact ⟨_,by have:=h.rd (x:=x) (h1 rfl); rw [e2] at this; exact this,rfl⟩
     | false=>exact ⟨_,by have:=h.rd (x:=y) (h2 rfl); rw [e3] at this; exact this,rfl⟩
    ·rename_i c1 e1 e2
     cases e1
     simp only at h3
     subst h3
     exact ⟨_,h.rd (x:=y) (h2 rfl),rfl⟩
    ·rename_i c1 e1 e2 n
     cases e1
     simp only at h3
     subst h3
     exact ⟨_,h.rd (x:=x) (h1 rfl),rfl⟩
    ·exact h3.elim
   obtain ⟨v,hv1,hv2⟩:=key
   refine ⟨v,hv1,fun w' _ => ?_⟩
   subst hv2
   cases cb <;> simp [execOp,hcv,asBool]
  ·exact ho.elim
 case build t ps =>
  split at ho
  ·rename_i fs hk
   obtain ⟨r,h1,h2⟩:=so7 hT h t ps hk hgs ho
   exact ⟨r,h1,fun w' _=>lift (h2 w')⟩
  ·exact ho.elim
 case load t x =>
  obtain ⟨r,h1,h2⟩:=gi7 hT h.rel t (h.rd (hgs.1 trivial)) ho
  exact ⟨r,h1,fun w' hs=>lift (h2 w' (hs rfl))⟩
 case binOp op t x y yt =>
  obtain ⟨r,h1,h2⟩:=bu7 hT op t x y yt (h.rd (hgs.1 trivial)) (h.rd (hgs.2.1 trivial)) ho
  exact ⟨r,h1,fun w' _=>lift (h2 w')⟩
 case unOp op t x =>
  obtain ⟨r,h1,h2⟩:=uw7 (P:=P) op (h.rd (hgs.1 trivial)) ho
  exact ⟨r,h1,fun w' _=>lift (h2 w')⟩
 case convert s t x =>
  obtain ⟨r,h1,h2⟩:=sr7 hT s t (h.rd (hgs.1 trivial)) ho
  exact ⟨r,h1,fun w' _=>lift (h2 w')⟩
 case fieldAddr t x f =>
  obtain ⟨r,h1,h2⟩:=lo7 hT t f (h.rd (hgs.1 trivial)) ho
  exact ⟨r,h1,fun w' _=>lift (h2 w')⟩
 case indexAddr t x i =>
  obtain ⟨r,h1,h2⟩:=kp7 hT t (h.rd (hgs.1 trivial)) (h.rd (hgs.2.1 trivial)) ho
  exact ⟨r,h1,fun w' _=>lift (h2 w')⟩
 case extract x i =>
  have hx:=h.rd (hgs.1 trivial)
  have key:∃ v,ha7 M σ.H w (hu7 (σ.rd x).2 i).2 v ∧ ∀ w',(Instr.extract (a.eval x) i).run P w' = .ok v w':=by
   unfold hu7 at ho ⊢
   split at ho
   ·rename_i l hl
    rw [hl] at hx
    obtain ⟨vs,hvs,hc⟩:=hx
    have hn:∀ (l:List RV) (vs:List Value) (i:Nat),ka7 M σ.H w l vs → (au7 l i).1 → ∃ v,vs[i]? = some v ∧ ha7 M σ.H w (au7 l i).2 v:=by
     intro l
     induction l with
     | nil=>intro vs i _ h; exact h.elim
     | cons b l ih =>
      rintro vs i ⟨v,r,rfl,h1,h2⟩ h
      cases i with
      | zero=>exact ⟨v,rfl,h1⟩
      | succ n=>exact ih r n h2 h
    obtain ⟨v,h1,h2⟩:=hn l vs i hc ho
    exact ⟨v,h2,fun w'=>by rw [hvs]; simp [Instr.extract,h1]⟩
   ·exact ho.elim
  obtain ⟨r,h1,h2⟩:=key
  exact ⟨r,h1,fun w' _=>lift (h2 w')⟩
 case slice t x lo hi mx =>
  cases lo <;> cases hi <;> cases mx <;> simp only [iv7] at ho ⊢ <;> try exact ho.elim
  obtain ⟨r,h1,h2⟩:=fu7 hT t (h.rd (hgs.1 trivial)) (h.rd (hgs.2.1 rfl)) ho
  exact ⟨r,h1,fun w' _=>lift (h2 w')⟩
 case makeFunc fn first caps =>
  obtain ⟨first⟩:=first
  cases fn <;> cases first <;> simp only [cv7] at ho ⊢ <;> try exact ho.elim
  rename_i f
  have key:∀ (l:List Operand),gOk true (rgs σ.rd l) → ∀ as,as7 (rds σ.rd l) = some as → sa7 M σ.H w as (l.map a.eval):=by
   intro l
   induction l with
   | nil=>intro _ as e; cases e; rfl
   | cons x l ih =>
    intro hg as e
    simp only [rds,as7] at e
    have hx:=h.rd (hg.1 rfl)
    cases hq:(σ.rd x).2 <;> rw [hq] at e hx <;> simp only [as7] at e <;> try cases e
    rename_i b
    cases hc:as7 (rds σ.rd l) <;> rw [hc] at e <;> simp only [Option.map_none,Option.map_some,Option.some.injEq] at e <;> try cases e
    exact ⟨_,_,rfl,hx,ih hg.2 _ hc⟩
  unfold uv7 at ho ⊢
  split at ho
  ·rename_i as has
   refine ⟨.func (.func f) #[] (caps.map a.eval),⟨caps.toList.map a.eval, ?_,key caps.toList hgs as has⟩,fun w' _ => ?_⟩
   ·congr 1; apply Array.toList_inj.1; simp
   ·simp [execOp,Instr.makeFunc]
  ·exact ho.elim
 case call c =>
  obtain ⟨callee,args,ats⟩:=c
  cases callee with
  | value f=>simp at hv
  | invoke r m=>simp at hv
  | builtin b =>
   simp only at hgs ho ⊢
   obtain ⟨args⟩:=args
   obtain ⟨ats⟩:=ats
   cases b <;> simp only [ev7] at hv ho ⊢ <;> try exact ho.elim
   case len =>
    rcases args with _ | ⟨x,_ | ⟨y,rest⟩⟩ <;> simp only [rds] at ho <;> try exact ho.elim
    rcases ats with _ | ⟨t,_ | ⟨t2,rest⟩⟩ <;> simp only at ho <;> try exact ho.elim
    obtain ⟨r,h1,h2⟩:=nu7 hT t type (h.rd (hgs.1 rfl)) ho
    exact ⟨r,h1,fun w' _=>by have:=lift (x:=Builtin.len_ #[t] type #[a.eval x]) (h2 w'); simpa [execOp,resolve,invoke,builtin] using this⟩
   case max =>
    rcases args with _ | ⟨x,_ | ⟨y,_ | ⟨z,rest⟩⟩⟩ <;> simp only [rds] at ho <;> try exact ho.elim
    obtain ⟨r,h1,h2⟩:=mu7 (P:=P) true (h.rd (hgs.1 rfl)) (h.rd (hgs.2.1 rfl)) ho ats.toArray type
    exact ⟨r,h1,fun w' _=>by have:=lift (x:=Builtin.max_ ats.toArray type #[a.eval x,a.eval y]) (h2 w'); simpa [execOp,resolve,invoke,builtin] using this⟩
   case min =>
    rcases args with _ | ⟨x,_ | ⟨y,_ | ⟨z,rest⟩⟩⟩ <;> simp only [rds] at ho <;> try exact ho.elim
    obtain ⟨r,h1,h2⟩:=mu7 (P:=P) false (h.rd (hgs.1 rfl)) (h.rd (hgs.2.1 rfl)) ho ats.toArray type
    exact ⟨r,h1,fun w' _=>by have:=lift (x:=Builtin.min_ ats.toArray type #[a.eval x,a.eval y]) (h2 w'); simpa [execOp,resolve,invoke,builtin] using this⟩
theorem vp7 (hT:ob7 P ty) (h:St E nt M σ a w) {o:Oper} (hv:isV o.op = true) {g:Bool} (hg:g = true) (hgs:gOk true (pl7 σ.rd o.op)) (ho:(opV ty g σ.rd σ.H o.op).1) :
  ∃ v,ha7 M σ.H w (opV ty g σ.rd σ.H o.op).2 v ∧ ∀ w',Same M σ.H w w' → (execOp a.eval o).run P w' = .ok (.value v) w':=by
 obtain ⟨v,h1,h2⟩:=dm7 hT h hv hg hgs ho
 exact ⟨v,h1,fun w' hs=>h2 w' fun _=>hs⟩
end val
end Go.Proofs.YtbfbjghfcajddaaGreat.Ab
