/- An abstract machine: what temporaries and rows of one's own hold, told without addresses; what a piece of code asks, as a plain condition ('awp'). -/
import Derived.Test.YtabadfkikdefeaaGreatO1
set_option linter.all false
set_option maxRecDepth 100000
set_option maxHeartbeats 6400000
namespace Go.Proofs.YtabadfkikdefeaaGreat.Ab
open Go.RowKit
inductive CK where
 | i (k : IntKind)
 | s (t : TypeId) (ck : List CK) (b : Nat)
inductive AV where
 | int (k : IntKind) (n : Int)
 | bool (b : Bool)
 | flt (n : Nat)
 | str (s : ByteArray)
 | nilp
 | nils
 | ptr (id n i o : Nat)
 | h (id st len : Nat)
 | sl (n sz : Nat) (f : Nat → Nat → AV)
 | rp (n : Nat) (f : Nat → AV)
 | ws (t : TypeId) (ck : List CK) (n : Nat)
 | wu (t : TypeId) (ck : List CK) (b : Nat)
 | wp (t : TypeId) (ck : List CK) (o : Nat)
 | junk
inductive RV where
 | c (a : AV)
 | agg (l : List AV)
 | fn (f : FuncId) (caps : List AV)
 | tup (l : List RV)
 | ifc (t : TypeId) (x : RV)
inductive Row where
 | box (l : List AV)
 | ints (k : IntKind) (l : List Int)
 | bools (l : List Bool)
 | gen (els : List (List AV))
 | own (els : List (List AV))
inductive Root where
 | live (fz : Bool) (ty : TypeId) (sz : Nat) (r : Row)
 | dead
abbrev Tm := List (Nat × Bool × RV)
structure AS where
 tm : Tm
 H : List Root
inductive TyK where
 | i (k : IntKind)
 | b
 | str
 | sc
 | st (fs : List (Nat × Nat))
 | ar (n esz : Nat)
 | sl (e : TypeId)
 | no
structure TyE where
 sz : Nat
 bytes : Nat
 k : TyK
 zero : List AV
 wk : Option (List CK)
abbrev Ty := TypeId → TyE
def inK : IntKind → Int → Prop
 | .i8, n => -128 ≤ n ∧ n ≤ 127
 | .i16, n => -32768 ≤ n ∧ n ≤ 32767
 | .i32, n => -2147483648 ≤ n ∧ n ≤ 2147483647
 | .i64, n => -9223372036854775808 ≤ n ∧ n ≤ 9223372036854775807
 | .u8, n => 0 ≤ n ∧ n ≤ 255
 | .u16, n => 0 ≤ n ∧ n ≤ 65535
 | .u32, n => 0 ≤ n ∧ n ≤ 4294967295
 | .u64, n => 0 ≤ n ∧ n ≤ 18446744073709551615
def lk : Tm → Nat → Bool × RV
 | [], _ => (true, .c .junk)
 | (k, v) :: l, t => if k = t then v else lk l t
def ofConst : Value → RV
 | .int k n => .c (.int k n)
 | .bool b => .c (.bool b)
 | .string s => .c (.str s)
 | .float .f64 n => .c (.flt n)
 | .pointer none => .c .nilp
 | .slice none 0 0 => .c .nils
 | _ => .c .junk
def AS.rd (σ : AS) : Operand → Bool × RV
 | .tmp t => lk σ.tm t
 | .const v => (true, ofConst v)
 | .func f => (true, .fn f [])
 | .global _ => (true, .c .junk)
def putT (l : Tm) (g : Bool) (d : Option Nat) (v : RV) : Tm :=
 match d with
 | some t => (t, g, v) :: l
 | none => l
def rootAt : List Root → Nat → Root
 | [], _ => .dead
 | r :: _, 0 => r
 | _ :: l, n + 1 => rootAt l n
def setRoot : List Root → Nat → Root → List Root
 | [], _, _ => []
 | _ :: l, 0, a => a :: l
 | b :: l, n + 1, a => b :: setRoot l n a
def nth : List AV → Nat → AV
 | [], _ => .junk
 | a :: _, 0 => a
 | _ :: l, n + 1 => nth l n
def setN : List AV → Nat → AV → List AV
 | [], _, _ => []
 | _ :: l, 0, a => a :: l
 | b :: l, n + 1, a => b :: setN l n a
def pat : List AV → Nat → List AV → List AV
 | l, _, [] => l
 | l, o, a :: vs => pat (setN l o a) (o + 1) vs
def Row.len : Row → Nat
 | .box _ => 1
 | .ints _ l => l.length
 | .bools l => l.length
 | .gen l => l.length
 | .own l => l.length
def Row.isBox : Row → Bool
 | .box _ => true
 | .own _ => true
 | _ => false
def Row.one : Row → Bool
 | .box _ => true
 | _ => false
def Row.get : Row → Nat → Nat → AV
 | .box l, _, o => nth l o
 | .ints k l, i, _ => .int k (l.getD i 0)
 | .bools l, i, _ => .bool (l.getD i false)
 | .gen l, i, o => nth (l.getD i []) o
 | .own l, i, o => nth (l.getD i []) o
def tab (f : Nat → AV) : Nat → Nat → List AV
 | _, 0 => []
 | k, n + 1 => f k :: tab f (k + 1) n
def at2 : List (Nat × Nat) → Nat → Nat × Nat
 | [], _ => (0, 0)
 | a :: _, 0 => a
 | _ :: l, n + 1 => at2 l n
def cellsR : RV → List AV
 | .c a => [a]
 | .agg l => l
 | _ => []
def AV.nj : AV → Bool
 | .junk => false
 | _ => true
def njL : List AV → Bool
 | [] => true
 | a :: l => a.nj && njL l
def AV.fr : AV → Bool
 | .junk | .ptr .. | .h .. | .ws .. | .wu .. | .wp .. => false
 | _ => true
abbrev Vo := Prop × RV
def no : Vo := (False, .c .junk)
def cmpV (op : BinOp) (a b : Int) : Vo :=
 match op with
 | .eql => (True, .c (.bool (decide (a = b))))
 | .neq => (True, .c (.bool (decide (a ≠ b))))
 | .lss => (True, .c (.bool (decide (a < b))))
 | .leq => (True, .c (.bool (decide (a ≤ b))))
 | .gtr => (True, .c (.bool (decide (b < a))))
 | .geq => (True, .c (.bool (decide (b ≤ a))))
 | _ => no
def intV (op : BinOp) (k : IntKind) (a b : Int) : Vo :=
 match op with
 | .add => (inK k (a + b), .c (.int k (a + b)))
 | .sub => (inK k (a - b), .c (.int k (a - b)))
 | .mul => (inK k (a * b), .c (.int k (a * b)))
 | .quo => (b ≠ 0 ∧ inK k (a.tdiv b), .c (.int k (a.tdiv b)))
 | .rem => (b ≠ 0, .c (.int k (a.tmod b)))
 | _ => cmpV op a b
def eqS (a b : ByteArray) : Bool := decide (a.data.toList = b.data.toList)
def strV (op : BinOp) (a b : ByteArray) : Vo :=
 match op with
 | .add => (a.size + b.size ≤ 9223372036854775807, .c (.str (a ++ b)))
 | .eql => (True, .c (.bool (eqS a b)))
 | .neq => (True, .c (.bool (!eqS a b)))
 | _ => no
def subS (s : ByteArray) (lo hi : Int) : Vo := (0 ≤ lo ∧ lo ≤ hi ∧ hi ≤ s.size, .c (.str (s.extract lo.toNat hi.toNat)))
def binV (op : BinOp) (t : TyK) : RV → RV → Vo
 | .c (.int k a), .c (.int k' b) => (k = k' ∧ (intV op k a b).1, (intV op k a b).2)
 | .c (.bool a), .c (.bool b) => match t with
  | .b => match op with
   | .eql => (True, .c (.bool (a == b)))
   | .neq => (True, .c (.bool (a != b)))
   | _ => no
  | _ => no
 | .c (.str a), .c (.str b) => strV op a b
 | _, _ => no
def unV (op : UnOp) : RV → Vo
 | .c (.bool a) => match op with
  | .not => (True, .c (.bool (!a)))
  | _ => no
 | .c (.int k a) => match op with
  | .neg => (inK k (-a), .c (.int k (-a)))
  | _ => no
 | _ => no
def selB (c a b : Bool) : Bool := if c = true then a else b
def selI (c : Bool) (a b : Int) : Int := if c = true then a else b
def pickV : RV → RV → RV → Vo
 | .c (.bool c), .c (.bool a), .c (.bool b) => (True, .c (.bool (selB c a b)))
 | .c (.bool c), .c (.int k a), .c (.int k' b) => (k = k', .c (.int k (selI c a b)))
 | .c (.bool c), .c .junk, b => (c = false, b)
 | .c (.bool c), a, .c .junk => (c = true, a)
 | _, _, _ => no
def vld (H : List Root) (id st len : Nat) : Prop :=
 match rootAt H id with
 | .live _ _ _ r => st + len = r.len
 | .dead => False
def vldF (H : List Root) (id st len : Nat) : Prop :=
 match rootAt H id with
 | .live _ _ _ r => st + len = r.len ∧ r.isBox = false
 | .dead => False
def lenV (k : TyK) (H : List Root) (x : RV) : Vo :=
 match k with
 | .sl _ => match x with
  | .c (.sl n _ _) => (True, .c (.int .i64 n))
  | .c (.h id st n) => (vld H id st n, .c (.int .i64 n))
  | .c .nils => (True, .c (.int .i64 0))
  | .c (.ws _ _ n) => (True, .c (.int .i64 n))
  | _ => no
 | .str => match x with
  | .c (.str s) => (True, .c (.int .i64 s.size))
  | _ => no
 | _ => no
def vldP (H : List Root) (id n : Nat) : Prop :=
 match rootAt H id with
 | .live _ _ _ r => r.len = n
 | .dead => False
def fieldV (k : TyK) (H : List Root) (x : RV) (f : Nat) : Vo :=
 match k with
 | .st fs => match x with
  | .c (.rp n g) => ((at2 fs f).2 ≠ 0 ∧ (at2 fs f).1 + (at2 fs f).2 ≤ n, .c (.rp (at2 fs f).2 (fun j => g (j + (at2 fs f).1))))
  | .c (.ptr id n i o) => ((at2 fs f).2 ≠ 0 ∧ vldP H id n, .c (.ptr id n i (o + (at2 fs f).1)))
  | .c (.wp t ck o) => ((at2 fs f).2 ≠ 0, .c (.wp t ck (o + (at2 fs f).1)))
  | _ => no
 | _ => no
def indexV (ty : Ty) (k : TyK) (H : List Root) : RV → RV → Vo
 | .c (.sl n sz f), .c (.int _ i) => match k with
  | .sl e => ((0 ≤ i ∧ i < n) ∧ sz = (ty e).sz, .c (.rp sz (fun j => f i.toNat j)))
  | _ => no
 | .c (.h id st n), .c (.int _ i) => match k with
  | .sl e => match rootAt H id with
   | .live _ _ sz r => ((0 ≤ i ∧ i < n) ∧ st + n = r.len ∧ sz = (ty e).sz, .c (.ptr id r.len (st + i.toNat) 0))
   | .dead => no
  | _ => no
 | .c (.ws t ck n), .c (.int _ i) => match k with
  | .sl e => ((0 ≤ i ∧ i < n) ∧ t = e ∧ ck.length = (ty e).sz, .c (.wp t ck 0))
  | _ => no
 | _, _ => no
def ckAt : List CK → Nat → Option CK
 | [], _ => none
 | a :: _, 0 => some a
 | _ :: l, n + 1 => ckAt l n
def wldV : Option CK → Vo
 | some (.s t ck b) => (True, .c (.wu t ck b))
 | _ => no
def loadV (e : TyE) (H : List Root) : RV → Vo
 | .c (.rp n g) => match e.k with
  | .st _ => (e.sz ≤ n, .agg (tab g 0 e.sz))
  | .ar .. => no
  | .no => no
  | _ => (1 ≤ n, .c (g 0))
 | .c (.ptr id n i o) => match rootAt H id with
  | .live _ _ sz r => match e.k with
   | .st _ => (r.len = n ∧ i < n ∧ o + e.sz ≤ sz, .agg (tab (r.get i) o e.sz))
   | .ar .. => no
   | .no => no
   | _ => (r.len = n ∧ i < n ∧ o < sz, .c (r.get i o))
  | .dead => no
 | .c (.wp _ ck o) => match e.k with
  | .sl _ => wldV (ckAt ck o)
  | _ => no
 | _ => no
def nthR : List RV → Nat → Vo
 | [], _ => no
 | a :: _, 0 => (True, a)
 | _ :: l, n + 1 => nthR l n
def extV (x : RV) (i : Nat) : Vo :=
 match x with
 | .tup l => nthR l i
 | _ => no
def convV (s k : TyK) : RV → Vo
 | .c (.int _ n) => match s with
  | .i _ => match k with
   | .i k => (inK k n, .c (.int k n))
   | _ => no
  | _ => no
 | _ => no
def buildV (pl : Nat → Nat × Nat) (rd : Operand → Bool × RV) : List AV → List (Nat × Operand) → Prop × List AV
 | l, [] => (True, l)
 | l, (i, x) :: ps => (((pl i).2 ≠ 0 ∧ njL (cellsR (rd x).2) = true ∧ (cellsR (rd x).2).length = (pl i).2 ∧ (pl i).1 + (pl i).2 ≤ l.length) ∧ (buildV pl rd (pat l (pl i).1 (cellsR (rd x).2)) ps).1, (buildV pl rd (pat l (pl i).1 (cellsR (rd x).2)) ps).2)
def mmV (mx : Bool) : RV → RV → Vo
 | .c (.int k a), .c (.int k' b) => (k = k', .c (.int k (if mx then max a b else min a b)))
 | _, _ => no
def gOk (g : Bool) : List Bool → Prop
 | [] => True
 | h :: l => (g = true → h = true) ∧ gOk g l
def rds (rd : Operand → Bool × RV) : List Operand → List RV
 | [] => []
 | x :: l => (rd x).2 :: rds rd l
def rgs (rd : Operand → Bool × RV) : List Operand → List Bool
 | [] => []
 | x :: l => (rd x).1 :: rgs rd l
def pgs (rd : Operand → Bool × RV) : List (Nat × Operand) → List Bool
 | [] => []
 | (_, x) :: l => (rd x).1 :: pgs rd l
def slc2 (k : TyK) : RV → RV → Vo
 | .c (.ws t ck n), .c (.int _ m) => match k with
  | .sl _ => (0 ≤ m ∧ m ≤ n, .c (.ws t ck m.toNat))
  | _ => no
 | .c .nils, .c (.int _ m) => match k with
  | .sl _ => (m = 0, .c .nils)
  | _ => no
 | .c (.sl n sz f), .c (.int _ m) => match k with
  | .sl _ => (0 ≤ m ∧ m ≤ n, .c (.sl m.toNat sz f))
  | _ => no
 | .c (.str s), .c (.int _ m) => match k with
  | .str => subS s 0 m
  | _ => no
 | _, _ => no
def slc1 (ty : Ty) (k : TyK) : RV → RV → Vo
 | .c (.str s), .c (.int _ m) => match k with
  | .str => subS s m s.size
  | _ => no
 | .c (.sl n sz f), .c (.int _ m) => match k with
  | .sl e => ((0 ≤ m ∧ m < n) ∧ sz = (ty e).sz, .c (.sl (n - m.toNat) sz fun i j => f (i + m.toNat) j))
  | _ => no
 | _, _ => no
def slc3 (k : TyK) : RV → RV → RV → Vo
 | .c (.str s), .c (.int _ l), .c (.int _ m) => match k with
  | .str => subS s l m
  | _ => no
 | _, _, _ => no
def byAt (s : ByteArray) (n : Int) : Int := ((s.data.toList.getD n.toNat 0).toNat : Int)
def idxS (k : TyK) : RV → RV → Vo
 | .c (.str s), .c (.int _ m) => match k with
  | .str => (0 ≤ m ∧ m < s.size, .c (.int .u8 (byAt s m)))
  | _ => no
 | _, _ => no
def nchV (H : List Root) (x : RV) : Vo :=
 match x with
 | .c (.ptr id n i o) => match rootAt H id with
  | .live _ _ _ r => (r.len = n, .c (.ptr id n i o))
  | _ => no
 | _ => no
def slcV (ty : Ty) (k : TyK) (rd : Operand → Bool × RV) (x : RV) : Option Operand → Option Operand → Option Operand → Vo
 | none, some h, none => slc2 k x (rd h).2
 | some l, none, none => slc1 ty k x (rd l).2
 | some l, some h, none => slc3 k x (rd l).2 (rd h).2
 | _, _, _ => no
def capL : List RV → Option (List AV)
 | [] => some []
 | .c a :: l => (capL l).map (a :: ·)
 | _ :: _ => none
def funV (f : FuncId) : Option (List AV) → Vo
 | some l => (True, .fn f l)
 | none => no
def mkfV (fn : Fn) (first : List Operand) (l : List RV) : Vo :=
 match fn, first with
 | .func f, [] => funV f (capL l)
 | _, _ => no
section
variable (ty : Ty)
def opGs (rd : Operand → Bool × RV) : Op → List Bool
 | .move x | .assign x | .unOp _ _ x | .fieldAddr _ x _ | .load _ x | .extract x _ | .convert _ _ x | .field _ x _ | .box _ x | .nilCheck x => [(rd x).1]
 | .binOp _ _ x y _ | .indexAddr _ x y | .index _ x y | .store _ x y | .makeSlice _ x y => [(rd x).1, (rd y).1]
 | .pick c _ _ => [(rd c).1]
 | .build _ ps | .buildSlice _ _ ps => pgs rd ps.toList
 | .call c => match c.callee with
  | .value f => (rd f).1 :: rgs rd c.args.toList
  | _ => rgs rd c.args.toList
 | .slice _ x lo hi _ => (rd x).1 :: (rgs rd lo.toList ++ rgs rd hi.toList)
 | .makeFunc _ _ caps => rgs rd caps.toList
 | _ => []
def bltV (H : List Root) (b : Builtin) (ts : List TypeId) (l : List RV) : Vo :=
 match b with
 | .len => match l with
  | [x] => match ts with
   | [t] => lenV (ty t).k H x
   | _ => no
  | _ => no
 | .max => match l with
  | [x, y] => mmV true x y
  | _ => no
 | .min => match l with
  | [x, y] => mmV false x y
  | _ => no
 | _ => no
def opV (g : Bool) (rd : Operand → Bool × RV) (H : List Root) : Op → Vo
 | .move x | .assign x => (True, (rd x).2)
 | .binOp op t x y _ => binV op (ty t).k (rd x).2 (rd y).2
 | .unOp op _ x => unV op (rd x).2
 | .convert s t x => convV (ty s).k (ty t).k (rd x).2
 | .pick c a b => match (rd c).2 with
  | .c (.bool cb) => (gOk (g && cb) [(rd a).1] ∧ gOk (g && !cb) [(rd b).1] ∧ (pickV (.c (.bool cb)) (rd a).2 (rd b).2).1, (pickV (.c (.bool cb)) (rd a).2 (rd b).2).2)
  | _ => no
 | .fieldAddr t x f => fieldV (ty t).k H (rd x).2 f
 | .indexAddr t x i => indexV ty (ty t).k H (rd x).2 (rd i).2
 | .load t x => loadV (ty t) H (rd x).2
 | .index t x i => idxS (ty t).k (rd x).2 (rd i).2
 | .nilCheck x => nchV H (rd x).2
 | .extract x i => extV (rd x).2 i
 | .slice t x lo hi mx => slcV ty (ty t).k rd (rd x).2 lo hi mx
 | .makeFunc fn first caps => mkfV fn first.toList (rds rd caps.toList)
 | .build t ps => match (ty t).k with
  | .st fs => ((buildV (at2 fs) rd (ty t).zero ps.toList).1, .agg (buildV (at2 fs) rd (ty t).zero ps.toList).2)
  | _ => no
 | .call c => match c.callee with
  | .builtin b => bltV ty H b c.argTypes.toList (rds rd c.args.toList)
  | _ => no
 | _ => no
def isV : Op → Bool
 | .move _ | .assign _ | .binOp .. | .unOp .. | .convert .. | .pick .. | .fieldAddr .. | .indexAddr .. | .index .. | .nilCheck .. | .load .. | .extract .. | .build .. | .slice .. | .makeFunc .. => true
 | .call c => match c.callee with
  | .builtin .len | .builtin .max | .builtin .min => true
  | _ => false
 | _ => false
def frz (H : List Root) : AV → AV
 | .h id st len => match rootAt H id with
  | .live _ _ sz r => .sl len sz (fun i j => r.get (st + i) j)
  | .dead => .junk
 | .ptr .. => .junk
 | a => a
def frzL (H : List Root) : List AV → List AV
 | [] => []
 | a :: l => frz H a :: frzL H l
def frzOk (H : List Root) : List AV → Prop
 | [] => True
 | .h id st len :: l => vldF H id st len ∧ frzOk H l
 | .ptr .. :: _ => False
 | .junk :: _ => False
 | .ws .. :: _ => False
 | .wu .. :: _ => False
 | .wp .. :: _ => False
 | _ :: l => frzOk H l
def Root.mark : Root → Root
 | .live _ ty sz r => .live true ty sz r
 | .dead => .dead
def frzH : List Root → List AV → List Root
 | H, [] => H
 | H, .h id _ _ :: l => frzH (setRoot H id (rootAt H id).mark) l
 | H, _ :: l => frzH H l
def Row.put (sz : Nat) : Row → Nat → Nat → List AV → Prop × Row
 | .box l, _, o, cs => (True, .box (pat l o cs))
 | .ints k l, i, _, [.int k' n] => (k' = k ∧ sz = 1, .ints k (l.set i n))
 | .bools l, i, _, [.bool b] => (sz = 1, .bools (l.set i b))
 | .gen l, i, o, cs => (True, .gen (l.set i (pat (l.getD i []) o cs)))
 | .own l, i, o, cs => (True, .own (l.set i (pat (l.getD i []) o cs)))
 | r, _, _, _ => (False, r)
def kN (k : TyK) : Prop :=
 match k with
 | .no => False
 | _ => True
def storeV (e : TyE) (H : List Root) (p v : RV) (K : List Root → Prop) : Prop :=
 match p with
 | .c (.ptr id n i o) => match rootAt H id with
  | .live fz t sz r => fz = false ∧ ((cellsR v).length = e.sz ∧ r.len = n ∧ i < n ∧ o + e.sz ≤ sz ∧ 0 < e.sz ∧ kN e.k) ∧
   if r.isBox then njL (cellsR v) = true ∧ K (setRoot H id (.live false t sz (r.put sz i o (cellsR v)).2))
   else frzOk H (cellsR v) ∧ rootAt (frzH H (cellsR v)) id = .live false t sz r ∧ (r.put sz i o (frzL H (cellsR v))).1 ∧ K (setRoot (frzH H (cellsR v)) id (.live false t sz (r.put sz i o (frzL H (cellsR v))).2))
  | .dead => False
 | _ => False
def allInts (k : IntKind) : List (List AV) → Option (List Int)
 | [] => some []
 | [.int k' n] :: l => if k' = k then (allInts k l).map (n :: ·) else none
 | _ :: _ => none
def allBools : List (List AV) → Option (List Bool)
 | [] => some []
 | [.bool b] :: l => (allBools l).map (b :: ·)
 | _ :: _ => none
def rep (z : List AV) : Nat → List AV
 | 0 => []
 | n + 1 => z ++ rep z n
def takeN : Nat → List AV → List AV
 | 0, _ => []
 | _, [] => []
 | n + 1, a :: l => a :: takeN n l
def dropN : Nat → List AV → List AV
 | 0, l => l
 | _, [] => []
 | n + 1, _ :: l => dropN n l
def chunk (sz : Nat) : Nat → List AV → List (List AV)
 | 0, _ => []
 | n + 1, l => takeN sz l :: chunk sz n (dropN sz l)
def mkRow (k : TyK) (els : List (List AV)) : Prop × Row :=
 match k with
 | .i k => match allInts k els with
  | some l => (True, .ints k l)
  | none => (False, .gen els)
 | .b => match allBools els with
  | some l => (True, .bools l)
  | none => (False, .gen els)
 | .no => (False, .gen els)
 | _ => (True, .gen els)
def litV (e : TypeId) (H : List Root) (n : Nat) (q : Prop × List AV) (K : RV → List Root → Prop) : Prop :=
 q.1 ∧ frzOk H q.2 ∧ (mkRow (ty e).k (chunk (ty e).sz n (frzL H q.2))).1 ∧ (0 < (ty e).sz ∧ n * (ty e).sz ≤ 16777216) ∧ K (.c (.h H.length 0 n)) (frzH H q.2 ++ [.live false e (ty e).sz (mkRow (ty e).k (chunk (ty e).sz n (frzL H q.2))).2])
def litO (e : TypeId) (H : List Root) (n : Nat) (q : Prop × List AV) (K : RV → List Root → Prop) : Prop :=
 q.1 ∧ njL q.2 = true ∧ (0 < (ty e).sz ∧ n * (ty e).sz ≤ 16777216) ∧ K (.c (.h H.length 0 n)) (H ++ [.live false e (ty e).sz (.own (chunk (ty e).sz n q.2))])
def zOk (k : TyK) (z : List AV) : Prop :=
 match k with
 | .i k => z = [.int k 0]
 | .b => z = [.bool false]
 | .no => False
 | _ => frzOk [] z
def zeros (k : TyK) (z : List AV) (n : Nat) : Row :=
 match k with
 | .i k => .ints k (List.replicate n 0)
 | .b => .bools (List.replicate n false)
 | _ => .gen (List.replicate n z)
def zerosW (wk : Option (List CK)) (k : TyK) (z : List AV) (n : Nat) : Row :=
 match wk with
 | some [] => .own (List.replicate n z)
 | _ => zeros k z n
def makeV (k : TyK) (H : List Root) (n c : RV) (K : RV → List Root → Prop) : Prop :=
 match k with
 | .sl e => match n, c with
  | .c (.int _ n), .c (.int _ c) => (0 ≤ n ∧ n ≤ 1099511627776 ∧ c = n ∧ 0 < (ty e).sz ∧ (ty e).bytes ≤ 128 ∧ zOk (ty e).k (ty e).zero) ∧ K (.c (.h H.length 0 n.toNat)) (H ++ [.live false e (ty e).sz (zerosW (ty e).wk (ty e).k (ty e).zero n.toNat)])
  | _, _ => False
 | _ => False
def ckE : List CK → List AV → Prop
 | [], [] => True
 | .i k :: l, .int k' n :: z => (k = k' ∧ inK k n) ∧ ckE l z
 | .s t c b :: l, .ws t' c' n :: z => (t = t' ∧ c = c' ∧ n ≤ b) ∧ ckE l z
 | .s t c b :: l, .wu t' c' b' :: z => (t = t' ∧ c = c' ∧ b' ≤ b) ∧ ckE l z
 | .s _ _ _ :: l, .nils :: z => ckE l z
 | _, _ => False
def zW : List CK → List AV → Prop
 | [], [] => True
 | .i k :: l, .int k' n :: z => (k = k' ∧ n = 0) ∧ zW l z
 | .s _ _ _ :: l, .nils :: z => zW l z
 | _, _ => False
def litW (e : TypeId) (ck : List CK) (n : Nat) (q : Prop × List AV) (K : RV → Prop) : Prop :=
 q.1 ∧ (n = 1 ∧ ckE ck q.2 ∧ 0 < (ty e).sz ∧ (ty e).sz ≤ 16777216 ∧ ck.length = (ty e).sz) ∧ K (.c (.ws e ck 1))
def appW (e : TypeId) (ck : List CK) (s x : RV) (K : RV → Prop) : Prop :=
 match x with
 | .c (.ws t' ck' m) => ((t' = e ∧ ck' = ck ∧ 0 < m ∧ m ≤ 1099511627776) ∧ ck.length = (ty e).sz ∧ 0 < (ty e).sz ∧ (ty e).bytes ≤ 128 ∧ zW ck (ty e).zero) ∧ match s with
  | .c .nils => K (.c (.ws e ck m))
  | .c (.ws t2 ck2 n) => (t2 = e ∧ ck2 = ck ∧ n + m ≤ 1099511627776) ∧ K (.c (.ws e ck (n + m)))
  | .c (.wu t2 ck2 b) => (t2 = e ∧ ck2 = ck ∧ b + m ≤ 1099511627776) ∧ K (.c (.wu e ck (b + m)))
  | _ => False
 | _ => False
def Row.app : Row → Row → Prop × Row
 | .ints k l, .ints k' m => (k = k', .ints k (l ++ m))
 | .bools l, .bools m => (True, .bools (l ++ m))
 | .gen l, .gen m => (True, .gen (l ++ m))
 | .own l, .own m => (True, .own (l ++ m))
 | r, _ => (False, r)
def Row.drop : Row → Nat → Row
 | .ints k l, n => .ints k (l.drop n)
 | .bools l, n => .bools (l.drop n)
 | .gen l, n => .gen (l.drop n)
 | .own l, n => .own (l.drop n)
 | r, _ => r
def intsOf (k : IntKind) (g : Nat → AV) : Nat → Nat → Option (List Int)
 | _, 0 => some []
 | i, n + 1 => match g i with
  | .int k' v => if k' = k then (intsOf k g (i + 1) n).map (v :: ·) else none
  | _ => none
def tabR (f : Nat → Nat → AV) (sz : Nat) : Nat → Nat → List (List AV)
 | _, 0 => []
 | i, n + 1 => tab (f i) 0 sz :: tabR f sz (i + 1) n
def slRow (n sz : Nat) (f : Nat → Nat → AV) : Row :=
 match f 0 0 with
 | .int k _ => match intsOf k (fun i => f i 0) 0 n with
  | some l => if sz = 1 then .ints k l else .gen (tabR f sz 0 n)
  | none => .gen (tabR f sz 0 n)
 | _ => .gen (tabR f sz 0 n)
def appSrc (H : List Root) : RV → Prop × Row × Nat
 | .c (.sl n sz f) => ((0 < n ∧ 0 < sz) ∧ ((List.range n).all fun i => (List.range sz).all fun j => (f i j).nj) = true, slRow n sz f, sz)
 | .c (.h id st len) => match rootAt H id with
  | .live _ _ sz r => (st + len = r.len ∧ r.one = false, r.drop st, sz)
  | .dead => (False, .gen [], 0)
 | _ => (False, .gen [], 0)
def AV.strOf : AV → Option ByteArray
 | .str s => some s
 | _ => none
def strOf : RV → Option ByteArray
 | .c a => a.strOf
 | _ => none
def byI (s : ByteArray) : List Int := s.data.toList.map fun b => (b.toNat : Int)
def appS (k : TyK) (H : List Root) (s : RV) (b : ByteArray) (K : RV → List Root → Prop) : Prop :=
 match k with
 | .sl e => ((ty e).k = .i .u8 ∧ (ty e).sz = 1 ∧ (ty e).bytes = 1) ∧
  match s with
  | .c .nils => (0 < b.size ∧ b.size ≤ 1099511627776) ∧ K (.c (.h H.length 0 b.size)) (H ++ [.live false e 1 (.ints .u8 (byI b))])
  | .c (.h id st len) => match rootAt H id with
   | .live fz t sz r => (fz = false ∧ st = 0 ∧ len = r.len ∧ t = e ∧ sz = 1 ∧ len + b.size ≤ 1099511627776) ∧ (r.app (.ints .u8 (byI b))).1 ∧ K (.c (.h id 0 (len + b.size))) (setRoot H id (.live false t sz (r.app (.ints .u8 (byI b))).2))
   | .dead => False
  | _ => False
 | _ => False
def appV (k : TyK) (H : List Root) (s x : RV) (K : RV → List Root → Prop) : Prop :=
 match k with
 | .sl e => (appSrc H x).1 ∧ (appSrc H x).2.2 = (ty e).sz ∧ 0 < (ty e).sz ∧ (ty e).bytes ≤ 128 ∧
  match s with
  | .c .nils => (0 < (appSrc H x).2.1.len ∧ (appSrc H x).2.1.len ≤ 1099511627776) ∧ K (.c (.h H.length 0 (appSrc H x).2.1.len)) (H ++ [.live false e (ty e).sz (appSrc H x).2.1])
  | .c (.h id st len) => match rootAt H id with
   | .live fz t sz r => (fz = false ∧ st = 0 ∧ len = r.len ∧ t = e ∧ sz = (ty e).sz ∧ len + (appSrc H x).2.1.len ≤ 1099511627776) ∧ (r.app (appSrc H x).2.1).1 ∧ K (.c (.h id 0 (len + (appSrc H x).2.1.len))) (setRoot H id (.live false t sz (r.app (appSrc H x).2.1).2))
   | .dead => False
  | _ => False
 | _ => False
end
end Go.Proofs.YtabadfkikdefeaaGreat.Ab
