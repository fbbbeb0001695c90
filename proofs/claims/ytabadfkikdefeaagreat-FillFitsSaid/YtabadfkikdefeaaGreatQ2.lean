/- Texts of the proof, joined: A2, A3, A4. -/
import Derived.Laws.Tables
import Derived.Maps.AppendAt
import Derived.Great.BuildSlice
import Derived.Laws.OwnMore
import Derived.Test.YtabadfkikdefeaaGreatR1
set_option linter.all false
set_option maxRecDepth 100000
set_option maxHeartbeats 6400000
namespace Go.Proofs.YtabadfkikdefeaaGreat.Ab
open Go.RowKit
def Con0 (rho : Nat → Prop) (w : World) : AV → Value → Prop
 | .int k n, v => v = .int k n
 | .bool b, v => v = .bool b
 | .flt n, v => v = .float .f64 n
 | .str s, v => v = .string s
 | .nilp, v => v = .pointer none
 | .nils, v => v = .slice none 0 0
 | .sl n sz f, v => ∃ a b off c, v = .slice a n c ∧ n ≤ c ∧ c ≤ maxLen ∧ (0 < n → a = some ⟨b, off, none⟩ ∧ rho b) ∧ ∀ i, i < n → ∀ j, j < sz → ∃ u, w.cell? ⟨b, off + i * sz + j, none⟩ = some u ∧ Con0 rho w (f i j) u
 | .rp n f, v => ∃ b off, v = .pointer (some ⟨b, off, none⟩) ∧ rho b ∧ ∀ j, j < n → ∃ u, w.cell? ⟨b, off + j, none⟩ = some u ∧ Con0 rho w (f j) u
 | .ptr .., _ => False
 | .h .., _ => False
 | .ws .., _ => False
 | .wu .., _ => False
 | .wp .., _ => False
 | .junk, _ => True
structure Mp where
 phi : Nat → Nat
 off : Nat → Nat
 rho : Nat → Prop
 tau : Nat → Option (TypeId × List CK)
def WSl (M : Mp) (w : World) (t : TypeId) (ck : List CK) (n : Nat) (v : Value) : Prop :=
 ∃ a c, v = .slice a n c ∧ n ≤ c ∧ c ≤ maxLen ∧ (a = none → c = 0) ∧ ∀ ad, a = some ad → ∃ b cur, ad = ⟨b, 0, none⟩ ∧ M.tau b = some (t, ck) ∧ w.heap[b]? = some (.cells cur t (0, 0)) ∧ c * ck.length = cur.size
def WPt (M : Mp) (w : World) (t : TypeId) (ck : List CK) (o : Nat) (v : Value) : Prop :=
 ∃ b cur i, v = .pointer (some ⟨b, i * ck.length + o, none⟩) ∧ M.tau b = some (t, ck) ∧ w.heap[b]? = some (.cells cur t (0, 0)) ∧ (i + 1) * ck.length ≤ cur.size
def CkOk (M : Mp) (w : World) : CK → Value → Prop
 | .i k, v => ∃ n, v = .int k n ∧ inK k n
 | .s t ck b, v => ∃ n, n ≤ b ∧ WSl M w t ck n v
structure TauOk (E0 : Nat) (M : Mp) (H : List Root) (w : World) : Prop where
 new : ∀ b q, M.tau b = some q → E0 ≤ b ∧ ¬ M.rho b
 row : ∀ b q id fz ty sz r, M.tau b = some q → rootAt H id = .live fz ty sz r → M.phi id ≠ b
 cells : ∀ b t ck, M.tau b = some (t, ck) → ∃ cur, w.heap[b]? = some (.cells cur t (0, 0)) ∧ 0 < ck.length ∧ (∃ n, n * ck.length = cur.size) ∧ ∀ k, k < cur.size → ∃ v, cur[k]? = some v ∧ ∀ q, ck[k % ck.length]? = some q → CkOk M w q v
def Con (M : Mp) (H : List Root) (w : World) : AV → Value → Prop
 | .ptr id n i o, v => (id < H.length ∧ v.oneCell' = true) ∧ ∀ fz ty sz r, rootAt H id = .live fz ty sz r → n ≤ r.len ∧ (r.len = n → v = .pointer (some ⟨M.phi id, M.off id + i * sz + o, none⟩))
 | .h id st len, v => (id < H.length ∧ v.oneCell' = true) ∧ ∀ fz ty sz r, rootAt H id = .live fz ty sz r → st + len ≤ r.len ∧ (st + len = r.len → ∃ cap cur ad, v = .slice (some ad) len cap ∧ len ≤ cap ∧ cap ≤ maxLen ∧ w.heap[M.phi id]? = some (.cells cur ty (0, 0)) ∧ M.off id + (st + cap) * sz = cur.size ∧ (0 < cap → ad = ⟨M.phi id, M.off id + st * sz, none⟩))
 | .int k n, v => Con0 M.rho w (.int k n) v
 | .bool b, v => Con0 M.rho w (.bool b) v
 | .flt n, v => Con0 M.rho w (.flt n) v
 | .str s, v => Con0 M.rho w (.str s) v
 | .nilp, v => Con0 M.rho w .nilp v
 | .nils, v => Con0 M.rho w .nils v
 | .sl n sz f, v => Con0 M.rho w (.sl n sz f) v
 | .rp n f, v => Con0 M.rho w (.rp n f) v
 | .ws t ck n, v => WSl M w t ck n v
 | .wu t ck b, v => ∃ n, n ≤ b ∧ WSl M w t ck n v
 | .wp t ck o, v => WPt M w t ck o v
 | .junk, _ => True
def ConL (M : Mp) (H : List Root) (w : World) : List AV → List Value → Prop
 | [], vs => vs = []
 | a :: l, vs => ∃ v r, vs = v :: r ∧ Con M H w a v ∧ ConL M H w l r
mutual
def ConR (M : Mp) (H : List Root) (w : World) : RV → Value → Prop
 | .c a, v => Con M H w a v
 | .agg l, v => ∃ vs : List Value, v = .agg vs.toArray ∧ ConL M H w l vs
 | .fn f caps, v => ∃ vs : List Value, v = .func (.func f) #[] vs.toArray ∧ ConL M H w caps vs
 | .tup l, v => ∃ vs : List Value, v = .tuple vs.toArray ∧ ConRL M H w l vs
 | .ifc t x, v => ∃ u, v = .iface t u ∧ ConR M H w x u
def ConRL (M : Mp) (H : List Root) (w : World) : List RV → List Value → Prop
 | [], vs => vs = []
 | a :: l, vs => ∃ v r, vs = v :: r ∧ ConR M H w a v ∧ ConRL M H w l r
end
def RCon (M : Mp) (H : List Root) (w : World) (bx : Bool) (a : AV) (v : Value) : Prop := if bx then Con M H w a v else Con0 M.rho w a v
def RowOk (M : Mp) (H : List Root) (w : World) (b off : Nat) (ty : TypeId) (sz : Nat) (r : Row) : Prop :=
 ∃ cur, w.heap[b]? = some (.cells cur ty (0, 0)) ∧ 0 < sz ∧ off + r.len * sz ≤ cur.size ∧ (∃ cap, off + cap * sz = cur.size) ∧ (r.one = true → off = 0 ∧ cur.size = sz) ∧ ∀ i, i < r.len → ∀ o, o < sz → ∃ v, cur[off + i * sz + o]? = some v ∧ v.oneCell' = true ∧ RCon M H w r.isBox (r.get i o) v
structure Env where
 W0 : World
 rho0 : Nat → Prop
 df : List Deferred
def GlobIn (rho : Nat → Prop) (w : World) : Prop := GlobOk w ∧ ∀ g x, glV g = some x → rho g
theorem GlobIn.mono {rho rho' : Nat → Prop} {w : World} (h : GlobIn rho w) (hr : ∀ b, rho b → rho' b) : GlobIn rho' w := ⟨h.1, fun g x e => hr _ (h.2 g x e)⟩
structure Rel (E : Env) (M : Mp) (H : List Root) (w : World) : Prop where
 bel : Below E.W0.heap.size E.W0 w
 low : ∀ id fz ty sz r, rootAt H id = .live fz ty sz r → E.W0.heap.size ≤ M.phi id
 row : ∀ id fz ty sz r, rootAt H id = .live fz ty sz r → RowOk M H w (M.phi id) (M.off id) ty sz r
 froz : ∀ id ty sz r, rootAt H id = .live true ty sz r → M.rho (M.phi id)
 thaw : ∀ id ty sz r, rootAt H id = .live false ty sz r → ¬ M.rho (M.phi id)
 inj : ∀ i j t s r t' s' r', rootAt H i = .live false t s r → rootAt H j = .live false t' s' r' → M.phi i = M.phi j → i = j
 rlt : ∀ b, M.rho b → b < w.heap.size
 src : (∀ b, M.rho b → E.rho0 b ∨ E.W0.heap.size ≤ b) ∧ GlobIn M.rho E.W0
 tau : TauOk E.W0.heap.size M H w
def Kp (M : Mp) (H : List Root) (w : World) (M' : Mp) (H' : List Root) (w' : World) : Prop := ∀ a v, Con M H w a v → Con M' H' w' a v
section
variable (P : Program)
def Enters (f : FuncId) : Prop := ∃ fn c, P.funcs[f]? = some fn ∧ (fn.name == "runtime.NumGoroutine") = false ∧ fn.body = some c
def OldD (g : Option Nat) (w w' : World) : Prop := w.heap.size ≤ w'.heap.size ∧ ∀ b, b < w.heap.size → some b ≠ g → w'.heap[b]? = w.heap[b]?
abbrev Pu := Option (Option Nat)
def isW : Pu → Prop
 | none => True
 | some _ => False
def puOf (nf n : Nat) (dd : Option Nat) : Pu := if nf ≤ n then some dd else none
class Pan where
 px : RV → List Root → Prop
instance noPan : Pan := ⟨fun _ _ => False⟩
def PanS [Pan] (E : Env) (M : Mp) (H : List Root) (w : World) (ch : List PanicEntry) (w' : World) : Prop :=
 ∃ M' H' r v, ch = [{ v := v, recovered := false }] ∧ Rel E M' H' w' ∧ Kp M H w M' H' w' ∧ H.length ≤ H'.length ∧ ConR M' H' w' r v ∧ Pan.px r H'
def callK [Pan] (pu : Pu) (f : FuncId) (args : List RV) (H : List Root) (K : RV → List Root → Prop) : Prop :=
 Enters P f ∧ ∀ E M w vs, Rel E M H w → ConRL M H w args vs → Calls P f vs.toArray w fun e w' => (∃ M' H' r v, e = .returned v ∧ Rel E M' H' w' ∧ Kp M H w M' H' w' ∧ ConR M' H' w' r v ∧ (∀ g, pu = some g → OldD (g.map M.phi) w w') ∧ H.length ≤ H'.length ∧ K r H') ∨ ∃ ch, e = .panicked ch ∧ PanS E M H w ch w'
end
section
variable (P : Program)
def fldV (t : TypeId) (f : Nat) : RV → Option RV
 | .agg l => match P.underlying t with
  | some (.struct fs) => match fs[f]? with
   | some fd => match P.underlying fd.type with
    | some (.struct _) => none
    | some (.array _ _) => none
    | some _ => if fd.offset < l.length then some (.c (nth l fd.offset)) else none
    | none => none
   | none => none
  | _ => none
 | _ => none
def fldK (x : Option RV) (K : RV → Prop) : Prop :=
 match x with
 | some r => K r
 | none => False
end
section
variable (P : Program) (ty : Ty)
def appT (k : TyK) (H : List Root) (s x : RV) (K : RV → List Root → Prop) : Prop :=
 match k with
 | .sl e => match (ty e).wk with
  | none => appV ty k H s x K
  | some [] => appV ty k H s x K
  | some (c :: cs) => appW ty e (c :: cs) s x (fun r => K r H)
 | _ => False
def apK (so : Option ByteArray) (ts : List TypeId) (t u : TypeId) (H : List Root) (s x : RV) (K : RV → List Root → Prop) : Prop :=
 match so with
 | some b => (ts = [t, u] ∧ (ty u).k = .str) ∧ appS ty (ty t).k H s b K
 | none => ts = [t, t] ∧ appT ty (ty t).k H s x K
theorem apK_cases {ty : Ty} {ts : List TypeId} {t u : TypeId} {H : List Root} {s x : RV} {K : RV → List Root → Prop} (h : apK ty (strOf x) ts t u H s x K) :
  (∃ b, x = .c (.str b) ∧ (ts = [t, u] ∧ (ty u).k = .str) ∧ appS ty (ty t).k H s b K) ∨ (ts = [t, t] ∧ appT ty (ty t).k H s x K) := by
 cases x with
 | c a => cases a with
  | str b => exact .inl ⟨b, rfl, h⟩
  | _ => exact .inr h
 | _ => exact .inr h
theorem apK_of {ty : Ty} {ts : List TypeId} {t u : TypeId} {H : List Root} {s x : RV} {K : RV → List Root → Prop} (h1 : ts = [t, t]) (h2 : appT ty (ty t).k H s x K) : apK ty (strOf x) ts t u H s x K := by
 have hno : ∀ b, x ≠ .c (.str b) := by
  rintro b rfl
  have hV : ∀ k, appV ty k H s (.c (.str b)) K → False := fun k h => by
   unfold appV at h
   split at h
   ·exact h.1.elim
   ·exact h.elim
  unfold appT at h2
  split at h2
  ·split at h2
   ·exact hV _ h2
   ·exact hV _ h2
   ·exact h2.elim
  ·exact h2.elim
 cases x with
 | c a => cases a with
  | str b => exact (hno b rfl).elim
  | _ => exact ⟨h1, h2⟩
 | _ => exact ⟨h1, h2⟩
def wstV (e : TyE) (ck : List CK) (o : Nat) (v : RV) (K : Prop) : Prop :=
 ((cellsR v).length = e.sz ∧ 0 < e.sz ∧ kN e.k ∧ o + e.sz ≤ ck.length ∧ ckE ((ck.drop o).take e.sz) (cellsR v)) ∧ K
def stoT (e : TyE) (H : List Root) (p v : RV) (K : List Root → Prop) : Prop :=
 match p with
 | .c (.wp _ ck o) => wstV e ck o v (K H)
 | _ => storeV e H p v K
def eff [Pan] (pu : Pu) (tm : Tm) (rd : Operand → Bool × RV) (H : List Root) (o : Oper) (K : AS → Prop) : Prop :=
 match o.op with
 | .box t x => ((cellsR (rd x).2).length = (ty t).sz ∧ 0 < (ty t).sz ∧ njL (cellsR (rd x).2) = true) ∧ K ⟨putT tm true o.dst (.c (.ptr H.length 1 0 0)), H ++ [.live false t (ty t).sz (.box (cellsR (rd x).2))]⟩
 | .alloc t => (0 < (ty t).sz ∧ kN (ty t).k) ∧ K ⟨putT tm true o.dst (.c (.ptr H.length 1 0 0)), H ++ [.live false t (ty t).sz (.box (ty t).zero)]⟩
 | .store t p v => isW pu ∧ stoT (ty t) H (rd p).2 (rd v).2 (fun H => K ⟨putT tm true o.dst (.c .junk), H⟩)
 | .buildSlice t n ps => match (ty t).k with
  | .sl e => match (ty e).wk with
   | none => litV ty e H n (buildV (fun i => (i * (ty e).sz, (ty e).sz)) rd (rep (ty e).zero n) ps.toList) (fun r H => K ⟨putT tm true o.dst r, H⟩)
   | some [] => litO ty e H n (buildV (fun i => (i * (ty e).sz, (ty e).sz)) rd (rep (ty e).zero n) ps.toList) (fun r H => K ⟨putT tm true o.dst r, H⟩)
   | some (c :: cs) => litW ty e (c :: cs) n (buildV (fun i => (i * (ty e).sz, (ty e).sz)) rd (rep (ty e).zero n) ps.toList) (fun r => K ⟨putT tm true o.dst r, H⟩)
  | _ => False
 | .makeSlice t n c => makeV ty (ty t).k H (rd n).2 (rd c).2 (fun r H => K ⟨putT tm true o.dst r, H⟩)
 | .call c => match c.callee with
  | .builtin .append => match c.args.toList with
   | [s, x] => isW pu ∧ apK ty (strOf (rd x).2) c.argTypes.toList (c.argTypes.getD 0 0) (c.argTypes.getD 1 0) H (rd s).2 (rd x).2 (fun r H => K ⟨putT tm true o.dst r, H⟩)
   | _ => False
  | .value f => match (rd f).2 with
   | .fn f caps => callK P pu f (rds rd c.args.toList ++ caps.map .c) H (fun r H => K ⟨putT tm true o.dst r, H⟩)
   | _ => False
  | _ => False
 | .field t x f => fldK (fldV P t f (rd x).2) (fun r => K ⟨putT tm true o.dst r, H⟩)
 | _ => False
def nthO : List Oper → Nat → Option Oper
 | [], _ => none
 | o :: _, 0 => some o
 | _ :: l, n + 1 => nthO l n
def guardOf (tm : Tm) (ops : Array Oper) : Option (Nat × Bool) → Option Bool
 | none => some true
 | some (j, want) => match nthO ops.toList j with
  | some o => match o.dst with
   | some d => match lk tm d with
    | (g, .c (.bool b)) => some (g && (if want then b else !b))
    | _ => none
   | none => none
  | none => none
def vldW (H : List Root) (k : Nat) : Prop :=
 match rootAt H k with
 | .live fz _ _ r => fz = false ∧ r.len = 1
 | .dead => False
def stb (dd : Option Nat) (A : Nat → Prop) : Prop :=
 match dd with
 | none => True
 | some k => A k
def awpV (g : Option Bool) (dd : Option Nat) (σ : AS) (o : Oper) (K : AS → Prop) : Prop :=
 match g with
 | none => False
 | some g => gOk g (opGs σ.rd o.op) ∧ stb dd (fun k => vldW σ.H k ∧ (g = true → (opV ty g σ.rd (setRoot σ.H k .dead) o.op).1)) ∧ (g = true → (opV ty g σ.rd σ.H o.op).1) ∧ K ⟨putT σ.tm g o.dst (opV ty g σ.rd σ.H o.op).2, σ.H⟩
def effG (g : Bool) (A B : Prop) : Prop := (g = true → A) ∧ (g = false → B)
def awpE [Pan] (g : Option Bool) (pu : Pu) (σ : AS) (o : Oper) (K : AS → Prop) : Prop :=
 match g with
 | none => False
 | some g => gOk g (opGs σ.rd o.op) ∧ effG g (eff P ty pu σ.tm σ.rd σ.H o K) (K ⟨putT σ.tm g o.dst (.c .junk), σ.H⟩)
def awpO [Pan] (pu : Pu) (dd : Option Nat) (ops : Array Oper) (σ : AS) (o : Oper) (K : AS → Prop) : Prop :=
 if isV o.op then awpV ty (guardOf σ.tm ops o.guard) dd σ o K
 else stb dd (vldW σ.H) ∧ awpE P ty (guardOf σ.tm ops o.guard) pu σ o K
def awpL [Pan] (nf : Nat) (dd : Option Nat) (ops : Array Oper) : List Oper → (AS → Prop) → AS → Prop
 | [], K, σ => K σ
 | o :: l, K, σ => awpO P ty (puOf nf l.length dd) dd ops σ o (awpL nf dd ops l K)
def pick (ops : Array Oper) : List Nat → List Oper
 | [] => []
 | i :: l => ops.getD i default :: pick ops l
def thenK (n : AS → Prop) (Q : Exit → AS → Prop) : Exit → AS → Prop
 | .normal, σ => n σ
 | e, σ => Q e σ
def inB (id : Nat) (Q : Exit → AS → Prop) : Exit → AS → Prop
 | .exit j, σ => if j = id then Q .normal σ else Q (.exit j) σ
 | e, σ => Q e σ
def condK (v : Bool × RV) (A B : Prop) : Prop :=
 match v with
 | (true, .c (.bool b)) => (b = true → A) ∧ (b = false → B)
 | _ => False
def asg : Code → List Nat
 | .region _ ops _ => ops.toList.filterMap (·.dst)
 | .seq a b => asg a ++ asg b
 | .cond _ a b => asg a ++ asg b
 | .block _ a => asg a
 | .loop a => asg a
 | .scope a => asg a
 | .rangeFunc _ _ a b => asg a ++ asg b
 | _ => []
def noAsg (c : Code) (fx : List Nat) : Bool := fx.all fun t => !(asg c).contains t
def gets (tm : Tm) : List Nat → List (Bool × RV)
 | [] => []
 | t :: l => lk tm t :: gets tm l
def tvals : List RV → List (Bool × RV)
 | [] => []
 | v :: l => (true, v) :: tvals l
def setT : List Nat → List RV → Tm → Tm
 | t :: l, v :: vs, tm => (t, true, v) :: setT l vs tm
 | _, _, tm => tm
def fxT (tm : Tm) : List Nat → Tm
 | [] => []
 | t :: l => (t, lk tm t) :: fxT tm l
def AV.scp (k : Nat) : AV → Bool
 | .ptr id .. => decide (id < k)
 | .h id .. => decide (id < k)
 | _ => true
def scpL (k : Nat) : List AV → Bool
 | [] => true
 | a :: l => a.scp k && scpL k l
mutual
def scpR (k : Nat) : RV → Bool
 | .c a => a.scp k
 | .agg l => scpL k l
 | .fn _ l => scpL k l
 | .tup l => scpRL k l
 | .ifc _ x => scpR k x
def scpRL (k : Nat) : List RV → Bool
 | [] => true
 | a :: l => scpR k a && scpRL k l
end
def scpLL (k : Nat) : List (List AV) → Bool
 | [] => true
 | l :: m => scpL k l && scpLL k m
def scpH (k : Nat) : List Root → Bool
 | [] => true
 | .live _ _ _ (.box l) :: H => scpL k l && scpH k H
 | .live _ _ _ (.own l) :: H => scpLL k l && scpH k H
 | _ :: H => scpH k H
def pos : List Nat → Nat → Nat → Option Nat
 | [], _, _ => none
 | a :: l, id, k => if a = id then some k else pos l id (k + 1)
def renI (n : Nat) (ids : List Nat) (id : Nat) : Option Nat := if id < n then some id else pos ids id n
def mkPtr (m i o : Nat) : Option Nat → AV
 | some j => .ptr j m i o
 | none => .junk
def mkH (st len : Nat) : Option Nat → AV
 | some j => .h j st len
 | none => .junk
def renA (n : Nat) (ids : List Nat) : AV → AV
 | .ptr id m i o => mkPtr m i o (renI n ids id)
 | .h id st len => mkH st len (renI n ids id)
 | x => x
def renL (n : Nat) (ids : List Nat) : List AV → List AV
 | [] => []
 | x :: l => renA n ids x :: renL n ids l
mutual
def renR (n : Nat) (ids : List Nat) : RV → RV
 | .c a => .c (renA n ids a)
 | .agg l => .agg (renL n ids l)
 | .fn f l => .fn f (renL n ids l)
 | .tup l => .tup (renRL n ids l)
 | .ifc t x => .ifc t (renR n ids x)
def renRL (n : Nat) (ids : List Nat) : List RV → List RV
 | [] => []
 | x :: l => renR n ids x :: renRL n ids l
end
def renLL (n : Nat) (ids : List Nat) : List (List AV) → List (List AV)
 | [] => []
 | l :: m => renL n ids l :: renLL n ids m
def renRow (n : Nat) (ids : List Nat) : Row → Row
 | .box l => .box (renL n ids l)
 | .own l => .own (renLL n ids l)
 | r => r
def renRoot (n : Nat) (ids : List Nat) : Root → Root
 | .live fz t sz r => .live fz t sz (renRow n ids r)
 | .dead => .dead
def renRs (n : Nat) (ids : List Nat) : List Root → List Root
 | [] => []
 | r :: l => renRoot n ids r :: renRs n ids l
def pickR (n : Nat) (ids : List Nat) (H : List Root) : List Nat → List Root
 | [] => []
 | i :: l => renRoot n ids (rootAt H i) :: pickR n ids H l
def renH (n : Nat) (ids : List Nat) (H : List Root) : List Root := renRs n ids (H.take n) ++ pickR n ids H ids
def renT (n : Nat) (ids : List Nat) : Tm → Tm
 | [] => []
 | (k, g, v) :: l => (k, g, renR n ids v) :: renT n ids l
def renG (n : Nat) (ids : List Nat) : List (Bool × RV) → List (Bool × RV)
 | [] => []
 | (g, v) :: l => (g, renR n ids v) :: renG n ids l
def okI (n : Nat) : List Nat → Bool
 | [] => true
 | i :: l => decide (n ≤ i) && !l.contains i && okI n l
def loopK (body : (Exit → AS → Prop) → AS → Prop) (c : Code) (Q : Exit → AS → Prop) (σ : AS) : Prop :=
 ∃ (ι : Type) (fx vy : List Nat) (inv : ι → Prop) (vals : ι → List RV) (H : ι → List Root) (μ : ι → Nat),
  noAsg c fx = true ∧ (∃ s, inv s ∧ gets σ.tm vy = tvals (vals s) ∧ σ.H = H s) ∧ (∀ s, inv s → (H s).length = σ.H.length ∧ scpRL σ.H.length (vals s) = true ∧ scpH σ.H.length (H s) = true ∧ (vals s).length = vy.length) ∧
  ∀ s, inv s → body (thenK (fun σ' => ∃ s', inv s' ∧ gets σ'.tm vy = tvals (vals s') ∧ σ'.H.take σ.H.length = H s' ∧ μ s' < μ s) Q) ⟨setT vy (vals s) (fxT σ.tm fx), H s⟩
def loopK2 (body : (Exit → AS → Prop) → AS → Prop) (c : Code) (Q : Exit → AS → Prop) (σ : AS) : Prop :=
 ∃ (ι : Type) (d : Nat) (fx vy : List Nat) (inv : ι → Prop) (vals : ι → List RV) (H : ι → List Root) (μ : ι → Nat),
  noAsg c fx = true ∧ (∃ s, inv s ∧ gets σ.tm vy = tvals (vals s) ∧ σ.H ++ List.replicate d .dead = H s) ∧ (∀ s, inv s → (H s).length = σ.H.length + d) ∧
  ∀ s, inv s → body (thenK (fun σ' => ∃ s' ids, inv s' ∧ (ids.length = d ∧ okI σ.H.length ids = true) ∧ renG σ.H.length ids (gets σ'.tm vy) = tvals (vals s') ∧ renH σ.H.length ids σ'.H = H s' ∧ μ s' < μ s) Q) ⟨setT vy (vals s) (fxT σ.tm fx), H s⟩
def awpR [Pan] (ops : Array Oper) (q : List Nat × Nat × Option Nat) (K : AS → Prop) (σ : AS) : Prop :=
 match q with
 | ([], nf, dd) => awpL P ty nf dd ops ops.toList K σ
 | (l, nf, dd) => awpL P ty nf dd ops (pick ops l) K σ
def roundsK (body : (Exit → AS → Prop) → AS → Prop) : List Unit → (Exit → AS → Prop) → AS → Prop
 | [], _, _ => False
 | _ :: l, Q, σ => body (thenK (roundsK body l Q) Q) σ
def awp [Pan] (ord : Nat → List Nat × Nat × Option Nat) : Code → (Exit → AS → Prop) → AS → Prop
 | .skip, Q, σ => Q .normal σ
 | .region id ops dr, Q, σ => if dr then awpR P ty ops (ord id) (Q .normal) σ else awpL P ty ops.toList.length none ops ops.toList (Q .normal) σ
 | .seq a b, Q, σ => awp ord a (thenK (awp ord b Q) Q) σ
 | .cond c a b, Q, σ => condK (σ.rd c) (awp ord a Q σ) (awp ord b Q σ)
 | .block id a, Q, σ => awp ord a (inB id Q) σ
 | .exit id, Q, σ => Q (.exit id) σ
 | .ret, Q, σ => Q .ret σ
 | .loop c, Q, σ => loopK (awp ord c) c Q σ ∨ loopK2 (awp ord c) c Q σ ∨ ∃ l : List Unit, roundsK (awp ord c) l Q σ
 | _, _, _ => False
def planO (ops : Array Oper) (nf : Nat) : List Nat → List (List Nat × Nat × Bool)
 | [] => []
 | i :: l => match isV (ops.getD i default).op && decide (nf ≤ l.length), planO ops nf l with
  | true, (q, j, false) :: r => (i :: q, j, false) :: r
  | _, r => ([], i, decide (l.length < nf)) :: r
end
section heap
theorem rootAt_app (H : List Root) (x : Root) (id : Nat) : rootAt (H ++ [x]) id = if id = H.length then x else rootAt H id := by
 induction H generalizing id with
 | nil => cases id <;> simp [rootAt]
 | cons a l ih => cases id with
  | zero => simp [rootAt]
  | succ n => simp only [List.cons_append, rootAt, ih, List.length_cons]; simp
theorem rootAt_big {H : List Root} {id : Nat} (h : H.length ≤ id) : rootAt H id = .dead := by
 induction H generalizing id with
 | nil => rfl
 | cons a l ih => cases id with
  | zero => simp at h
  | succ n => exact ih (by simpa using h)
theorem rootAt_lt {H : List Root} {id : Nat} {fz : Bool} {ty : TypeId} {sz : Nat} {r : Row} (h : rootAt H id = .live fz ty sz r) : id < H.length := by
 rcases Nat.lt_or_ge id H.length with h1 | h1
 ·exact h1
 ·rw [rootAt_big h1] at h; cases h
theorem setRoot_len (H : List Root) (id : Nat) (x : Root) : (setRoot H id x).length = H.length := by
 induction H generalizing id with
 | nil => rfl
 | cons a l ih => cases id <;> simp [setRoot, ih]
theorem rootAt_set (H : List Root) (id : Nat) (x : Root) (j : Nat) : rootAt (setRoot H id x) j = if j = id ∧ id < H.length then x else rootAt H j := by
 induction H generalizing id j with
 | nil => simp [setRoot, rootAt]
 | cons a l ih => cases id <;> cases j <;> simp [setRoot, rootAt, ih]
theorem rootAt_take (H : List Root) (k id : Nat) : rootAt (H.take k) id = if id < k then rootAt H id else .dead := by
 induction H generalizing k id with
 | nil => simp [rootAt]
 | cons a l ih => cases k <;> cases id <;> simp [rootAt, ih]
end heap
theorem Con0.keep {rho rho' : Nat → Prop} {w w' : World} (hb : ∀ b, rho b → w'.heap[b]? = w.heap[b]?) (hr : ∀ b, rho b → rho' b) : ∀ {a : AV} {v : Value}, Con0 rho w a v → Con0 rho' w' a v
 | .int .., _, h => h
 | .bool _, _, h => h
 | .flt _, _, h => h
 | .str _, _, h => h
 | .nilp, _, h => h
 | .nils, _, h => h
 | .junk, _, _ => trivial
 | .ws .., _, h => h.elim
 | .wu .., _, h => h.elim
 | .wp .., _, h => h.elim
 | .sl n sz f, v, ⟨a, b, off, c, h1, h2, h3, h4, h5⟩ => ⟨a, b, off, c, h1, h2, h3, fun hn => ⟨(h4 hn).1, hr _ (h4 hn).2⟩, fun i hi j hj => by
   obtain ⟨u, hu, hc⟩ := h5 i hi j hj
   refine ⟨u, ?_, Con0.keep hb hr hc⟩
   rw [← hu]
   exact World.cell?_of_block (hb _ (h4 (by omega)).2)⟩
 | .rp n f, v, ⟨b, off, h1, h2, h3⟩ => ⟨b, off, h1, hr _ h2, fun j hj => by
   obtain ⟨u, hu, hc⟩ := h3 j hj
   refine ⟨u, ?_, Con0.keep hb hr hc⟩
   rw [← hu]
   exact World.cell?_of_block (hb _ h2)⟩
def TKeep (M : Mp) (w : World) (M' : Mp) (w' : World) : Prop :=
 (∀ b q, M.tau b = some q → M'.tau b = some q) ∧ ∀ b t ck cur, M.tau b = some (t, ck) → w.heap[b]? = some (.cells cur t (0, 0)) → ∃ cur', w'.heap[b]? = some (.cells cur' t (0, 0)) ∧ cur'.size = cur.size
theorem TKeep.of {M M' : Mp} {w w' : World} (h : M'.tau = M.tau) (hb : ∀ b q, M.tau b = some q → w'.heap[b]? = w.heap[b]?) : TKeep M w M' w' :=
 ⟨fun b q hq => by rw [h]; exact hq, fun b t ck cur hq hc => ⟨cur, by rw [hb _ _ hq]; exact hc, rfl⟩⟩
theorem WSl.keep {M M' : Mp} {w w' : World} (k : TKeep M w M' w') {t : TypeId} {ck : List CK} {n : Nat} {v : Value} (h : WSl M w t ck n v) : WSl M' w' t ck n v := by
 obtain ⟨a, c, h1, h2, h3, h4, h5⟩ := h
 refine ⟨a, c, h1, h2, h3, h4, fun ad e => ?_⟩
 obtain ⟨b, cur, e1, e2, e3, e4⟩ := h5 ad e
 obtain ⟨cur', k1, k2⟩ := k.2 b t ck cur e2 e3
 exact ⟨b, cur', e1, k.1 _ _ e2, k1, by omega⟩
theorem WPt.keep {M M' : Mp} {w w' : World} (k : TKeep M w M' w') {t : TypeId} {ck : List CK} {o : Nat} {v : Value} (h : WPt M w t ck o v) : WPt M' w' t ck o v := by
 obtain ⟨b, cur, i, e1, e2, e3, e4⟩ := h
 obtain ⟨cur', k1, k2⟩ := k.2 b t ck cur e2 e3
 exact ⟨b, cur', i, e1, k.1 _ _ e2, k1, by omega⟩
theorem CkOk.keep {M M' : Mp} {w w' : World} (k : TKeep M w M' w') {q : CK} {v : Value} (h : CkOk M w q v) : CkOk M' w' q v := by
 cases q with
 | i kk => exact h
 | s t ck b => obtain ⟨n, hb, h⟩ := h; exact ⟨n, hb, h.keep k⟩
theorem TauOk.lt {E0 : Nat} {M : Mp} {H : List Root} {w : World} (h : TauOk E0 M H w) {b : Nat} {q : TypeId × List CK} (hq : M.tau b = some q) : b < w.heap.size := by
 obtain ⟨t, ck⟩ := q
 obtain ⟨cur, h1, -⟩ := h.cells b t ck hq
 exact (Array.getElem?_eq_some_iff.1 h1).1
theorem TauOk.keep {E0 : Nat} {M M' : Mp} {H H' : List Root} {w w' : World} (h : TauOk E0 M H w) (ht : M'.tau = M.tau) (hb : ∀ b q, M.tau b = some q → w'.heap[b]? = w.heap[b]?) (hr : ∀ b q, M.tau b = some q → ¬ M'.rho b)
  (hp : ∀ b q id fz ty sz r, M.tau b = some q → rootAt H' id = .live fz ty sz r → M'.phi id ≠ b) : TauOk E0 M' H' w' := by
 have k := TKeep.of (w := w) (w' := w') ht hb
 refine ⟨fun b q hq => ?_, fun b q id fz ty sz r hq hl => ?_, fun b t ck hq => ?_⟩
 ·rw [ht] at hq; exact ⟨(h.new b q hq).1, hr b q hq⟩
 ·rw [ht] at hq; exact hp b q id fz ty sz r hq hl
 ·rw [ht] at hq
  obtain ⟨cur, h1, h2, h3, h4⟩ := h.cells b t ck hq
  refine ⟨cur, by rw [hb b _ hq]; exact h1, h2, h3, fun i hi => ?_⟩
  obtain ⟨v, g1, g2⟩ := h4 i hi
  exact ⟨v, g1, fun q hq => (g2 q hq).keep k⟩
theorem Con.of0 {M : Mp} {H : List Root} {w : World} {a : AV} {v : Value} (h : Con0 M.rho w a v) : Con M H w a v := by
 cases a <;> first | exact h | exact h.elim | trivial
theorem Con.to0 {M : Mp} {H : List Root} {w : World} {a : AV} {v : Value} (hf : a.fr = true) (h : Con M H w a v) : Con0 M.rho w a v := by
 cases a <;> first | exact h | (simp [AV.fr] at hf)
section
variable {M : Mp} {H : List Root} {w : World}
theorem ConL.of_getElem : ∀ {l : List AV} {vs : List Value}, vs.length = l.length → (∀ i v, vs[i]? = some v → Con M H w (nth l i) v) → ConL M H w l vs
 | [], [], _, _ => rfl
 | a :: l, v :: vs, hl, h => ⟨v, vs, rfl, h 0 v rfl, ConL.of_getElem (by simpa using hl) fun i u hu => h (i + 1) u (by simpa using hu)⟩
 | [], _ :: _, h, _ => by simp at h
 | _ :: _, [], h, _ => by simp at h
theorem ConL.len : ∀ {l : List AV} {vs : List Value}, ConL M H w l vs → vs.length = l.length
 | [], _, h => by cases h; rfl
 | a :: l, _, ⟨v, r, h, _, h2⟩ => by subst h; simp [ConL.len h2]
theorem ConL.get : ∀ {l : List AV} {vs : List Value}, ConL M H w l vs → ∀ i v, vs[i]? = some v → Con M H w (nth l i) v
 | [], _, h, i, v, hv => by cases h; simp at hv
 | a :: l, _, ⟨v, r, h, h1, h2⟩, 0, u, hu => by subst h; cases hu; exact h1
 | a :: l, _, ⟨v, r, h, h1, h2⟩, i + 1, u, hu => by subst h; exact ConL.get h2 i u (by simpa using hu)
theorem tab_len (f : Nat → AV) : ∀ n k, (tab f k n).length = n
 | 0, _ => rfl
 | n + 1, k => by simp [tab, tab_len f n]
theorem tab_nth (f : Nat → AV) : ∀ n k i, i < n → nth (tab f k n) i = f (k + i)
 | n + 1, k, 0, _ => rfl
 | n + 1, k, i + 1, h => by simp only [tab, nth]; rw [tab_nth f n (k + 1) i (by omega)]; congr 1; omega
theorem setN_len : ∀ (l : List AV) (i : Nat) (a : AV), (setN l i a).length = l.length
 | [], _, _ => rfl
 | _ :: _, 0, _ => rfl
 | _ :: l, i + 1, a => by simp [setN, setN_len l i a]
theorem setN_nth : ∀ (l : List AV) (i : Nat) (a : AV) (j : Nat), nth (setN l i a) j = if j = i ∧ i < l.length then a else nth l j
 | [], i, a, j => by simp [setN, nth]
 | b :: l, 0, a, 0 => by simp [setN, nth]
 | b :: l, 0, a, j + 1 => by simp [setN, nth]
 | b :: l, i + 1, a, 0 => by simp [setN, nth]
 | b :: l, i + 1, a, j + 1 => by simp [setN, nth, setN_nth l i a j]
theorem pat_len : ∀ (cs l : List AV) (o : Nat), (pat l o cs).length = l.length
 | [], _, _ => rfl
 | a :: cs, l, o => by simp [pat, pat_len cs, setN_len]
theorem pat_nth : ∀ (cs l : List AV) (o j : Nat), o + cs.length ≤ l.length → nth (pat l o cs) j = if o ≤ j ∧ j < o + cs.length then nth cs (j - o) else nth l j
 | [], l, o, j, _ => by simp only [pat, List.length_nil, Nat.add_zero]; rw [if_neg (by omega)]
 | a :: cs, l, o, j, h => by
  simp only [List.length_cons] at h
  simp only [pat, List.length_cons]
  rw [pat_nth cs _ _ _ (by rw [setN_len]; omega), setN_nth]
  by_cases h1 : j = o
  ·subst h1
   rw [if_neg (by omega), if_pos ⟨rfl, by omega⟩, if_pos (by omega), Nat.sub_self]; rfl
  ·by_cases h2 : o + 1 ≤ j ∧ j < o + 1 + cs.length
   ·rw [if_pos h2, if_pos (by omega), show j - o = (j - (o + 1)) + 1 by omega]; rfl
   ·rw [if_neg h2, if_neg (fun h => h1 h.1), if_neg (by omega)]
theorem nth_append : ∀ (l m : List AV) (i : Nat), nth (l ++ m) i = if i < l.length then nth l i else nth m (i - l.length)
 | [], m, i => by simp
 | a :: l, m, 0 => by simp [nth]
 | a :: l, m, i + 1 => by simp [nth, nth_append l m i]
end
def Seen (M : Mp) (H : List Root) (b : Nat) : Prop := M.rho b ∨ (∃ id fz ty sz r, rootAt H id = .live fz ty sz r ∧ b = M.phi id) ∨ ∃ q, M.tau b = some q
def Same (M : Mp) (H : List Root) (w w' : World) : Prop := ∀ b, Seen M H b → w'.heap[b]? = w.heap[b]?
def zvB : AV → Value → Bool
 | .int k n, .int k' n' => decide (k = k') && decide (n = n')
 | .bool b, .bool b' => b == b'
 | .flt n, .float .f64 n' => decide (n = n')
 | .str s, .string s' => decide (s.data.toList = s'.data.toList)
 | .nilp, .pointer none => true
 | .nils, .slice none 0 0 => true
 | _, _ => false
def zvL : List AV → List Value → Bool
 | [], [] => true
 | a :: l, v :: vs => zvB a v && zvL l vs
 | _, _ => false
theorem zvB_con {rho : Nat → Prop} {w : World} {a : AV} {v : Value} (h : zvB a v = true) : Con0 rho w a v := by
 cases a <;> cases v <;> simp [zvB] at h <;> try exact h.elim
 case int.int => obtain ⟨rfl, rfl⟩ := h; rfl
 case bool.bool => subst h; rfl
 case flt.float k _ => cases k <;> simp [zvB] at h; subst h; rfl
 case str.string s t =>
  obtain ⟨⟨s⟩⟩ := s; obtain ⟨⟨t⟩⟩ := t
  simp at h; subst h; rfl
 case nilp.pointer p => cases p <;> simp [zvB] at h; rfl
 case nils.slice a l c =>
  cases a with
  | some a => simp [zvB] at h
  | none =>
   cases l with
   | succ _ => simp [zvB] at h
   | zero => cases c with
    | succ _ => simp [zvB] at h
    | zero => rfl
theorem zvB_one {a : AV} {v : Value} (h : zvB a v = true) : v.oneCell' = true := by
 cases a <;> cases v <;> first | rfl | simp [zvB] at h
theorem zvL_len : ∀ {l : List AV} {vs : List Value}, zvL l vs = true → vs.length = l.length
 | [], [], _ => rfl
 | _ :: _, _ :: _, h => by simp [zvL] at h; simp [zvL_len h.2]
 | [], _ :: _, h => by simp [zvL] at h
 | _ :: _, [], h => by simp [zvL] at h
theorem zvL_get : ∀ {l : List AV} {vs : List Value}, zvL l vs = true → ∀ i v, vs[i]? = some v → zvB (nth l i) v = true
 | [], [], _, i, v, hv => by simp at hv
 | _ :: _, _ :: _, h, 0, v, hv => by simp [zvL] at h; cases hv; exact h.1
 | _ :: _, _ :: _, h, i + 1, v, hv => by simp [zvL] at h; exact zvL_get h.2 i v (by simpa using hv)
 | [], _ :: _, h, _, _, _ => by simp [zvL] at h
 | _ :: _, [], h, _, _, _ => by simp [zvL] at h
def kOk (P : Program) (ty : Ty) (t : TypeId) : TyK → Prop
 | .i k => P.underlying t = some (.int k)
 | .b => P.underlying t = some .bool
 | .str => P.underlying t = some .string
 | .sc => ∃ d, P.underlying t = some d ∧ (match d with | .struct _ | .array _ _ => False | _ => True)
 | .st fs => ∃ fields, P.underlying t = some (.struct fields) ∧ fields.toList.map (fun f => (f.offset, P.cellsOf f.type)) = fs ∧ ∀ f ∈ fields.toList, (P.info? f.type).isSome = true
 | .ar n esz => ∃ e, P.underlying t = some (.array n e) ∧ P.cellsOf e = esz ∧ (P.info? e).isSome = true
 | .sl e => P.underlying t = some (.slice e) ∧ (match (ty e).k with | .no => False | _ => True)
 | .no => True
structure TyOk1 (P : Program) (ty : Ty) (t : TypeId) : Prop where
 k : kOk P ty t (ty t).k
 i : (match (ty t).k with | .no => True | _ => ∃ i z, P.info? t = some i ∧ i.size = (ty t).sz ∧ i.bytes = (ty t).bytes ∧ i.zero = some z ∧ zvL (ty t).zero z.cells.toList = true ∧ z.cells.size = (ty t).sz)
def TyOk (P : Program) (ty : Ty) : Prop := ∀ t, TyOk1 P ty t
theorem TyOk.info {P : Program} {ty : Ty} (h : TyOk P ty) {t : TypeId} (hk : (match (ty t).k with | .no => False | _ => True)) : ∃ i z, P.info? t = some i ∧ i.size = (ty t).sz ∧ i.bytes = (ty t).bytes ∧ i.zero = some z ∧ zvL (ty t).zero z.cells.toList = true ∧ z.cells.size = (ty t).sz := by
 have := (h t).i
 cases hh : (ty t).k <;> simp only [hh] at this hk <;> first | exact this | exact hk.elim
structure St (E : Env) (nt : Nat) (M : Mp) (σ : AS) (a : Act) (w : World) : Prop where
 rel : Rel E M σ.H w
 tms : ∀ t, (lk σ.tm t).1 = true → ConR M σ.H w (lk σ.tm t).2 (a.tmps.getD t undef)
 off : ∀ t, (lk σ.tm t).1 = false → a.tmps.getD t undef = undef
 sz : a.tmps.size = nt
 df : a.defers = E.df
section val
variable {P : Program} {ty : Ty} {E : Env} {nt : Nat} {M : Mp} {σ : AS} {a : Act} {w : World}
theorem ofConst_ok (v : Value) : ConR M σ.H w (ofConst v) v := by
 unfold ofConst
 split <;> first | (simp only [ConR]; first | rfl | trivial)
theorem St.rd (h : St E nt M σ a w) {x : Operand} (hg : (σ.rd x).1 = true) : ConR M σ.H w (σ.rd x).2 (a.eval x) := by
 cases x with
 | tmp t => exact h.tms t hg
 | const v => exact ofConst_ok v
 | global g => trivial
 | func f => exact ⟨[], rfl, rfl⟩
theorem con_int {k : IntKind} {n : Int} {v : Value} (h : ConR M σ.H w (.c (.int k n)) v) : v = .int k n := h
theorem con_bool {b : Bool} {v : Value} (h : ConR M σ.H w (.c (.bool b)) v) : v = .bool b := h
theorem wrap_of {k : IntKind} {n : Int} (h : inK k n) : k.wrap n = n := by
 cases k <;> simp only [inK] at h <;> simp only [IntKind.wrap, IntKind.signed, IntKind.bits, Int.reducePow, Nat.reduceSub, Bool.true_and, Bool.false_and, decide_eq_true_eq, Bool.false_eq_true, if_false]
 all_goals (try split)
 all_goals (try simp only [ge_iff_le, decide_eq_true_eq] at *)
 all_goals omega
theorem run_eqG_int (op : BinOp) (t : TypeId) (x y : Operand) (k k' : IntKind) (m n : Int) (w : World) : (eqGuard op t x y (.int k m) (.int k' n)).run P w = .ok () w := by
 cases op <;> rfl
theorem run_eqG_bool (op : BinOp) (t : TypeId) (x y : Operand) (m n : Bool) (w : World) : (eqGuard op t x y (.bool m) (.bool n)).run P w = .ok () w := by
 cases op <;> rfl
theorem int_ok (op : BinOp) (t : TypeId) (k : IntKind) (m n : Int) (h : (intV op k m n).1) : ∃ v, ConR M σ.H w (intV op k m n).2 v ∧ ∀ w', (binOp op t (.int k m) (.int k n)).run P w' = .ok v w' := by
 cases op <;> simp only [intV, cmpV, no] at h ⊢ <;> try exact h.elim
 case add => exact ⟨_, rfl, fun w' => by simp [binOp, Op.intArith, wrap_of h]⟩
 case sub => exact ⟨_, rfl, fun w' => by simp [binOp, Op.intArith, wrap_of h]⟩
 case mul => exact ⟨_, rfl, fun w' => by simp [binOp, Op.intArith, wrap_of h]⟩
 case quo => exact ⟨_, rfl, fun w' => by simp [binOp, Op.intDiv, wrap_of h.2, h.1]⟩
 case rem => exact ⟨_, rfl, fun w' => by simp [binOp, Op.intDiv, h]⟩
 case eql => exact ⟨_, rfl, fun w' => by simp [binOp, Op.intCmp]; rfl⟩
 case neq => exact ⟨_, rfl, fun w' => by simp [binOp, Op.intCmp]; rfl⟩
 case lss => exact ⟨_, rfl, fun w' => by simp [binOp, Op.intCmp]⟩
 case leq => exact ⟨_, rfl, fun w' => by simp [binOp, Op.intCmp]⟩
 case gtr => exact ⟨_, rfl, fun w' => by simp [binOp, Op.intCmp]⟩
 case geq => exact ⟨_, rfl, fun w' => by simp [binOp, Op.intCmp]⟩
theorem con_str {s : ByteArray} {v : Value} (h : ConR M σ.H w (.c (.str s)) v) : v = .string s := h
theorem run_eqG_str (op : BinOp) (t : TypeId) (x y : Operand) (m n : ByteArray) (w : World) : (eqGuard op t x y (.string m) (.string n)).run P w = .ok () w := by
 cases op <;> simp [eqGuard]
theorem str_ok (op : BinOp) (t : TypeId) {m n : ByteArray} (h : (strV op m n).1) : ∃ r, ConR M σ.H w (strV op m n).2 r ∧ ∀ w', (binOp op t (.string m) (.string n)).run P w' = .ok r w' := by
 have e : ∀ o, (o = .add ∨ o = .eql ∨ o = .neq) → ∀ w', (binOp o t (.string m) (.string n)).run P w' = (Op.stringOp o m n).run P w' := by
  rintro o (rfl | rfl | rfl) w' <;> rfl
 have q : (m.toList == n.toList) = eqS m n := by rw [ByteArray.toList_eq, ByteArray.toList_eq]; unfold eqS; rw [Bool.eq_iff_iff, beq_iff_eq, decide_eq_true_eq]
 unfold strV at h ⊢
 split at h
 ·exact ⟨_, rfl, fun w' => by rw [e _ (.inl rfl)]; exact run_string_add_sum w' m n h⟩
 ·exact ⟨_, rfl, fun w' => by rw [e _ (.inr (.inl rfl))]; simp only [Op.stringOp, q]; rfl⟩
 ·exact ⟨_, rfl, fun w' => by rw [e _ (.inr (.inr rfl))]; simp only [Op.stringOp, q]; rfl⟩
 ·exact h.elim
theorem bin_ok (hT : TyOk P ty) (op : BinOp) (t : TypeId) (x y : Operand) (yt : TypeId) {p q : RV} {u v : Value} (hp : ConR M σ.H w p u) (hq : ConR M σ.H w q v) (h : (binV op (ty t).k p q).1) :
  ∃ r, ConR M σ.H w (binV op (ty t).k p q).2 r ∧ ∀ w', (do eqGuard op t x y u v; binOp op t u v).run P w' = .ok r w' := by
 unfold binV at h ⊢
 split at h
 ·rename_i k m k' n
  obtain ⟨hk, h⟩ := h
  subst hk
  obtain rfl := con_int hp
  obtain rfl := con_int hq
  obtain ⟨r, h1, h2⟩ := int_ok (P := P) (M := M) (σ := σ) (w := w) op t k m n h
  refine ⟨r, h1, fun w' => ?_⟩
  rw [Sem.run_bind, run_eqG_int]
  exact h2 w'
 ·rename_i m n
  obtain rfl := con_bool hp
  obtain rfl := con_bool hq
  split at h
  ·rename_i hk
   have hu : P.underlying t = some .bool := by have := (hT t).k; rw [hk] at this; exact this
   split at h
   ·refine ⟨.bool (m == n), rfl, fun w' => ?_⟩
    rw [Sem.run_bind, run_eqG_bool]
    exact run_eql_bool w' t m n hu
   ·refine ⟨.bool (m != n), rfl, fun w' => ?_⟩
    rw [Sem.run_bind, run_eqG_bool]
    exact run_neq_bool w' t m n hu
   ·exact h.elim
  ·exact h.elim
 ·rename_i m n
  obtain rfl := con_str hp
  obtain rfl := con_str hq
  obtain ⟨r, h1, h2⟩ := str_ok (P := P) (M := M) (σ := σ) (w := w) op t h
  refine ⟨r, h1, fun w' => ?_⟩
  rw [Sem.run_bind, run_eqG_str]
  exact h2 w'
 ·exact h.elim
theorem un_ok (op : UnOp) {p : RV} {u : Value} (hp : ConR M σ.H w p u) (h : (unV op p).1) : ∃ r, ConR M σ.H w (unV op p).2 r ∧ ∀ w', (Op.unary op u).run P w' = .ok r w' := by
 unfold unV at h ⊢
 split at h
 ·rename_i m
  obtain rfl := con_bool hp
  split at h
  ·exact ⟨_, rfl, fun w' => rfl⟩
  ·exact h.elim
 ·rename_i k m
  obtain rfl := con_int hp
  split at h
  ·exact ⟨.int k (-m), rfl, fun w' => by simp [Op.unary, Op.intArith, wrap_of h]⟩
  ·exact h.elim
 ·exact h.elim
theorem kOk_of (hT : TyOk P ty) {t : TypeId} {k : TyK} (hk : (ty t).k = k) : kOk P ty t k := by have := (hT t).k; rw [hk] at this; exact this
theorem conv_ok (hT : TyOk P ty) (s t : TypeId) {p : RV} {u : Value} (hp : ConR M σ.H w p u) (h : (convV (ty s).k (ty t).k p).1) : ∃ r, ConR M σ.H w (convV (ty s).k (ty t).k p).2 r ∧ ∀ w', (convert s t u).run P w' = .ok r w' := by
 unfold convV at h ⊢
 split at h
 ·rename_i k0 n
  obtain rfl := con_int hp
  split at h
  ·rename_i k1 hs
   split at h
   ·rename_i k hk
    have hu : P.underlying t = some (.int k) := kOk_of hT hk
    have hd : P.underlying s = some (.int k1) := kOk_of hT hs
    exact ⟨.int k n, rfl, fun w' => by simp [convert, run_underlying hu, run_underlying hd, Conv.intToInt, wrap_of h]⟩
   ·exact h.elim
  ·exact h.elim
 ·exact h.elim
theorem mm_ok (mx : Bool) {p q : RV} {u v : Value} (hp : ConR M σ.H w p u) (hq : ConR M σ.H w q v) (h : (mmV mx p q).1) (at_ : Array TypeId) (t : TypeId) : ∃ r, ConR M σ.H w (mmV mx p q).2 r ∧ ∀ w', (if mx then Builtin.max_ at_ t #[u, v] else Builtin.min_ at_ t #[u, v]).run P w' = .ok r w' := by
 unfold mmV at h ⊢
 split at h
 ·rename_i k m k' n
  obtain rfl := con_int hp
  obtain rfl := con_int hq
  simp only at h
  subst h
  refine ⟨_, rfl, fun w' => ?_⟩
  cases mx
  ·simp [Builtin.min_, Builtin.min2]; omega
  ·simp [Builtin.max_, Builtin.max2]; omega
 ·exact h.elim
theorem con_h {id st len : Nat} {v : Value} (hv : vld σ.H id st len) (h : ConR M σ.H w (.c (.h id st len)) v) : ∃ fz ty sz r cap cur ad, rootAt σ.H id = .live fz ty sz r ∧ st + len = r.len ∧ v = .slice (some ad) len cap ∧ len ≤ cap ∧ cap ≤ maxLen ∧ w.heap[M.phi id]? = some (.cells cur ty (0, 0)) ∧ M.off id + (st + cap) * sz = cur.size ∧ (0 < cap → ad = ⟨M.phi id, M.off id + st * sz, none⟩) := by
 unfold vld at hv
 split at hv
 ·rename_i fz t sz r hr
  obtain ⟨cap, cur, ad, h1, h2, h3, h4, h5, h6⟩ := (h.2 _ _ _ _ hr).2 hv
  exact ⟨fz, t, sz, r, cap, cur, ad, hr, hv, h1, h2, h3, h4, h5, h6⟩
 ·exact hv.elim
theorem len_ok (hT : TyOk P ty) (t : TypeId) (rt : TypeId) {p : RV} {u : Value} (hp : ConR M σ.H w p u) (h : (lenV (ty t).k σ.H p).1) :
  ∃ r, ConR M σ.H w (lenV (ty t).k σ.H p).2 r ∧ ∀ w', (Builtin.len_ #[t] rt #[u]).run P w' = .ok r w' := by
 unfold lenV at h ⊢
 split at h
 ·rename_i e hk
  have hd : P.underlying t = some (.slice e) := (kOk_of hT hk).1
  split at h
  ·rename_i n sz f
   obtain ⟨a, b, off, c, rfl, -⟩ := hp
   exact ⟨.int .i64 n, rfl, fun w' => by simp [Builtin.len_, run_underlying hd, goInt]⟩
  ·rename_i id st n
   obtain ⟨fz, t', sz, r, cap, cur, ad, h1, h2, rfl, -⟩ := con_h h hp
   exact ⟨.int .i64 n, rfl, fun w' => by simp [Builtin.len_, run_underlying hd, goInt]⟩
  ·have hp' : u = .slice none 0 0 := hp
   subst hp'
   exact ⟨.int .i64 0, rfl, fun w' => by simp [Builtin.len_, run_underlying hd, goInt]⟩
  ·rename_i t' ck n
   obtain ⟨a, c, rfl, -⟩ := hp
   exact ⟨.int .i64 n, rfl, fun w' => by simp [Builtin.len_, run_underlying hd, goInt]⟩
  ·exact h.elim
 ·rename_i hk
  have hd : P.underlying t = some .string := kOk_of hT hk
  split at h
  ·rename_i s
   have hp' : u = .string s := hp
   subst hp'
   exact ⟨.int .i64 s.size, rfl, fun w' => by simp [Builtin.len_, run_underlying hd, goInt]⟩
  ·exact h.elim
 ·exact h.elim
theorem addr_add (b o n : Nat) : (⟨b, o, none⟩ : Addr).add n = ⟨b, o + n, none⟩ := by unfold Addr.add; split <;> simp_all
theorem at2_of {fields : Array Field} {fs : List (Nat × Nat)} {P : Program} (h : fields.toList.map (fun f => (f.offset, P.cellsOf f.type)) = fs) {i : Nat} (hi : (at2 fs i).2 ≠ 0) : ∃ f, fields[i]? = some f ∧ at2 fs i = (f.offset, P.cellsOf f.type) := by
 subst h
 obtain ⟨fields⟩ := fields
 induction fields generalizing i with
 | nil => simp [at2] at hi
 | cons f l ih => cases i with
  | zero => exact ⟨f, rfl, rfl⟩
  | succ n =>
   obtain ⟨g, h1, h2⟩ := ih (i := n) hi
   exact ⟨g, by simpa using h1, h2⟩
theorem mem_get {fields : Array Field} {i : Nat} {f : Field} (h : fields[i]? = some f) : f ∈ fields.toList := by
 obtain ⟨hi, rfl⟩ := Array.getElem?_eq_some_iff.1 h
 exact Array.mem_toList_iff.2 (Array.getElem_mem hi)
theorem run_field {b o i : Nat} {f : Field} {fields : Array Field} (t : TypeId) (hu : P.underlying t = some (.struct fields)) (hf : fields[i]? = some f) (hi : (P.info? f.type).isSome = true) (h0 : P.cellsOf f.type ≠ 0) (w' : World) :
  (Instr.fieldAt t (.pointer (some ⟨b, o, none⟩)) i).run P w' = .ok (.pointer (some ⟨b, o + f.offset, none⟩)) w' := by
 obtain ⟨inf, hinf⟩ := Option.isSome_iff_exists.1 hi
 have h0' : ¬ inf.size = 0 := by simpa [Program.cellsOf, hinf] using h0
 simp [Instr.fieldAt, run_underlying hu, hf, Instr.sureAddr, fieldPlace, sizeOf, typeInfo, hinf, h0', addr_add]
theorem field_ok (hT : TyOk P ty) (t : TypeId) (i : Nat) {p : RV} {u : Value} (hp : ConR M σ.H w p u) (h : (fieldV (ty t).k σ.H p i).1) : ∃ r, ConR M σ.H w (fieldV (ty t).k σ.H p i).2 r ∧ ∀ w', (Instr.fieldAt t u i).run P w' = .ok r w' := by
 unfold fieldV at h ⊢
 split at h
 ·rename_i fs hk
  obtain ⟨fields, hu, hfs, hinf⟩ := kOk_of hT hk
  split at h
  ·rename_i n g
   obtain ⟨h0, hn⟩ := h
   obtain ⟨f, hf, he⟩ := at2_of hfs h0
   obtain ⟨b, off, rfl, hr, hc⟩ := hp
   rw [he] at h0 hn ⊢
   refine ⟨_, ⟨b, off + f.offset, rfl, hr, fun j hj => ?_⟩, fun w' => run_field t hu hf (hinf f (mem_get hf)) h0 w'⟩
   obtain ⟨u, hu, hc⟩ := hc (j + f.offset) (by simp only at hn hj; omega)
   exact ⟨u, by rw [← hu]; congr 2; omega, hc⟩
  ·rename_i id n i' o
   obtain ⟨h0, hv⟩ := h
   obtain ⟨f, hf, he⟩ := at2_of hfs h0
   obtain ⟨hl, hp⟩ := hp
   rw [he] at h0 ⊢
   unfold vldP at hv
   split at hv
   ·rename_i fz ty' sz r hr
    obtain rfl := (hp _ _ _ _ hr).2 hv
    refine ⟨_, ⟨⟨hl.1, rfl⟩, fun fz2 ty2 sz2 r2 hr2 => ⟨(hp _ _ _ _ hr2).1, fun hl2 => ?_⟩⟩, fun w' => run_field t hu hf (hinf f (mem_get hf)) h0 w'⟩
    rw [hr] at hr2
    cases hr2
    simp only [Nat.add_assoc]
   ·exact hv.elim
  ·rename_i t' ck o
   obtain ⟨f, hf, he⟩ := at2_of hfs h
   obtain ⟨b, cur, i', rfl, e2, e3, e4⟩ := hp
   simp only [he] at h ⊢
   exact ⟨_, ⟨b, cur, i', rfl, e2, e3, e4⟩, fun w' => by rw [← Nat.add_assoc]; exact run_field t hu hf (hinf f (mem_get hf)) h w'⟩
  ·exact h.elim
 ·exact h.elim
theorem info_sz (hT : TyOk P ty) {t : TypeId} (hk : (match (ty t).k with | .no => False | _ => True)) (w' : World) : (sizeOf t).run P w' = .ok (ty t).sz w' := by
 obtain ⟨i, z, h1, h2, -⟩ := hT.info hk
 simp [sizeOf, typeInfo, h1, h2]
theorem index_ok (hT : TyOk P ty) (t : TypeId) {p q : RV} {u v : Value} (hp : ConR M σ.H w p u) (hq : ConR M σ.H w q v) (h : (indexV ty (ty t).k σ.H p q).1) : ∃ r, ConR M σ.H w (indexV ty (ty t).k σ.H p q).2 r ∧ ∀ w', (Instr.indexAt t u v).run P w' = .ok r w' := by
 unfold indexV at h ⊢
 split at h
 ·rename_i n sz f k i
  obtain rfl := con_int hq
  split at h
  ·rename_i e hk
   obtain ⟨hu, hke⟩ : P.underlying t = some (.slice e) ∧ _ := kOk_of hT hk
   obtain ⟨⟨h1, h2⟩, rfl⟩ := h
   obtain ⟨a, b, off, c, rfl, h3, h4, h5, h6⟩ := hp
   obtain ⟨rfl, hr⟩ := h5 (by omega)
   refine ⟨.pointer (some ⟨b, off + i.toNat * (ty e).sz, none⟩), ⟨b, off + i.toNat * (ty e).sz, rfl, hr, fun j hj => h6 i.toNat (by omega) j hj⟩, fun w' => ?_⟩
   simp [Instr.indexAt, run_underlying hu, asIntOf, h1, h2, info_sz hT hke, addr_add]
  ·exact h.elim
 ·rename_i id st n k i
  obtain rfl := con_int hq
  split at h
  ·rename_i e hk
   obtain ⟨hu, hke⟩ : P.underlying t = some (.slice e) ∧ _ := kOk_of hT hk
   split at h
   ·rename_i fz ty' sz r hr
    obtain ⟨⟨h1, h2⟩, h3, rfl⟩ := h
    obtain ⟨cap, cur, ad, rfl, h4, -, -, -, h5⟩ := (hp.2 _ _ _ _ hr).2 h3
    obtain rfl := h5 (by omega)
    refine ⟨.pointer (some ⟨M.phi id, M.off id + st * (ty e).sz + i.toNat * (ty e).sz, none⟩), ⟨⟨hp.1.1, rfl⟩, fun fz2 ty2 sz2 r2 hr2 => ?_⟩, fun w' => ?_⟩
    ·rw [hr] at hr2
     cases hr2
     exact ⟨Nat.le_refl _, fun _ => by simp only [Nat.add_zero, Nat.add_mul, Nat.add_assoc]⟩
    ·simp [Instr.indexAt, run_underlying hu, asIntOf, h1, h2, info_sz hT hke, addr_add]
   ·exact h.elim
  ·exact h.elim
 ·rename_i t' ck n k i
  obtain rfl := con_int hq
  split at h
  ·rename_i e hk
   obtain ⟨hu, hke⟩ : P.underlying t = some (.slice e) ∧ _ := kOk_of hT hk
   obtain ⟨⟨h1, h2⟩, rfl, h3⟩ := h
   obtain ⟨a, c, rfl, k1, k2, k3, k4⟩ := hp
   cases a with
   | none => have := k3 rfl; omega
   | some ad =>
    obtain ⟨b, cur, rfl, g1, g2, g3⟩ := k4 ad rfl
    refine ⟨.pointer (some ⟨b, i.toNat * ck.length + 0, none⟩), ⟨b, cur, i.toNat, rfl, g1, g2, ?_⟩, fun w' => ?_⟩
    ·rw [← g3]; exact Nat.mul_le_mul_right _ (by omega)
    ·simp [Instr.indexAt, run_underlying hu, asIntOf, h1, h2, info_sz hT hke, addr_add, h3]
  ·exact h.elim
 ·exact h.elim
theorem ckAt_eq : ∀ (l : List CK) (i : Nat), ckAt l i = l[i]?
 | [], _ => rfl
 | _ :: _, 0 => rfl
 | _ :: l, n + 1 => by simp only [ckAt, List.getElem?_cons_succ]; exact ckAt_eq l n
theorem slc_ok (hT : TyOk P ty) (t : TypeId) {p q : RV} {u v : Value} (hp : ConR M σ.H w p u) (hq : ConR M σ.H w q v) (h : (slc2 (ty t).k p q).1) : ∃ r, ConR M σ.H w (slc2 (ty t).k p q).2 r ∧ ∀ w', (Instr.sliceAt t u none (some v) none).run P w' = .ok r w' := by
 unfold slc2 at h ⊢
 split at h
 ·rename_i t' ck n k m
  obtain rfl := con_int hq
  split at h
  ·rename_i e hk
   obtain ⟨hu, hke⟩ : P.underlying t = some (.slice e) ∧ _ := kOk_of hT hk
   have hel : P.elem t = e := by simp [Program.elem, hu]
   obtain ⟨h1, h2⟩ := h
   obtain ⟨a, c, rfl, k1, k2, k3, k4⟩ := hp
   refine ⟨.slice a m.toNat c, ⟨a, c, rfl, by omega, k2, k3, k4⟩, fun w' => ?_⟩
   rw [run_sliceAt_slice w' t _ _ _ _ (by rw [hel]; exact hu), run_slice_h w' t a n c (by rw [hel]; exact hu) k m h1 (by omega), hel, info_sz hT hke]
   simp only [Result.andThen, sliced, Nat.sub_zero, Nat.zero_mul]
   by_cases hc : c = 0
   ·rw [if_pos hc]
   ·rw [if_neg hc]
    cases a with
    | none => rfl
    | some ad =>
     obtain ⟨b, cur, rfl, -⟩ := k4 ad rfl
     simp [addr_add]
  ·exact h.elim
 ·rename_i k m
  obtain rfl := con_int hq
  split at h
  ·rename_i e hk
   obtain ⟨hu, hke⟩ : P.underlying t = some (.slice e) ∧ _ := kOk_of hT hk
   have hel : P.elem t = e := by simp [Program.elem, hu]
   have hp : u = .slice none 0 0 := hp
   have h : m = 0 := h
   subst hp h
   refine ⟨.slice none 0 0, rfl, fun w' => ?_⟩
   rw [run_sliceAt_slice w' t _ _ _ _ (by rw [hel]; exact hu), run_slice_h w' t none 0 0 (by rw [hel]; exact hu) k 0 (Int.le_refl _) (Int.le_refl _), hel, info_sz hT hke]
   rfl
  ·exact h.elim
 ·rename_i n sz f k m
  obtain rfl := con_int hq
  split at h
  ·rename_i e hk
   obtain ⟨hu, hke⟩ : P.underlying t = some (.slice e) ∧ _ := kOk_of hT hk
   have hel : P.elem t = e := by simp [Program.elem, hu]
   obtain ⟨h1, h2⟩ := h
   obtain ⟨a, b, off, c, rfl, k1, k2, k3, k4⟩ := hp
   refine ⟨sliced a 0 m.toNat c (ty e).sz, ?_, fun w' => ?_⟩
   ·refine ⟨if c = 0 then a else a.map (·.add (0 * (ty e).sz)), b, off, c, rfl, by omega, k2, fun hm => ?_, fun i hi => k4 i (by omega)⟩
    obtain ⟨rfl, hr⟩ := k3 (by omega)
    rw [if_neg (by omega)]
    exact ⟨by simp [addr_add], hr⟩
   ·rw [run_sliceAt_slice w' t _ _ _ _ (by rw [hel]; exact hu), run_slice_h w' t a n c (by rw [hel]; exact hu) k m h1 (by omega), hel, info_sz hT hke]
    rfl
  ·exact h.elim
 ·rename_i s k m
  obtain rfl := con_int hq
  split at h
  ·rename_i hk
   obtain rfl := con_str hp
   obtain ⟨h1, h2, h3⟩ := h
   exact ⟨_, rfl, fun w' => by rw [run_sliceAt_string (w := w') (h := kOk_of hT hk)]; exact run_slice_string_h w' t s (kOk_of hT hk) k m h2 h3⟩
  ·exact h.elim
 ·exact h.elim
theorem slc1_ok (hT : TyOk P ty) (t : TypeId) {p q : RV} {u v : Value} (hp : ConR M σ.H w p u) (hq : ConR M σ.H w q v) (h : (slc1 ty (ty t).k p q).1) : ∃ r, ConR M σ.H w (slc1 ty (ty t).k p q).2 r ∧ ∀ w', (Instr.sliceAt t u (some v) none none).run P w' = .ok r w' := by
 unfold slc1 at h ⊢
 split at h
 ·rename_i s k m
  obtain rfl := con_int hq
  split at h
  ·rename_i hk
   obtain rfl := con_str hp
   obtain ⟨h1, h2, h3⟩ := h
   exact ⟨_, rfl, fun w' => by rw [run_sliceAt_string (w := w') (h := kOk_of hT hk)]; exact run_slice_string_l w' t s (kOk_of hT hk) k m h1 h2⟩
  ·exact h.elim
 ·rename_i n sz f k m
  obtain rfl := con_int hq
  split at h
  ·rename_i e hk
   obtain ⟨hu, hke⟩ : P.underlying t = some (.slice e) ∧ _ := kOk_of hT hk
   have hel : P.elem t = e := by simp [Program.elem, hu]
   obtain ⟨⟨h1, h2⟩, rfl⟩ := h
   obtain ⟨a, b, off, c, rfl, k1, k2, k3, k4⟩ := hp
   obtain ⟨rfl, hr⟩ := k3 (by omega)
   refine ⟨sliced (some ⟨b, off, none⟩) m.toNat n c (ty e).sz, ?_, fun w' => ?_⟩
   ·refine ⟨some ⟨b, off + m.toNat * (ty e).sz, none⟩, b, off + m.toNat * (ty e).sz, c - m.toNat, ?_, by omega, by omega, fun _ => ⟨rfl, hr⟩, fun i hi j hj => ?_⟩
    ·simp only [sliced]
     rw [if_neg (by omega)]
     simp [addr_add]
    ·have := k4 (i + m.toNat) (by omega) j hj
     rw [show off + m.toNat * (ty e).sz + i * (ty e).sz + j = off + (i + m.toNat) * (ty e).sz + j by rw [Nat.add_mul]; omega]
     exact this
   ·rw [run_sliceAt_slice w' t _ _ _ _ (by rw [hel]; exact hu), run_slice_l w' t _ n c (by rw [hel]; exact hu) k m h1 (by omega), hel, info_sz hT hke]
    rfl
  ·exact h.elim
 ·exact h.elim
theorem idxS_ok (hT : TyOk P ty) (t : TypeId) {p q : RV} {u v : Value} (hp : ConR M σ.H w p u) (hq : ConR M σ.H w q v) (h : (idxS (ty t).k p q).1) : ∃ r, ConR M σ.H w (idxS (ty t).k p q).2 r ∧ ∀ w', (Instr.index t u v).run P w' = .ok r w' := by
 unfold idxS at h ⊢
 split at h
 ·rename_i s k m
  obtain rfl := con_int hq
  split at h
  ·rename_i hk
   obtain rfl := con_str hp
   obtain ⟨h1, h2⟩ := h
   have hu : P.underlying t = some .string := kOk_of hT hk
   have hl : m.toNat < s.size := by omega
   have hb : s[m.toNat]? = some (s[m.toNat]'hl) := by simp [hl]
   have hg : byAt s m = ((s[m.toNat]'hl).toNat : Int) := by
    unfold byAt
    rw [List.getD_eq_getElem?_getD, List.getElem?_eq_getElem (by simpa using hl)]
    rfl
   exact ⟨_, rfl, fun w' => by simp [Instr.index, asIntOf, run_underlying hu, hb, hg, h1]⟩
  ·exact h.elim
 ·exact h.elim
theorem slc3_ok (hT : TyOk P ty) (t : TypeId) {p q r : RV} {u v z : Value} (hp : ConR M σ.H w p u) (hq : ConR M σ.H w q v) (hr : ConR M σ.H w r z) (h : (slc3 (ty t).k p q r).1) : ∃ r', ConR M σ.H w (slc3 (ty t).k p q r).2 r' ∧ ∀ w', (Instr.sliceAt t u (some v) (some z) none).run P w' = .ok r' w' := by
 unfold slc3 at h ⊢
 split at h
 ·rename_i s k l k' m
  obtain rfl := con_int hq
  obtain rfl := con_int hr
  split at h
  ·rename_i hk
   obtain rfl := con_str hp
   obtain ⟨h1, h2, h3⟩ := h
   exact ⟨_, rfl, fun w' => by rw [run_sliceAt_string (w := w') (h := kOk_of hT hk)]; exact run_slice_string w' t s k k' l m (kOk_of hT hk) h1 h2 h3⟩
  ·exact h.elim
 ·exact h.elim
theorem Rel.cell (h : Rel E M σ.H w) {id : Nat} {fz : Bool} {t : TypeId} {sz : Nat} {r : Row} (hr : rootAt σ.H id = .live fz t sz r) {i o : Nat} (hi : i < r.len) (ho : o < sz) :
  ∃ v, Con M σ.H w (r.get i o) v ∧ v.oneCell' = true ∧ ∀ w', Same M σ.H w w' → w'.cell? ⟨M.phi id, M.off id + i * sz + o, none⟩ = some v := by
 obtain ⟨cur, h1, h2, h3, -, -, h4⟩ := h.row _ _ _ _ _ hr
 obtain ⟨v, h5, h6, h7⟩ := h4 i hi o ho
 refine ⟨v, ?_, h6, fun w' hs => ?_⟩
 ·unfold RCon at h7
  split at h7
  ·exact h7
  ·exact Con.of0 h7
 ·have := hs (M.phi id) (.inr (.inl ⟨id, fz, t, sz, r, hr, rfl⟩))
  simp [World.cell?, this, h1, h5]
theorem cells_of {Q : Nat → Value → Prop} : ∀ (n : Nat), (∀ j, j < n → ∃ v, Q j v) → ∃ vs : List Value, vs.length = n ∧ ∀ j v, vs[j]? = some v → Q j v
 | 0, _ => ⟨[], rfl, fun j v h => by simp at h⟩
 | n + 1, h => by
  obtain ⟨vs, h1, h2⟩ := cells_of n fun j hj => h j (by omega)
  obtain ⟨v, hv⟩ := h n (by omega)
  refine ⟨vs ++ [v], by simp [h1], fun j u hj => ?_⟩
  by_cases hlt : j < vs.length
  ·rw [List.getElem?_append_left hlt] at hj
   exact h2 j u hj
  ·rw [List.getElem?_append_right (by omega)] at hj
   have : j = n := by
    have := (List.getElem?_eq_some_iff.1 hj).1
    simp at this; omega
   subst this
   simp [h1] at hj
   subst hj; exact hv
theorem run_loadAgg (hT : TyOk P ty) {t : TypeId} {fs : List (Nat × Nat)} (hk : (ty t).k = .st fs) {b o : Nat} {vs : List Value} (hl : vs.length = (ty t).sz) {w' : World} (h : ∀ j v, vs[j]? = some v → w'.cell? ⟨b, o + j, none⟩ = some v) :
  (Instr.loadAt t (.pointer (some ⟨b, o, none⟩))).run P w' = .ok (.agg vs.toArray) w' := by
 obtain ⟨fields, hu, -⟩ := kOk_of hT hk
 have hz := info_sz (P := P) hT (t := t) (by rw [hk]; trivial) w'
 have hc := run_loadCells_list (P := P) w' ⟨b, o, none⟩ vs (fun j v hj => by rw [addr_add]; exact h j v hj)
 rw [← hl] at hz
 simp [Instr.loadAt, Instr.sureAddr, loadVar, isAgg, run_underlying hu, hz, hc]
theorem run_loadOne (hT : TyOk P ty) {t : TypeId} (hk : (match (ty t).k with | .st _ => False | .ar .. => False | .no => False | _ => True)) {b o : Nat} {v : Value} {w' : World} (h : w'.cell? ⟨b, o, none⟩ = some v) :
  (Instr.loadAt t (.pointer (some ⟨b, o, none⟩))).run P w' = .ok v w' := by
 have hd : ∃ d, P.underlying t = some d ∧ (match d with | .struct _ | .array _ _ => False | _ => True) := by
  have hh := (hT t).k
  cases hq : (ty t).k <;> rw [hq] at hk hh <;> simp only at hk
  ·exact ⟨_, hh, trivial⟩
  ·exact ⟨_, hh, trivial⟩
  ·exact ⟨_, hh, trivial⟩
  ·exact hh
  ·exact ⟨_, hh.1, trivial⟩
 obtain ⟨d, hu, hd⟩ := hd
 cases d <;> first | exact hd.elim | simp [Instr.loadAt, Instr.sureAddr, loadVar, isAgg, run_underlying hu, h]
theorem load_ok (hT : TyOk P ty) (hR : Rel E M σ.H w) (t : TypeId) {p : RV} {u : Value} (hp : ConR M σ.H w p u) (h : (loadV (ty t) σ.H p).1) : ∃ r, ConR M σ.H w (loadV (ty t) σ.H p).2 r ∧ ∀ w', Same M σ.H w w' → (Instr.loadAt t u).run P w' = .ok r w' := by
 unfold loadV at h ⊢
 split at h
 ·rename_i n g
  obtain ⟨b, off, rfl, hr, hc⟩ := hp
  split at h
  ·rename_i fs hk
   obtain ⟨vs, h1, h2⟩ := cells_of (Q := fun j v => w.cell? ⟨b, off + j, none⟩ = some v ∧ Con0 M.rho w (g j) v) (ty t).sz (fun j hj => hc j (by simp only at h; omega))
   refine ⟨.agg vs.toArray, ⟨vs, rfl, ConL.of_getElem (by rw [tab_len, h1]) fun i v hv => ?_⟩, fun w' hs => run_loadAgg hT hk h1 fun j v hj => ?_⟩
   ·rw [tab_nth _ _ _ _ (by have := (List.getElem?_eq_some_iff.1 hv).1; omega), Nat.zero_add]
    exact Con.of0 (h2 i v hv).2
   ·rw [← (h2 j v hj).1]
    exact World.cell?_of_block (hs b (.inl hr))
  ·exact h.elim
  ·exact h.elim
  ·rename_i h1 h2 h3
   obtain ⟨v, hv, hcv⟩ := hc 0 (by simp only at h; omega)
   refine ⟨v, Con.of0 hcv, fun w' hs => run_loadOne hT ?_ ?_⟩
   ·cases hq : (ty t).k <;> simp_all
   ·rw [← hv]
    exact World.cell?_of_block (hs b (.inl hr))
 ·rename_i id n i o
  split at h
  ·rename_i fz ty' sz r hr
   split at h
   ·rename_i fs hk
    obtain ⟨hn, hi, ho⟩ := h
    obtain rfl := (hp.2 _ _ _ _ hr).2 hn
    obtain ⟨vs, h1, h2⟩ := cells_of (Q := fun j v => Con M σ.H w (r.get i (o + j)) v ∧ v.oneCell' = true ∧ ∀ w', Same M σ.H w w' → w'.cell? ⟨M.phi id, M.off id + i * sz + (o + j), none⟩ = some v) (ty t).sz (fun j hj => hR.cell hr (by omega) (by omega))
    refine ⟨.agg vs.toArray, ⟨vs, rfl, ConL.of_getElem (by rw [tab_len, h1]) fun j v hv => ?_⟩, fun w' hs => run_loadAgg hT hk h1 fun j v hj => ?_⟩
    ·rw [tab_nth _ _ _ _ (by have := (List.getElem?_eq_some_iff.1 hv).1; omega)]
     exact (h2 j v hv).1
    ·rw [Nat.add_assoc]
     exact (h2 j v hj).2.2 w' hs
   ·exact h.elim
   ·exact h.elim
   ·rename_i k1 k2 k3
    obtain ⟨hn, hi, ho⟩ := h
    obtain rfl := (hp.2 _ _ _ _ hr).2 hn
    obtain ⟨v, h1, -, h2⟩ := hR.cell hr (i := i) (o := o) (by omega) ho
    refine ⟨v, h1, fun w' hs => run_loadOne hT ?_ (h2 w' hs)⟩
    cases hq : (ty t).k <;> simp_all
  ·exact h.elim
 ·rename_i t' ck o
  split at h
  ·rename_i e hk
   obtain ⟨b, cur, i, rfl, e2, e3, e4⟩ := hp
   obtain ⟨cur2, c1, c2, -, c4⟩ := hR.tau.cells b t' ck e2
   rw [e3] at c1
   cases c1
   unfold wldV at h ⊢
   split at h
   ·rename_i t2 ck2 b2 hq
    rw [ckAt_eq] at hq
    have ho : o < ck.length := (List.getElem?_eq_some_iff.1 hq).1
    have hk2 : (i * ck.length + o) % ck.length = o := by rw [Nat.add_comm, Nat.add_mul_mod_self_right, Nat.mod_eq_of_lt ho]
    rw [Nat.add_mul] at e4
    obtain ⟨v, g1, g2⟩ := c4 (i * ck.length + o) (by omega)
    have g3 := g2 (.s t2 ck2 b2) (by rw [hk2]; exact hq)
    simp only [hk]
    refine ⟨v, g3, fun w' hs => run_loadOne hT (by rw [hk]; trivial) ?_⟩
    have := hs b (.inr (.inr ⟨_, e2⟩))
    simp [World.cell?, this, e3, g1]
   ·exact h.elim
  ·exact h.elim
 ·exact h.elim
theorem Con.one {x : AV} {v : Value} (hn : x.nj = true) (h : Con M σ.H w x v) : v.oneCell' = true ∧ v.cells = #[v] := by
 cases x with
 | int => cases h; exact ⟨rfl, rfl⟩
 | bool => cases h; exact ⟨rfl, rfl⟩
 | flt => cases h; exact ⟨rfl, rfl⟩
 | str => cases h; exact ⟨rfl, rfl⟩
 | nilp => cases h; exact ⟨rfl, rfl⟩
 | nils => cases h; exact ⟨rfl, rfl⟩
 | sl => obtain ⟨a, b, off, c, rfl, -⟩ := h; exact ⟨rfl, rfl⟩
 | rp => obtain ⟨b, off, rfl, -⟩ := h; exact ⟨rfl, rfl⟩
 | ws => obtain ⟨a, c, rfl, -⟩ := h; exact ⟨rfl, rfl⟩
 | wu => obtain ⟨n, -, a, c, rfl, -⟩ := h; exact ⟨rfl, rfl⟩
 | wp => obtain ⟨b, cur, i, rfl, -⟩ := h; exact ⟨rfl, rfl⟩
 | junk => cases hn
 | ptr => exact ⟨h.1.2, by have := h.1.2; cases v <;> first | rfl | cases this⟩
 | h => exact ⟨h.1.2, by have := h.1.2; cases v <;> first | rfl | cases this⟩
theorem cellsR_ok {x : RV} {v : Value} (hn : njL (cellsR x) = true) (h0 : (cellsR x).length ≠ 0) (h : ConR M σ.H w x v) : ConL M σ.H w (cellsR x) v.cells.toList := by
 cases x with
 | c b =>
  simp only [cellsR, njL, Bool.and_true] at hn
  have h' : Con M σ.H w b v := h
  rw [(Con.one hn h').2]
  exact ⟨v, [], rfl, h', rfl⟩
 | agg l => obtain ⟨vs, rfl, h1⟩ := h; simpa [cellsR, Value.cells] using h1
 | fn => exact absurd rfl h0
 | tup => exact absurd rfl h0
 | ifc => exact absurd rfl h0
theorem fold_get (off : Nat) : ∀ (l : List Value) (s : Nat) (cells : Array Value), off + s + l.length ≤ cells.size →
  ((l.zipIdx s).foldl (fun cs (p : Value × Nat) => cs.setIfInBounds (off + p.2) p.1) cells).size = cells.size ∧ ∀ j, ((l.zipIdx s).foldl (fun cs (p : Value × Nat) => cs.setIfInBounds (off + p.2) p.1) cells)[j]? = if off + s ≤ j ∧ j < off + s + l.length then l[j - (off + s)]? else cells[j]?
 | [], s, cells, _ => ⟨rfl, fun j => by simp only [List.zipIdx_nil, List.foldl_nil, List.length_nil, Nat.add_zero]; rw [if_neg (by omega)]⟩
 | v :: l, s, cells, h => by
  simp only [List.length_cons] at h
  have hs : (cells.setIfInBounds (off + s) v).size = cells.size := Array.size_setIfInBounds
  obtain ⟨h1, h2⟩ := fold_get off l (s + 1) (cells.setIfInBounds (off + s) v) (by rw [hs]; omega)
  simp only [List.zipIdx_cons, List.foldl_cons]
  refine ⟨by rw [h1, hs], fun j => ?_⟩
  rw [h2 j, List.length_cons, Array.getElem?_setIfInBounds]
  by_cases e : j = off + s
  ·subst e
   rw [if_neg (by omega), if_pos rfl, if_pos (by omega), if_pos (by omega), Nat.sub_self]; rfl
  ·by_cases e2 : off + s ≤ j ∧ j < off + s + (l.length + 1)
   ·rw [if_pos (show off + (s + 1) ≤ j ∧ j < off + (s + 1) + l.length by omega), if_pos e2, show j - (off + s) = (j - (off + (s + 1))) + 1 by omega]; rfl
   ·rw [if_neg (show ¬ (off + (s + 1) ≤ j ∧ j < off + (s + 1) + l.length) by omega), if_neg (fun h => e h.symm), if_neg e2]
theorem at2_get : ∀ (fs : List (Nat × Nat)) (i : Nat), (at2 fs i).2 ≠ 0 → fs[i]? = some (at2 fs i)
 | [], _, h => absurd rfl h
 | _ :: _, 0, _ => rfl
 | _ :: fs, n + 1, h => at2_get fs n h
theorem fill_ok (pl : Nat → Nat × Nat) (place : Nat → Option (Nat × Nat)) (hpl : ∀ i, (pl i).2 ≠ 0 → place i = some (pl i)) : ∀ (ps : List (Nat × Operand)) (l : List AV) (cells : Array Value), (∀ x ∈ ps, (σ.rd x.2).1 = true → ConR M σ.H w (σ.rd x.2).2 (a.eval x.2)) → gOk true (pgs σ.rd ps) → ConL M σ.H w l cells.toList → (buildV pl σ.rd l ps).1 →
  ∃ out, Instr.fill place cells (ps.map fun (i, x) => (i, a.eval x)) = some out ∧ ConL M σ.H w (buildV pl σ.rd l ps).2 out.toList
 | [], l, cells, _, _, hc, _ => ⟨cells, rfl, hc⟩
 | (i, x) :: ps, l, cells, hr, hg, hc, h => by
  simp only [buildV] at h ⊢
  simp only [pgs, gOk] at hg
  obtain ⟨⟨h0, h1, h2, h3⟩, h4⟩ := h
  have hx := hr _ (List.mem_cons_self ..) (hg.1 trivial)
  have hcx := cellsR_ok h1 (by omega) hx
  have hlen := hcx.len
  have hll := hc.len
  have hfs : place i = some (pl i) := hpl i h0
  have hsz : (a.eval x).cells.size = (pl i).2 := by simpa [h2] using hlen
  have hcl : cells.size = l.length := by simpa using hll
  obtain ⟨f1, f2⟩ := fold_get (pl i).1 (a.eval x).cells.toList 0 cells (by simp only [Array.length_toList]; omega)
  obtain ⟨out, ho, hco⟩ := fill_ok pl place hpl ps (pat l (pl i).1 (cellsR (σ.rd x).2)) (((a.eval x).cells.toList.zipIdx 0).foldl (fun cs (p : Value × Nat) => cs.setIfInBounds ((pl i).1 + p.2) p.1) cells)
   (fun y hy => hr y (List.mem_cons_of_mem _ hy)) hg.2 (ConL.of_getElem (by rw [pat_len]; simp only [Array.length_toList]; omega) fun j v hj => by
    rw [Array.getElem?_toList, f2 j] at hj
    rw [pat_nth _ _ _ _ (by omega)]
    simp only [Nat.add_zero, Array.length_toList, hsz, h2] at hj ⊢
    split at hj
    ·rename_i hb
     rw [if_pos hb]
     exact hcx.get _ _ hj
    ·rename_i hb
     rw [if_neg hb]
     exact hc.get _ _ (by simpa using hj)) h4
  refine ⟨out, ?_, hco⟩
  rw [← ho]
  simp only [List.map_cons, Instr.fill, hfs, hsz]
  rw [if_neg (by simp; omega)]
  congr 1
  rw [← Array.foldl_toList]
  simp [Array.toList_zipIdx]
theorem zero_con (hT : TyOk P ty) {t : TypeId} (hk : (match (ty t).k with | .no => False | _ => True)) : ∃ i z, P.info? t = some i ∧ i.zero = some z ∧ i.size = (ty t).sz ∧ i.bytes = (ty t).bytes ∧ z.cells.size = (ty t).sz ∧ zvL (ty t).zero z.cells.toList = true ∧ ConL M σ.H w (ty t).zero z.cells.toList := by
 obtain ⟨i, z, h1, h2, h3, h4, h5, h6⟩ := hT.info hk
 exact ⟨i, z, h1, h4, h2, h3, h6, h5, ConL.of_getElem (zvL_len h5) fun j v hj => Con.of0 (zvB_con (zvL_get h5 j v hj))⟩
theorem build_ok (hT : TyOk P ty) (h : St E nt M σ a w) (t : TypeId) (ps : Array (Nat × Operand)) {fs : List (Nat × Nat)} (hk : (ty t).k = .st fs) (hg : gOk true (pgs σ.rd ps.toList)) (ho : (buildV (at2 fs) σ.rd (ty t).zero ps.toList).1) :
  ∃ r, ConR M σ.H w (.agg (buildV (at2 fs) σ.rd (ty t).zero ps.toList).2) r ∧ ∀ w', (Instr.build t (ps.map fun (i, x) => (i, a.eval x))).run P w' = .ok r w' := by
 obtain ⟨fields, hu, hfs, hinf⟩ := kOk_of hT hk
 obtain ⟨i, z, hi, hz, -, -, -, -, hzc⟩ := zero_con (M := M) (σ := σ) (w := w) (P := P) hT (t := t) (by rw [hk]; trivial)
 obtain ⟨out, h1, h2⟩ := fill_ok (M := M) (σ := σ) (w := w) (a := a) (at2 fs) (fun i => fs[i]?) (at2_get fs) ps.toList (ty t).zero z.cells (fun x _ hx => h.rd hx) hg hzc ho
 refine ⟨.agg out, ⟨out.toList, by simp, h2⟩, fun w' => run_build w' t _ out ?_⟩
 have hm : fields.toList.mapM (fun f => (P.info? f.type).map fun i => (f.offset, i.size)) = some fs := by
  rw [← hfs]
  have : ∀ l : List Field, (∀ f ∈ l, (P.info? f.type).isSome = true) → l.mapM (fun f => (P.info? f.type).map fun i => (f.offset, i.size)) = some (l.map fun f => (f.offset, P.cellsOf f.type)) := by
   intro l hl
   induction l with
   | nil => rfl
   | cons f l ih =>
    obtain ⟨inf, hinf⟩ := Option.isSome_iff_exists.1 (hl f (List.mem_cons_self ..))
    simp [List.mapM_cons, hinf, ih fun g hg => hl g (List.mem_cons_of_mem _ hg), Program.cellsOf]
  exact this _ hinf
 unfold Program.built
 simp only [hi, hu, hz, hm]
 rw [← h1]
 simp
def isLd : Op → Bool
 | .load .. => true
 | _ => false
theorem opV_gen (hT : TyOk P ty) (h : St E nt M σ a w) {o : Oper} (hv : isV o.op = true) {g : Bool} (hg : g = true) (hgs : gOk true (opGs σ.rd o.op)) (ho : (opV ty g σ.rd σ.H o.op).1) :
  ∃ v, ConR M σ.H w (opV ty g σ.rd σ.H o.op).2 v ∧ ∀ w', (isLd o.op = true → Same M σ.H w w') → (execOp a.eval o).run P w' = .ok (.value v) w' := by
 obtain ⟨dst, op, type, pos, after, guard⟩ := o
 have lift : ∀ {x : Sem Value} {v : Value} {w' : World}, x.run P w' = .ok v w' → ((do pure (Next.value (← x))) : Sem Next).run P w' = .ok (.value v) w' := fun {x v w'} hx => by
  rw [Sem.run_bind, hx]; rfl
 cases op <;> simp only [isV, Bool.false_eq_true] at hv <;> simp only [opGs, gOk] at hgs <;> simp only [opV] at ho ⊢
 case move x => exact ⟨a.eval x, h.rd (hgs.1 trivial), fun w' _ => rfl⟩
 case assign x => exact ⟨a.eval x, h.rd (hgs.1 trivial), fun w' _ => rfl⟩
 case pick c x y =>
  subst hg
  have hc := h.rd (hgs.1 trivial)
  split at ho
  ·rename_i cb hcb
   rw [hcb] at hc
   have hcv : a.eval c = .bool cb := hc
   obtain ⟨h1, h2, h3⟩ := ho
   simp only [gOk, Bool.true_and, and_true] at h1 h2
   have key : ∃ v, ConR M σ.H w (pickV (.c (.bool cb)) (σ.rd x).2 (σ.rd y).2).2 v ∧ v = (if cb = true then a.eval x else a.eval y) := by
    unfold pickV at h3 ⊢
    split at h3
    ·rename_i c' p q e1 e2 e3
     cases e1
     cases cb with
     | true => exact ⟨_, by have := h.rd (x := x) (h1 rfl); rw [e2] at this; exact this, rfl⟩
     | false => exact ⟨_, by have := h.rd (x := y) (h2 rfl); rw [e3] at this; exact this, rfl⟩
    ·rename_i c' k p k' q e1 e2 e3
     cases e1
     simp only at h3
     subst h3
     cases cb with
     | true => exact ⟨_, by have := h.rd (x := x) (h1 rfl); rw [e2] at this; exact this, rfl⟩
     | false => exact ⟨_, by have := h.rd (x := y) (h2 rfl); rw [e3] at this; exact this, rfl⟩
    ·rename_i c1 e1 e2
     cases e1
     simp only at h3
     subst h3
     exact ⟨_, h.rd (x := y) (h2 rfl), rfl⟩
    ·rename_i c1 e1 e2 n
     cases e1
     simp only at h3
     subst h3
     exact ⟨_, h.rd (x := x) (h1 rfl), rfl⟩
    ·exact h3.elim
   obtain ⟨v, hv1, hv2⟩ := key
   refine ⟨v, hv1, fun w' _ => ?_⟩
   subst hv2
   cases cb <;> simp [execOp, hcv, asBool]
  ·exact ho.elim
 case build t ps =>
  split at ho
  ·rename_i fs hk
   obtain ⟨r, h1, h2⟩ := build_ok hT h t ps hk hgs ho
   exact ⟨r, h1, fun w' _ => lift (h2 w')⟩
  ·exact ho.elim
 case load t x =>
  obtain ⟨r, h1, h2⟩ := load_ok hT h.rel t (h.rd (hgs.1 trivial)) ho
  exact ⟨r, h1, fun w' hs => lift (h2 w' (hs rfl))⟩
 case binOp op t x y yt =>
  obtain ⟨r, h1, h2⟩ := bin_ok hT op t x y yt (h.rd (hgs.1 trivial)) (h.rd (hgs.2.1 trivial)) ho
  exact ⟨r, h1, fun w' _ => lift (h2 w')⟩
 case unOp op t x =>
  obtain ⟨r, h1, h2⟩ := un_ok (P := P) op (h.rd (hgs.1 trivial)) ho
  exact ⟨r, h1, fun w' _ => lift (h2 w')⟩
 case convert s t x =>
  obtain ⟨r, h1, h2⟩ := conv_ok hT s t (h.rd (hgs.1 trivial)) ho
  exact ⟨r, h1, fun w' _ => lift (h2 w')⟩
 case fieldAddr t x f =>
  obtain ⟨r, h1, h2⟩ := field_ok hT t f (h.rd (hgs.1 trivial)) ho
  exact ⟨r, h1, fun w' _ => lift (h2 w')⟩
 case indexAddr t x i =>
  obtain ⟨r, h1, h2⟩ := index_ok hT t (h.rd (hgs.1 trivial)) (h.rd (hgs.2.1 trivial)) ho
  exact ⟨r, h1, fun w' _ => lift (h2 w')⟩
 case index t x i =>
  obtain ⟨r, h1, h2⟩ := idxS_ok hT t (h.rd (hgs.1 trivial)) (h.rd (hgs.2.1 trivial)) ho
  exact ⟨r, h1, fun w' _ => lift (h2 w')⟩
 case nilCheck x =>
  have hx := h.rd (hgs.1 trivial)
  unfold nchV at ho ⊢
  split at ho
  ·rename_i id n i o hxe
   rw [hxe] at hx
   split at ho
   ·rename_i fz ty2 sz r hr
    have e := (hx.2 _ _ _ _ hr).2 ho
    exact ⟨_, hx, fun w' _ => by rw [e]; simp [execOp, e]⟩
   ·exact ho.elim
  ·exact ho.elim
 case extract x i =>
  have hx := h.rd (hgs.1 trivial)
  have key : ∃ v, ConR M σ.H w (extV (σ.rd x).2 i).2 v ∧ ∀ w', (Instr.extract (a.eval x) i).run P w' = .ok v w' := by
   unfold extV at ho ⊢
   split at ho
   ·rename_i l hl
    rw [hl] at hx
    obtain ⟨vs, hvs, hc⟩ := hx
    have hn : ∀ (l : List RV) (vs : List Value) (i : Nat), ConRL M σ.H w l vs → (nthR l i).1 → ∃ v, vs[i]? = some v ∧ ConR M σ.H w (nthR l i).2 v := by
     intro l
     induction l with
     | nil => intro vs i _ h; exact h.elim
     | cons b l ih =>
      rintro vs i ⟨v, r, rfl, h1, h2⟩ h
      cases i with
      | zero => exact ⟨v, rfl, h1⟩
      | succ n => exact ih r n h2 h
    obtain ⟨v, h1, h2⟩ := hn l vs i hc ho
    exact ⟨v, h2, fun w' => by rw [hvs]; simp [Instr.extract, h1]⟩
   ·exact ho.elim
  obtain ⟨r, h1, h2⟩ := key
  exact ⟨r, h1, fun w' _ => lift (h2 w')⟩
 case slice t x lo hi mx =>
  cases lo <;> cases hi <;> cases mx <;> simp only [slcV] at ho ⊢ <;> try exact ho.elim
  ·obtain ⟨r, h1, h2⟩ := slc_ok hT t (h.rd (hgs.1 trivial)) (h.rd (hgs.2.1 rfl)) ho
   exact ⟨r, h1, fun w' _ => lift (h2 w')⟩
  ·obtain ⟨r, h1, h2⟩ := slc1_ok hT t (h.rd (hgs.1 trivial)) (h.rd (hgs.2.1 rfl)) ho
   exact ⟨r, h1, fun w' _ => lift (h2 w')⟩
  ·obtain ⟨r, h1, h2⟩ := slc3_ok hT t (h.rd (hgs.1 trivial)) (h.rd (hgs.2.1 rfl)) (h.rd (hgs.2.2.1 rfl)) ho
   exact ⟨r, h1, fun w' _ => lift (h2 w')⟩
 case makeFunc fn first caps =>
  obtain ⟨first⟩ := first
  cases fn <;> cases first <;> simp only [mkfV] at ho ⊢ <;> try exact ho.elim
  rename_i f
  have key : ∀ (l : List Operand), gOk true (rgs σ.rd l) → ∀ as, capL (rds σ.rd l) = some as → ConL M σ.H w as (l.map a.eval) := by
   intro l
   induction l with
   | nil => intro _ as e; cases e; rfl
   | cons x l ih =>
    intro hg as e
    simp only [rds, capL] at e
    have hx := h.rd (hg.1 rfl)
    cases hq : (σ.rd x).2 <;> rw [hq] at e hx <;> simp only [capL] at e <;> try cases e
    rename_i b
    cases hc : capL (rds σ.rd l) <;> rw [hc] at e <;> simp only [Option.map_none, Option.map_some, Option.some.injEq] at e <;> try cases e
    exact ⟨_, _, rfl, hx, ih hg.2 _ hc⟩
  unfold funV at ho ⊢
  split at ho
  ·rename_i as has
   refine ⟨.func (.func f) #[] (caps.map a.eval), ⟨caps.toList.map a.eval, ?_, key caps.toList hgs as has⟩, fun w' _ => ?_⟩
   ·congr 1; apply Array.toList_inj.1; simp
   ·simp [execOp, Instr.makeFunc]
  ·exact ho.elim
 case call c =>
  obtain ⟨callee, args, ats⟩ := c
  cases callee with
  | value f => simp at hv
  | invoke r m => simp at hv
  | builtin b =>
   simp only at hgs ho ⊢
   obtain ⟨args⟩ := args
   obtain ⟨ats⟩ := ats
   cases b <;> simp only [bltV] at hv ho ⊢ <;> try exact ho.elim
   case len =>
    rcases args with _ | ⟨x, _ | ⟨y, rest⟩⟩ <;> simp only [rds] at ho <;> try exact ho.elim
    rcases ats with _ | ⟨t, _ | ⟨t2, rest⟩⟩ <;> simp only at ho <;> try exact ho.elim
    obtain ⟨r, h1, h2⟩ := len_ok hT t type (h.rd (hgs.1 rfl)) ho
    exact ⟨r, h1, fun w' _ => by have := lift (x := Builtin.len_ #[t] type #[a.eval x]) (h2 w'); simpa [execOp, resolve, invoke, builtin] using this⟩
   case max =>
    rcases args with _ | ⟨x, _ | ⟨y, _ | ⟨z, rest⟩⟩⟩ <;> simp only [rds] at ho <;> try exact ho.elim
    obtain ⟨r, h1, h2⟩ := mm_ok (P := P) true (h.rd (hgs.1 rfl)) (h.rd (hgs.2.1 rfl)) ho ats.toArray type
    exact ⟨r, h1, fun w' _ => by have := lift (x := Builtin.max_ ats.toArray type #[a.eval x, a.eval y]) (h2 w'); simpa [execOp, resolve, invoke, builtin] using this⟩
   case min =>
    rcases args with _ | ⟨x, _ | ⟨y, _ | ⟨z, rest⟩⟩⟩ <;> simp only [rds] at ho <;> try exact ho.elim
    obtain ⟨r, h1, h2⟩ := mm_ok (P := P) false (h.rd (hgs.1 rfl)) (h.rd (hgs.2.1 rfl)) ho ats.toArray type
    exact ⟨r, h1, fun w' _ => by have := lift (x := Builtin.min_ ats.toArray type #[a.eval x, a.eval y]) (h2 w'); simpa [execOp, resolve, invoke, builtin] using this⟩
theorem opV_ok (hT : TyOk P ty) (h : St E nt M σ a w) {o : Oper} (hv : isV o.op = true) {g : Bool} (hg : g = true) (hgs : gOk true (opGs σ.rd o.op)) (ho : (opV ty g σ.rd σ.H o.op).1) :
  ∃ v, ConR M σ.H w (opV ty g σ.rd σ.H o.op).2 v ∧ ∀ w', Same M σ.H w w' → (execOp a.eval o).run P w' = .ok (.value v) w' := by
 obtain ⟨v, h1, h2⟩ := opV_gen hT h hv hg hgs ho
 exact ⟨v, h1, fun w' hs => h2 w' fun _ => hs⟩
end val
section
variable {P : Program} {ty : Ty} {E : Env} {M M' : Mp} {H H' : List Root} {w w' : World}
theorem Kp.refl (M : Mp) (H : List Root) (w : World) : Kp M H w M H w := fun _ _ h => h
theorem Kp.trans {M2 : Mp} {H2 : List Root} {w2 : World} (h : Kp M H w M' H' w') (k : Kp M' H' w' M2 H2 w2) : Kp M H w M2 H2 w2 := fun a v c => k a v (h a v c)
theorem Kp.L (h : Kp M H w M' H' w') : ∀ {l : List AV} {vs : List Value}, ConL M H w l vs → ConL M' H' w' l vs
 | [], _, c => c
 | _ :: _, _, ⟨v, r, e, c1, c2⟩ => ⟨v, r, e, h _ _ c1, Kp.L h c2⟩
mutual
theorem Kp.R (h : Kp M H w M' H' w') : ∀ {x : RV} {v : Value}, ConR M H w x v → ConR M' H' w' x v
 | .c _, _, c => h _ _ c
 | .agg _, _, ⟨vs, e, c⟩ => ⟨vs, e, h.L c⟩
 | .fn _ _, _, ⟨vs, e, c⟩ => ⟨vs, e, h.L c⟩
 | .tup _, _, ⟨vs, e, c⟩ => ⟨vs, e, Kp.RL h c⟩
 | .ifc _ _, _, ⟨u, e, c⟩ => ⟨u, e, Kp.R h c⟩
theorem Kp.RL (h : Kp M H w M' H' w') : ∀ {x : List RV} {vs : List Value}, ConRL M H w x vs → ConRL M' H' w' x vs
 | [], _, c => c
 | _ :: _, _, ⟨v, r, e, c1, c2⟩ => ⟨v, r, e, Kp.R h c1, Kp.RL h c2⟩
end
theorem Kp.below (h : Rel E M H w) (hb : Below w.heap.size w w') : Kp M H w M H w' := by
 intro a v c
 have hr : ∀ b, M.rho b → w'.heap[b]? = w.heap[b]? := fun b hb' => hb.block b (h.rlt b hb')
 cases a with
 | ptr => exact c
 | h id st len =>
  refine ⟨c.1, fun fz t sz r hrt => ⟨(c.2 _ _ _ _ hrt).1, fun hl => ?_⟩⟩
  obtain ⟨cap, cur, ad, h1, h2, h3, h4, h5⟩ := (c.2 _ _ _ _ hrt).2 hl
  refine ⟨cap, cur, ad, h1, h2, h3, ?_, h5⟩
  rw [hb.block _ (Array.getElem?_eq_some_iff.1 h4).1]; exact h4
 | ws => exact WSl.keep (TKeep.of rfl fun b q hq => hb.block b (h.tau.lt hq)) c
 | wu => obtain ⟨n, hb', c⟩ := c; exact ⟨n, hb', WSl.keep (TKeep.of rfl fun b q hq => hb.block b (h.tau.lt hq)) c⟩
 | wp => exact WPt.keep (TKeep.of rfl fun b q hq => hb.block b (h.tau.lt hq)) c
 | junk => trivial
 | _ => exact Con0.keep hr (fun _ h => h) c
theorem RowOk.keep {b f : Nat} {t : TypeId} {sz : Nat} {r : Row} (h : RowOk M H w b f t sz r) (hk : Kp M H w M' H' w') (hr : ∀ b, M.rho b → w'.heap[b]? = w.heap[b]?) (hrr : ∀ b, M.rho b → M'.rho b) (hb : w'.heap[b]? = w.heap[b]?) : RowOk M' H' w' b f t sz r := by
 obtain ⟨cur, h1, h2, h3, h4, h5, h6⟩ := h
 refine ⟨cur, by rw [hb]; exact h1, h2, h3, h4, h5, fun i hi o ho => ?_⟩
 obtain ⟨v, k1, k2, k3⟩ := h6 i hi o ho
 refine ⟨v, k1, k2, ?_⟩
 unfold RCon at k3 ⊢
 split
 ·rename_i hbx; rw [if_pos hbx] at k3; exact hk _ _ k3
 ·rename_i hbx; rw [if_neg hbx] at k3; exact Con0.keep hr hrr k3
theorem Rel.lt (h : Rel E M H w) {id : Nat} {fz : Bool} {t : TypeId} {sz : Nat} {r : Row} (hr : rootAt H id = .live fz t sz r) : M.phi id < w.heap.size := by
 obtain ⟨cur, h1, -⟩ := h.row _ _ _ _ _ hr
 exact (Array.getElem?_eq_some_iff.1 h1).1
theorem Rel.below (h : Rel E M H w) (hb : Below w.heap.size w w') : Rel E M H w' :=
 ⟨h.bel.trans (hb.mono h.bel.size), h.low, fun id fz t sz r hr => (h.row id fz t sz r hr).keep (Kp.below h hb) (fun b hb' => hb.block b (h.rlt b hb')) (fun _ h => h) (hb.block _ (h.lt hr)), h.froz, h.thaw, h.inj,
  fun b hb' => Nat.lt_of_lt_of_le (h.rlt b hb') hb.size, h.src, h.tau.keep rfl (fun b q hq => hb.block b (h.tau.lt hq)) (fun b q hq => (h.tau.new b q hq).2) h.tau.row⟩
theorem Rel.glob (h : Rel E M H w) : GlobIn M.rho w := ⟨h.src.2.1.below h.bel, h.src.2.2⟩
structure Put (E : Env) (M : Mp) (H H' : List Root) (w w' : World) (row : Option Nat) (id g f : Nat) (t : TypeId) (sz : Nat) (r' : Row) : Prop where
 gr : w.grownBy w' row
 oth : ∀ j, j ≠ id → rootAt H' j = rootAt H j
 this : rootAt H' id = .live false t sz r'
 len : H.length ≤ H'.length
 fresh : rootAt H id = .dead → H.length ≤ id
 row : ∀ b, row = some b → b = M.phi id ∧ ∃ t s r, rootAt H id = .live false t s r
 new : (g = M.phi id ∧ ∃ t s r, rootAt H id = .live false t s r) ∨ w.heap.size ≤ g
 old : ∀ fz t2 s r, rootAt H id = .live fz t2 s r → r.len < r'.len ∨ (r.len = r'.len ∧ g = M.phi id ∧ f = M.off id ∧ t2 = t ∧ s = sz ∧ ∀ cur, w.heap[g]? = some (.cells cur t (0, 0)) → ∃ cur', w'.heap[g]? = some (.cells cur' t (0, 0)) ∧ cur'.size = cur.size)
def Mp.upd (M : Mp) (id g f : Nat) : Mp := ⟨fun j => if j = id then g else M.phi j, fun j => if j = id then f else M.off j, M.rho, M.tau⟩
section
variable {row : Option Nat} {id g f : Nat} {t : TypeId} {sz : Nat} {r' : Row}
theorem Put.rho (p : Put E M H H' w w' row id g f t sz r') (h : Rel E M H w) (b : Nat) (hb : M.rho b) : w'.heap[b]? = w.heap[b]? := by
 refine p.gr.block b (h.rlt b hb) fun e => ?_
 obtain ⟨rfl, t, s, r, hr⟩ := p.row b e.symm
 exact h.thaw _ _ _ _ hr hb
theorem Put.blk (p : Put E M H H' w w' row id g f t sz r') (h : Rel E M H w) {j : Nat} {fz : Bool} {t2 : TypeId} {s2 : Nat} {r2 : Row} (hj : rootAt H j = .live fz t2 s2 r2) (hne : j ≠ id) : w'.heap[M.phi j]? = w.heap[M.phi j]? := by
 refine p.gr.block _ (h.lt hj) fun e => ?_
 obtain ⟨e2, t, s, r, hr⟩ := p.row _ e.symm
 cases fz with
 | false => exact hne (h.inj _ _ _ _ _ _ _ _ hj hr e2)
 | true =>
  have := h.froz _ _ _ _ hj
  rw [e2] at this
  exact h.thaw _ _ _ _ hr this
theorem Put.tau (p : Put E M H H' w w' row id g f t sz r') (h : Rel E M H w) (b : Nat) (q : TypeId × List CK) (hq : M.tau b = some q) : w'.heap[b]? = w.heap[b]? := by
 refine p.gr.block b (h.tau.lt hq) fun e => ?_
 obtain ⟨rfl, t, s, r, hr⟩ := p.row b e.symm
 exact h.tau.row _ _ _ _ _ _ _ hq hr rfl
theorem Put.kp (p : Put E M H H' w w' row id g f t sz r') (h : Rel E M H w) : Kp M H w (M.upd id g f) H' w' := by
 intro a v c
 cases a with
 | ptr id2 n i o =>
  refine ⟨⟨Nat.lt_of_lt_of_le c.1.1 p.len, c.1.2⟩, fun fz t2 s2 r2 hr => ?_⟩
  by_cases e : id2 = id
  ·subst e
   rw [p.this] at hr
   cases hr
   cases ho : rootAt H id2 with
   | dead => have := p.fresh ho; have := c.1.1; omega
   | live fz t2 s r =>
    obtain ⟨c1, c2⟩ := c.2 _ _ _ _ ho
    rcases p.old _ _ _ _ ho with h1 | ⟨h1, rfl, rfl, rfl, rfl, -⟩
    ·exact ⟨by omega, fun hn => by omega⟩
    ·exact ⟨by omega, fun hn => by rw [c2 (by omega)]; simp [Mp.upd]⟩
  ·rw [p.oth _ e] at hr
   have := c.2 _ _ _ _ hr
   simpa [Mp.upd, e] using this
 | h id2 st len =>
  refine ⟨⟨Nat.lt_of_lt_of_le c.1.1 p.len, c.1.2⟩, fun fz t2 s2 r2 hr => ?_⟩
  by_cases e : id2 = id
  ·subst e
   rw [p.this] at hr
   cases hr
   cases ho : rootAt H id2 with
   | dead => have := p.fresh ho; have := c.1.1; omega
   | live fz t2 s r =>
    obtain ⟨c1, c2⟩ := c.2 _ _ _ _ ho
    rcases p.old _ _ _ _ ho with h1 | ⟨h1, rfl, rfl, rfl, rfl, h2⟩
    ·exact ⟨by omega, fun hn => by omega⟩
    ·refine ⟨by omega, fun hn => ?_⟩
     obtain ⟨cap, cur, ad, k1, k2, k3, k4, k5, k8⟩ := c2 (by omega)
     obtain ⟨cur', k6, k7⟩ := h2 cur k4
     exact ⟨cap, cur', ad, k1, k2, k3, by simpa [Mp.upd] using k6, by simp only [Mp.upd, if_true]; omega, by simpa [Mp.upd] using k8⟩
  ·rw [p.oth _ e] at hr
   obtain ⟨c1, c2⟩ := c.2 _ _ _ _ hr
   refine ⟨c1, fun hn => ?_⟩
   obtain ⟨cap, cur, ad, k1, k2, k3, k4, k5⟩ := c2 hn
   exact ⟨cap, cur, ad, k1, k2, k3, by simp only [Mp.upd, e, if_false]; rw [p.blk h hr e]; exact k4, by simpa only [Mp.upd, e, if_false] using k5⟩
 | ws => exact WSl.keep (TKeep.of rfl (p.tau h)) c
 | wu => obtain ⟨n, hb', c⟩ := c; exact ⟨n, hb', WSl.keep (TKeep.of rfl (p.tau h)) c⟩
 | wp => exact WPt.keep (TKeep.of rfl (p.tau h)) c
 | junk => trivial
 | _ => exact Con0.keep (p.rho h) (fun _ h => h) c
theorem Put.rel (p : Put E M H H' w w' row id g f t sz r') (h : Rel E M H w) (hr : RowOk (M.upd id g f) H' w' g f t sz r') : Rel E (M.upd id g f) H' w' := by
 have hW : E.W0.heap.size ≤ w.heap.size := h.bel.size
 have hg : E.W0.heap.size ≤ g := by
  rcases p.new with ⟨rfl, t, s, r, ho⟩ | h1
  ·exact h.low _ _ _ _ _ ho
  ·omega
 have up : ∀ {j : Nat}, j ≠ id → (M.upd id g f).phi j = M.phi j := fun hne => by simp [Mp.upd, hne]
 have uid : (M.upd id g f).phi id = g := by simp [Mp.upd]
 have upo : ∀ {j : Nat}, j ≠ id → (M.upd id g f).off j = M.off j := fun hne => by simp [Mp.upd, hne]
 have uido : (M.upd id g f).off id = f := by simp [Mp.upd]
 refine ⟨?_, ?_, ?_, ?_, ?_, ?_, ?_, ?_, ?_⟩
 ·exact ⟨p.gr.os.trans h.bel.os, p.gr.tape.trans h.bel.tape, p.gr.output.trans h.bel.output, Nat.le_trans h.bel.size p.gr.size, fun k hk => by
   rw [p.gr.block k (by omega) (fun e => by obtain ⟨e2, t, s, r, ho⟩ := p.row _ e.symm; have := h.low _ _ _ _ _ ho; omega)]
   exact h.bel.block k hk⟩
 ·intro j fz t2 s2 r2 hj
  by_cases e : j = id
  ·subst e; rw [uid]; exact hg
  ·rw [up e]; rw [p.oth _ e] at hj; exact h.low _ _ _ _ _ hj
 ·intro j fz t2 s2 r2 hj
  by_cases e : j = id
  ·subst e; rw [uid, uido]; rw [p.this] at hj; cases hj; exact hr
  ·rw [up e, upo e]; rw [p.oth _ e] at hj; exact (h.row _ _ _ _ _ hj).keep (p.kp h) (p.rho h) (fun _ h => h) (p.blk h hj e)
 ·intro j t2 s2 r2 hj
  by_cases e : j = id
  ·subst e; rw [p.this] at hj; cases hj
  ·rw [up e]; rw [p.oth _ e] at hj; exact h.froz _ _ _ _ hj
 ·intro j t2 s2 r2 hj
  by_cases e : j = id
  ·subst e; rw [uid]
   rcases p.new with ⟨rfl, t, s, r, ho⟩ | h1
   ·exact h.thaw _ _ _ _ ho
   ·exact fun hb => by have := h.rlt _ hb; omega
  ·rw [up e]; rw [p.oth _ e] at hj; exact h.thaw _ _ _ _ hj
 ·intro i j t1 s1 r1 t2 s2 r2 hi hj he
  have key : ∀ {j : Nat} {t2 : TypeId} {s2 : Nat} {r2 : Row}, j ≠ id → rootAt H' j = .live false t2 s2 r2 → g ≠ M.phi j := fun hne hj e => by
   rw [p.oth _ hne] at hj
   rcases p.new with ⟨rfl, t, s, r, ho⟩ | h1
   ·exact hne (h.inj _ _ _ _ _ _ _ _ ho hj e).symm
   ·have := h.lt hj; omega
  by_cases ei : i = id
  ·by_cases ej : j = id
   ·rw [ei, ej]
   ·rw [ei, uid, up ej] at he
    exact absurd he (key ej hj)
  ·by_cases ej : j = id
   ·rw [ej, uid, up ei] at he
    exact absurd he.symm (key ei hi)
   ·rw [up ei, up ej] at he
    rw [p.oth _ ei] at hi
    rw [p.oth _ ej] at hj
    exact h.inj _ _ _ _ _ _ _ _ hi hj he
 ·exact fun b hb => Nat.lt_of_lt_of_le (h.rlt b hb) p.gr.size
 ·exact h.src
 ·refine h.tau.keep rfl (p.tau h) (fun b q hq => (h.tau.new b q hq).2) fun b q j fz t2 s2 r2 hq hj => ?_
  by_cases e : j = id
  ·subst e; rw [uid]
   rcases p.new with ⟨rfl, t, s, r, ho⟩ | h1
   ·exact h.tau.row _ _ _ _ _ _ _ hq ho
   ·have := h.tau.lt hq; omega
  ·rw [up e]; rw [p.oth _ e] at hj; exact h.tau.row _ _ _ _ _ _ _ hq hj
end
theorem heap_push (w : World) (o : Obj) : (w.alloc o).heap[w.heap.size]? = some o := by
 show (w.heap.push o)[w.heap.size]? = _
 simp
theorem Put.push (h : Rel E M H w) (hg : w.grownBy w' none) {t : TypeId} {sz : Nat} {r : Row} : Put E M H (H ++ [.live false t sz r]) w w' none H.length w.heap.size 0 t sz r :=
 ⟨hg, fun j hj => by rw [rootAt_app, if_neg hj], by rw [rootAt_app, if_pos rfl], by simp, fun _ => Nat.le_refl _, fun _ e => (by cases e), .inr (Nat.le_refl _), fun _ _ _ _ hr => by rw [rootAt_big (Nat.le_refl _)] at hr; cases hr⟩
theorem con_new {w w' : World} {t : TypeId} {sz : Nat} {r : Row} : Con (M.upd H.length w.heap.size 0) (H ++ [.live false t sz r]) w' (.ptr H.length r.len 0 0) (.pointer (some ⟨w.heap.size, 0, none⟩)) := by
 refine ⟨⟨by simp, rfl⟩, fun fz t2 s2 r2 hr => ?_⟩
 rw [rootAt_app, if_pos rfl] at hr
 cases hr
 exact ⟨Nat.le_refl _, fun _ => by simp [Mp.upd]⟩
theorem con_newH {w' : World} {t : TypeId} {sz n cap : Nat} {r : Row} {cur : Array Value} (hn : n = r.len) (h1 : n ≤ cap) (h2 : cap ≤ maxLen) (h3 : w'.heap[w.heap.size]? = some (.cells cur t (0, 0))) (h4 : cap * sz = cur.size) :
  Con (M.upd H.length w.heap.size 0) (H ++ [.live false t sz r]) w' (.h H.length 0 n) (.slice (some ⟨w.heap.size, 0, none⟩) n cap) := by
 refine ⟨⟨by simp, rfl⟩, fun fz t2 s2 r2 hr => ?_⟩
 rw [rootAt_app, if_pos rfl] at hr
 cases hr
 exact ⟨by omega, fun _ => ⟨cap, cur, _, rfl, h1, h2, by simpa [Mp.upd] using h3, by simpa [Mp.upd] using h4, fun _ => by simp [Mp.upd]⟩⟩
theorem box_ok (h : Rel E M H w) {cs : List AV} {vs : Array Value} (t : TypeId) (hc : ConL M H w cs vs.toList) (hn : ∀ v ∈ vs.toList, v.oneCell' = true) (h0 : 0 < cs.length) :
  Rel E (M.upd H.length w.heap.size 0) (H ++ [.live false t cs.length (.box cs)]) (w.alloc (.cells vs t)) ∧ Kp M H w (M.upd H.length w.heap.size 0) (H ++ [.live false t cs.length (.box cs)]) (w.alloc (.cells vs t)) := by
 have hg : w.grownBy (w.alloc (.cells vs t)) none := ⟨rfl, rfl, rfl, by simp, fun k hk _ => Below.heap_alloc _ _ _ hk⟩
 have p := Put.push h hg (t := t) (sz := cs.length) (r := .box cs)
 have hl := hc.len
 refine ⟨p.rel h ⟨vs, heap_push w _, h0, by simp only [Row.len]; simp at hl; omega, ⟨1, by simp at hl; omega⟩, fun _ => ⟨rfl, by simpa using hl⟩, fun i hi o ho => ?_⟩, p.kp h⟩
 have hi : i = 0 := by simp only [Row.len] at hi; omega
 subst hi
 have ho' : o < vs.toList.length := by rw [hl]; exact ho
 refine ⟨vs.toList[o], by simp, hn _ (List.getElem_mem ho'), ?_⟩
 show Con _ _ _ (nth cs o) _
 exact p.kp h _ _ (hc.get o _ (List.getElem?_eq_getElem ho'))
def Mp.fz (M : Mp) (id : Nat) : Mp := ⟨M.phi, M.off, fun b => M.rho b ∨ b = M.phi id, M.tau⟩
theorem rootAt_mark {fz : Bool} {t : TypeId} {sz : Nat} {r : Row} {id : Nat} (hr : rootAt H id = .live fz t sz r) (j : Nat) : rootAt (setRoot H id (rootAt H id).mark) j = if j = id then .live true t sz r else rootAt H j := by
 rw [rootAt_set, hr]
 have := rootAt_lt hr
 by_cases e : j = id <;> simp [e, this, Root.mark]
theorem mark_live {id : Nat} {fz : Bool} {t : TypeId} {sz : Nat} {r : Row} (hr : rootAt H id = .live fz t sz r) {j : Nat} {fz2 : Bool} {t2 : TypeId} {s2 : Nat} {r2 : Row} (hj : rootAt (setRoot H id (rootAt H id).mark) j = .live fz2 t2 s2 r2) :
  ∃ fz3, rootAt H j = .live fz3 t2 s2 r2 ∧ (j ≠ id → fz3 = fz2) ∧ (j = id → fz2 = true) := by
 rw [rootAt_mark hr] at hj
 by_cases e : j = id
 ·rw [if_pos e] at hj
  cases hj
  exact ⟨fz, by rw [e]; exact hr, fun h => absurd e h, fun _ => rfl⟩
 ·rw [if_neg e] at hj
  exact ⟨fz2, hj, fun _ => rfl, fun h => absurd h e⟩
theorem Kp.mark {id : Nat} {fz : Bool} {t : TypeId} {sz : Nat} {r : Row} (hr : rootAt H id = .live fz t sz r) : Kp M H w (M.fz id) (setRoot H id (rootAt H id).mark) w := by
 intro a v c
 cases a with
 | ptr id2 n i o => exact ⟨⟨by rw [setRoot_len]; exact c.1.1, c.1.2⟩, fun fz2 t2 s2 r2 hj => by obtain ⟨fz3, h1, -⟩ := mark_live hr hj; exact c.2 _ _ _ _ h1⟩
 | h id2 st len => exact ⟨⟨by rw [setRoot_len]; exact c.1.1, c.1.2⟩, fun fz2 t2 s2 r2 hj => by obtain ⟨fz3, h1, -⟩ := mark_live hr hj; exact c.2 _ _ _ _ h1⟩
 | ws => exact c
 | wu => exact c
 | wp => exact c
 | junk => trivial
 | _ => exact Con0.keep (fun _ _ => rfl) (fun _ h => .inl h) c
theorem Rel.mark (h : Rel E M H w) {id : Nat} {fz : Bool} {t : TypeId} {sz : Nat} {r : Row} (hr : rootAt H id = .live fz t sz r) : Rel E (M.fz id) (setRoot H id (rootAt H id).mark) w := by
 refine ⟨h.bel, ?_, ?_, ?_, ?_, ?_, ?_, ?_, ?_⟩
 ·intro j fz2 t2 s2 r2 hj
  obtain ⟨_, h1, -⟩ := mark_live hr hj; exact h.low _ _ _ _ _ h1
 ·intro j fz2 t2 s2 r2 hj
  obtain ⟨_, h1, -⟩ := mark_live hr hj
  exact (h.row _ _ _ _ _ h1).keep (Kp.mark hr) (fun _ _ => rfl) (fun _ h => .inl h) rfl
 ·intro j t2 s2 r2 hj
  obtain ⟨fz3, h1, h2, -⟩ := mark_live hr hj
  by_cases e : j = id
  ·exact .inr (by rw [e]; rfl)
  ·obtain rfl := h2 e; exact .inl (h.froz _ _ _ _ h1)
 ·intro j t2 s2 r2 hj
  obtain ⟨fz3, h1, h2, h3⟩ := mark_live hr hj
  have e : j ≠ id := fun e => by have := h3 e; cases this
  obtain rfl := h2 e
  rintro (hb | hb)
  ·exact h.thaw _ _ _ _ h1 hb
  ·cases fz with
   | false => exact e (h.inj _ _ _ _ _ _ _ _ h1 hr hb)
   | true => exact h.thaw _ _ _ _ h1 (by have := h.froz _ _ _ _ hr; have hb' : M.phi j = M.phi id := hb; rw [hb']; exact this)
 ·intro i j t1 s1 r1 t2 s2 r2 hi hj he
  obtain ⟨f1, h1, k1, l1⟩ := mark_live hr hi
  obtain ⟨f2, h2, k2, l2⟩ := mark_live hr hj
  have e1 : i ≠ id := fun e => by have := l1 e; cases this
  have e2 : j ≠ id := fun e => by have := l2 e; cases this
  obtain rfl := k1 e1
  obtain rfl := k2 e2
  exact h.inj _ _ _ _ _ _ _ _ h1 h2 he
 ·rintro b (hb | hb)
  ·exact h.rlt _ hb
  ·rw [hb]; exact h.lt hr
 ·refine ⟨?_, h.src.2.mono fun _ => .inl⟩
  rintro b (hb | hb)
  ·exact h.src.1 _ hb
  ·exact .inr (by rw [hb]; exact h.low _ _ _ _ _ hr)
 ·refine h.tau.keep rfl (fun _ _ _ => rfl) (fun b q hq => ?_) fun b q j fz2 t2 s2 r2 hq hj => ?_
  ·rintro (hb | hb)
   ·exact (h.tau.new b q hq).2 hb
   ·exact h.tau.row _ _ _ _ _ _ _ hq hr hb.symm
  ·obtain ⟨_, h1, -⟩ := mark_live hr hj
   exact h.tau.row _ _ _ _ _ _ _ hq h1
def Con0L (rho : Nat → Prop) (w : World) : List AV → List Value → Prop
 | [], vs => vs = []
 | a :: l, vs => ∃ v r, vs = v :: r ∧ Con0 rho w a v ∧ Con0L rho w l r
theorem frz_mark {id : Nat} {fz : Bool} {t : TypeId} {sz : Nat} {r : Row} (hr : rootAt H id = .live fz t sz r) (a : AV) : frz (setRoot H id (rootAt H id).mark) a = frz H a := by
 cases a with
 | h id2 st len =>
  simp only [frz]
  rw [rootAt_mark hr]
  by_cases e : id2 = id
  ·rw [if_pos e, e, hr]
  ·rw [if_neg e]
 | _ => rfl
theorem frzL_mark {id : Nat} {fz : Bool} {t : TypeId} {sz : Nat} {r : Row} (hr : rootAt H id = .live fz t sz r) : ∀ l : List AV, frzL (setRoot H id (rootAt H id).mark) l = frzL H l
 | [] => rfl
 | a :: l => by simp only [frzL, frz_mark hr, frzL_mark hr l]
theorem frzOk_mark {id : Nat} {fz : Bool} {t : TypeId} {sz : Nat} {r : Row} (hr : rootAt H id = .live fz t sz r) : ∀ l : List AV, frzOk H l → frzOk (setRoot H id (rootAt H id).mark) l
 | [], _ => trivial
 | a :: l, h => by
  cases a with
  | h id2 st len =>
   refine ⟨?_, frzOk_mark hr l h.2⟩
   have := h.1
   unfold vldF at this ⊢
   rw [rootAt_mark hr]
   by_cases e : id2 = id
   ·rw [if_pos e]; rw [e, hr] at this; exact this
   ·rw [if_neg e]; exact this
  | ptr => exact h.elim
  | junk => exact h.elim
  | ws => exact h.elim
  | wu => exact h.elim
  | wp => exact h.elim
  | _ => exact frzOk_mark hr l h
theorem Con0.frzH (h : Rel E M H w) {id st len : Nat} {v : Value} (hv : vldF H id st len) (c : Con M H w (.h id st len) v) : Con0 (M.fz id).rho w (frz H (.h id st len)) v := by
 unfold vldF at hv
 split at hv
 ·rename_i fz t sz r hr
  obtain ⟨cap, cur, ad, rfl, h2, h3, h4, h5, h6⟩ := (c.2 _ _ _ _ hr).2 hv.1
  obtain ⟨cur2, k1, k2, k3, k4, k5, k6⟩ := h.row _ _ _ _ _ hr
  simp only [frz, hr]
  refine ⟨_, M.phi id, M.off id + st * sz, cap, rfl, h2, h3, fun _ => ⟨congrArg some (h6 (by omega)), .inr rfl⟩, fun i hi j hj => ?_⟩
  obtain ⟨u, l1, l2, l3⟩ := k6 (st + i) (by omega) j hj
  refine ⟨u, ?_, ?_⟩
  ·simp only [World.cell?, k1, Option.isSome_none, Bool.false_eq_true, if_false]
   rw [← l1, Nat.add_mul, ← Nat.add_assoc (M.off id)]
  ·unfold RCon at l3
   rw [hv.2, if_neg (by simp)] at l3
   exact l3.keep (fun _ _ => rfl) (fun _ h => .inl h)
 ·exact hv.elim
theorem frz_ok : ∀ (l : List AV) {M : Mp} {H : List Root}, Rel E M H w → frzOk H l → ∃ M', (M'.phi = M.phi ∧ M'.off = M.off) ∧ (∀ b, M.rho b → M'.rho b) ∧ Rel E M' (frzH H l) w ∧ Kp M H w M' (frzH H l) w ∧ ∀ vs, ConL M H w l vs → Con0L M'.rho w (frzL H l) vs
 | [], M, H, h, _ => ⟨M, ⟨rfl, rfl⟩, fun _ h => h, h, Kp.refl _ _ _, fun vs hv => hv⟩
 | a :: l, M, H, h, ho => by
  have plain : ∀ (_ : a.fr = true) (_ : frzH H (a :: l) = frzH H l) (_ : frz H a = a) (_ : frzOk H l), ∃ M', (M'.phi = M.phi ∧ M'.off = M.off) ∧ (∀ b, M.rho b → M'.rho b) ∧ Rel E M' (frzH H (a :: l)) w ∧ Kp M H w M' (frzH H (a :: l)) w ∧ ∀ vs, ConL M H w (a :: l) vs → Con0L M'.rho w (frzL H (a :: l)) vs := fun h1 h2 h3 h4 => by
   obtain ⟨M', k1, k2, k3, k4, k5⟩ := frz_ok l h h4
   refine ⟨M', k1, k2, by rw [h2]; exact k3, by rw [h2]; exact k4, ?_⟩
   rintro vs ⟨v, r, rfl, c1, c2⟩
   exact ⟨v, r, rfl, by rw [h3]; exact (Con.to0 h1 c1).keep (fun _ _ => rfl) k2, k5 r c2⟩
  cases a with
  | h id st len =>
   have hv := ho.1
   unfold vldF at hv
   split at hv
   ·rename_i fz t sz r hr
    obtain ⟨M', k1, k2, k3, k4, k5⟩ := frz_ok l (h.mark hr) (frzOk_mark hr l ho.2)
    refine ⟨M', k1, fun b hb => k2 b (.inl hb), k3, (Kp.mark hr).trans k4, ?_⟩
    rintro vs ⟨v, r, rfl, c1, c2⟩
    refine ⟨v, r, rfl, (Con0.frzH h ho.1 c1).keep (fun _ _ => rfl) k2, ?_⟩
    have := k5 r ((Kp.mark hr).L c2)
    rwa [frzL_mark hr] at this
   ·exact hv.elim
  | ptr => exact ho.elim
  | junk => exact ho.elim
  | ws => exact ho.elim
  | wu => exact ho.elim
  | wp => exact ho.elim
  | int => exact plain rfl rfl rfl ho
  | bool => exact plain rfl rfl rfl ho
  | flt => exact plain rfl rfl rfl ho
  | str => exact plain rfl rfl rfl ho
  | nilp => exact plain rfl rfl rfl ho
  | nils => exact plain rfl rfl rfl ho
  | sl => exact plain rfl rfl rfl ho
  | rp => exact plain rfl rfl rfl ho
theorem frzH_len : ∀ (l : List AV) (H : List Root), (frzH H l).length = H.length
 | [], _ => rfl
 | a :: l, H => by cases a <;> simp only [frzH] <;> first | (rw [frzH_len l, setRoot_len]) | exact frzH_len l H
theorem Con0L.get {rho : Nat → Prop} : ∀ {l : List AV} {vs : List Value}, Con0L rho w l vs → ∀ i v, vs[i]? = some v → Con0 rho w (nth l i) v
 | [], _, h, i, v, hv => by cases h; simp at hv
 | a :: l, _, ⟨v, r, h, h1, h2⟩, 0, u, hu => by subst h; cases hu; exact h1
 | a :: l, _, ⟨v, r, h, h1, h2⟩, i + 1, u, hu => by subst h; exact Con0L.get h2 i u (by simpa using hu)
theorem Con0L.len {rho : Nat → Prop} : ∀ {l : List AV} {vs : List Value}, Con0L rho w l vs → vs.length = l.length
 | [], _, h => by cases h; rfl
 | a :: l, _, ⟨v, r, h, _, h2⟩ => by subst h; simp [Con0L.len h2]
theorem frzL_len : ∀ (l : List AV), (frzL H l).length = l.length
 | [] => rfl
 | a :: l => by simp [frzL, frzL_len l]
theorem nth_big : ∀ {l : List AV} {j : Nat}, l.length ≤ j → nth l j = .junk
 | [], _, _ => rfl
 | _ :: l, j + 1, h => nth_big (l := l) (by simpa using h)
theorem pat_nth' : ∀ (cs l : List AV) (o j : Nat), nth (pat l o cs) j = if j < l.length then (if o ≤ j ∧ j < o + cs.length then nth cs (j - o) else nth l j) else .junk
 | [], l, o, j => by
  simp only [pat, List.length_nil, Nat.add_zero]
  rw [if_neg (show ¬ (o ≤ j ∧ j < o) by omega)]
  split
  ·rfl
  ·exact nth_big (by omega)
 | a :: cs, l, o, j => by
  simp only [pat, List.length_cons]
  rw [pat_nth' cs _ _ _, setN_len, setN_nth]
  split
  ·by_cases h1 : j = o
   ·subst h1
    rw [if_neg (by omega), if_pos (by omega), if_pos (by omega), Nat.sub_self]; rfl
   ·by_cases h2 : o + 1 ≤ j ∧ j < o + 1 + cs.length
    ·rw [if_pos h2, if_pos (by omega), show j - o = (j - (o + 1)) + 1 by omega]; rfl
    ·rw [if_neg h2, if_neg (fun h => h1 h.1), if_neg (by omega)]
  ·rfl
theorem getD_set {α : Type} (l : List α) (i j : Nat) (x d : α) : (l.set i x).getD j d = if j = i ∧ i < l.length then x else l.getD j d := by
 simp only [List.getD_eq_getElem?_getD, List.getElem?_set]
 by_cases e : i = j
 ·subst e
  by_cases h : i < l.length <;> simp [h]
 ·rw [if_neg e, if_neg (fun h => e h.1.symm)]
theorem put_get {sz : Nat} {r : Row} {i o : Nat} {cs : List AV} (hp : (r.put sz i o cs).1) (hi : i < r.len) (ho : o + cs.length ≤ sz) :
  (r.put sz i o cs).2.len = r.len ∧ (r.put sz i o cs).2.isBox = r.isBox ∧ ∀ i' o', i' < r.len → o' < sz → (r.put sz i o cs).2.get i' o' = (if i' = i ∧ o ≤ o' ∧ o' < o + cs.length then nth cs (o' - o) else r.get i' o') ∨ (r.put sz i o cs).2.get i' o' = .junk := by
 unfold Row.put at hp ⊢
 split at hp
 ·rename_i l
  refine ⟨rfl, rfl, fun i' o' h1 h2 => ?_⟩
  simp only [Row.len] at hi h1
  simp only [Row.get, pat_nth']
  split
  ·left
   by_cases e : o ≤ o' ∧ o' < o + cs.length
   ·rw [if_pos e, if_pos (by omega)]
   ·rw [if_neg e, if_neg (fun h => e h.2)]
  ·exact .inr rfl
 ·rename_i k l k' n
  obtain ⟨rfl, rfl⟩ := hp
  refine ⟨by simp [Row.len], rfl, fun i' o' h1 h2 => .inl ?_⟩
  simp only [Row.len] at hi
  simp only [List.length_cons, List.length_nil] at ho
  simp only [Row.get, getD_set, List.length_cons, List.length_nil]
  by_cases e : i' = i
  ·rw [if_pos ⟨e, hi⟩, if_pos (by omega), show o' - o = 0 by omega]; rfl
  ·rw [if_neg (fun h => e h.1), if_neg (fun h => e h.1)]
 ·rename_i l b
  simp only at hp
  subst hp
  refine ⟨by simp [Row.len], rfl, fun i' o' h1 h2 => .inl ?_⟩
  simp only [Row.len] at hi
  simp only [List.length_cons, List.length_nil] at ho
  simp only [Row.get, getD_set, List.length_cons, List.length_nil]
  by_cases e : i' = i
  ·rw [if_pos ⟨e, hi⟩, if_pos (by omega), show o' - o = 0 by omega]; rfl
  ·rw [if_neg (fun h => e h.1), if_neg (fun h => e h.1)]
 ·rename_i l
  refine ⟨by simp [Row.len], rfl, fun i' o' h1 h2 => ?_⟩
  simp only [Row.len] at hi
  simp only [Row.get, getD_set]
  by_cases e : i' = i
  ·rw [if_pos ⟨e, hi⟩, pat_nth']
   split
   ·left
    by_cases e2 : o ≤ o' ∧ o' < o + cs.length
    ·rw [if_pos e2, if_pos ⟨e, e2⟩]
    ·rw [if_neg e2, if_neg (fun h => e2 h.2), e]
   ·exact .inr rfl
  ·rw [if_neg (fun h => e h.1), if_neg (fun h => e h.1)]
   exact .inl rfl
 ·rename_i l
  refine ⟨by simp [Row.len], rfl, fun i' o' h1 h2 => ?_⟩
  simp only [Row.len] at hi
  simp only [Row.get, getD_set]
  by_cases e : i' = i
  ·rw [if_pos ⟨e, hi⟩, pat_nth']
   split
   ·left
    by_cases e2 : o ≤ o' ∧ o' < o + cs.length
    ·rw [if_pos e2, if_pos ⟨e, e2⟩]
    ·rw [if_neg e2, if_neg (fun h => e2 h.2), e]
   ·exact .inr rfl
  ·rw [if_neg (fun h => e h.1), if_neg (fun h => e h.1)]
   exact .inl rfl
 ·exact hp.elim
theorem put_one {sz : Nat} {r : Row} {i o : Nat} {cs : List AV} : (r.put sz i o cs).2.one = r.one := by
 unfold Row.put; split <;> rfl
theorem splice_get (cur : Array Value) (vs : List Value) (b j : Nat) (h : b + vs.length ≤ cur.size) : (cur.toList.take b ++ vs ++ cur.toList.drop (b + vs.length)).toArray[j]? = if b ≤ j ∧ j < b + vs.length then vs[j - b]? else cur[j]? := by
 have h1 : (cur.toList.take b).length = b := by rw [List.length_take]; simp; omega
 rw [List.getElem?_toArray]
 by_cases e1 : j < b
 ·rw [List.append_assoc, List.getElem?_append_left (by omega), List.getElem?_take_of_lt e1, if_neg (by omega)]; simp
 ·by_cases e2 : j < b + vs.length
  ·rw [List.getElem?_append_left (by simp; omega), List.getElem?_append_right (by omega), h1, if_pos (by omega)]
  ·rw [List.getElem?_append_right (by simp; omega), List.getElem?_drop, if_neg (by omega)]
   simp only [List.length_append, h1, Array.getElem?_toList]
   congr 1; omega
theorem splice_size (cur : Array Value) (vs : List Value) (b : Nat) (h : b + vs.length ≤ cur.size) : (cur.toList.take b ++ vs ++ cur.toList.drop (b + vs.length)).toArray.size = cur.size := by
 simp; omega
def spl (cur : Array Value) (b : Nat) (vs : List Value) : Array Value := (cur.toList.take b ++ vs ++ cur.toList.drop (b + vs.length)).toArray
theorem upd_self (M : Mp) (id : Nat) : M.upd id (M.phi id) (M.off id) = M := by
 cases M
 simp only [Mp.upd, Mp.mk.injEq, and_true]
 exact ⟨funext fun j => by by_cases e : j = id <;> simp [e], funext fun j => by by_cases e : j = id <;> simp [e]⟩
theorem store_ok (h : Rel E M H w) {id : Nat} {t : TypeId} {sz : Nat} {r : Row} (hr : rootAt H id = .live false t sz r) {i o : Nat} {cs : List AV} {vs : List Value} (hi : i < r.len) (ho : o + cs.length ≤ sz) (hone : ∀ v ∈ vs, v.oneCell' = true)
  (hl : vs.length = cs.length) (hcs : ∀ j v, vs[j]? = some v → RCon M H w r.isBox (nth cs j) v) (hp : (r.put sz i o cs).1) :
  ∃ w', Rel E M (setRoot H id (.live false t sz (r.put sz i o cs).2)) w' ∧ Kp M H w M (setRoot H id (.live false t sz (r.put sz i o cs).2)) w' ∧
   (storeCells ⟨M.phi id, M.off id + i * sz + o, none⟩ vs 0).run P w = .ok () w' := by
 obtain ⟨cur, h1, h2, h3, h4, h5, h6⟩ := h.row _ _ _ _ _ hr
 obtain ⟨p1, p2, p3⟩ := put_get hp hi ho
 have hfit : M.off id + i * sz + o + vs.length ≤ cur.size := by
  have : (i + 1) * sz ≤ r.len * sz := Nat.mul_le_mul_right _ hi
  rw [Nat.add_mul] at this
  omega
 have hrun := run_storeCells_at P (M.phi id) (M.off id + i * sz + o) t vs 0 cur w h1 (by omega) hone
 simp only [Nat.add_zero] at hrun
 have hg : w.grownBy (w.setRow (M.phi id) (spl cur (M.off id + i * sz + o) vs)) (some (M.phi id)) := ⟨rfl, rfl, rfl, by simp [World.setRow], fun k _ hne => setRow_other w _ _ _ (fun e => hne (by rw [e]))⟩
 have hnew : (w.setRow (M.phi id) (spl cur (M.off id + i * sz + o) vs)).heap[M.phi id]? = some (.cells (spl cur (M.off id + i * sz + o) vs) t (0, 0)) := setRow_heap w _ cur _ t _ h1
 have hid := rootAt_lt hr
 have p : Put E M H (setRoot H id (.live false t sz (r.put sz i o cs).2)) w (w.setRow (M.phi id) (spl cur (M.off id + i * sz + o) vs)) (some (M.phi id)) id (M.phi id) (M.off id) t sz (r.put sz i o cs).2 :=
  ⟨hg, fun j hj => (by rw [rootAt_set, if_neg (fun h => hj h.1)]), (by rw [rootAt_set, if_pos ⟨rfl, hid⟩]), (by rw [setRoot_len]; exact Nat.le_refl _), fun e => (by rw [hr] at e; cases e),
   fun b e => ⟨(Option.some.inj e).symm, t, sz, r, hr⟩, .inl ⟨rfl, t, sz, r, hr⟩, fun fz t2 s2 r2 e => by
    rw [hr] at e
    cases e
    refine .inr ⟨p1.symm, rfl, rfl, rfl, rfl, fun c hc => ⟨_, hnew, ?_⟩⟩
    rw [h1] at hc
    cases hc
    exact splice_size cur vs _ hfit⟩
 have hk := p.kp h
 refine ⟨w.setRow (M.phi id) (spl cur (M.off id + i * sz + o) vs), ?_, by rw [upd_self] at hk; exact hk, hrun⟩
 have hrel := p.rel h ⟨spl cur (M.off id + i * sz + o) vs, hnew, h2, by rw [p1]; unfold spl; rw [splice_size _ _ _ hfit]; exact h3, by unfold spl; rw [splice_size _ _ _ hfit]; exact h4, fun hb => by unfold spl; rw [splice_size _ _ _ hfit]; exact h5 (by rw [← put_one]; exact hb), fun i' hi' o' ho' => ?_⟩
 ·rw [upd_self] at hrel; exact hrel
 ·rw [p1] at hi'
  obtain ⟨v, k1, k2, k3⟩ := h6 i' hi' o' ho'
  have hkr : ∀ {a : AV} {u : Value}, RCon M H w r.isBox a u → RCon (M.upd id (M.phi id) (M.off id)) (setRoot H id (.live false t sz (r.put sz i o cs).2)) (w.setRow (M.phi id) (spl cur (M.off id + i * sz + o) vs)) (r.put sz i o cs).2.isBox a u := fun {a u} c => by
   rw [p2]
   unfold RCon at c ⊢
   split
   ·rename_i hb; rw [if_pos hb] at c; exact hk _ _ c
   ·rename_i hb; rw [if_neg hb] at c; exact c.keep (p.rho h) (fun _ h => h)
  have hj : ∀ u, RCon (M.upd id (M.phi id) (M.off id)) (setRoot H id (.live false t sz (r.put sz i o cs).2)) (w.setRow (M.phi id) (spl cur (M.off id + i * sz + o) vs)) (r.put sz i o cs).2.isBox .junk u := fun u => by
   unfold RCon; split <;> trivial
  by_cases e : i' = i ∧ o ≤ o' ∧ o' < o + cs.length
  ·obtain ⟨rfl, e1, e2⟩ := e
   have hlt : o' - o < vs.length := by omega
   refine ⟨vs[o' - o], ?_, hone _ (List.getElem_mem hlt), ?_⟩
   ·unfold spl
    rw [splice_get _ _ _ _ hfit, if_pos (by omega), show M.off id + i' * sz + o' - (M.off id + i' * sz + o) = o' - o by omega, List.getElem?_eq_getElem hlt]
   ·rcases p3 i' o' hi' ho' with q | q
    ·rw [q, if_pos ⟨rfl, e1, e2⟩]; exact hkr (hcs _ _ (List.getElem?_eq_getElem hlt))
    ·rw [q]; exact hj _
  ·refine ⟨v, ?_, k2, ?_⟩
   ·unfold spl
    rw [splice_get _ _ _ _ hfit, if_neg, k1]
    intro hb
    apply e
    have : i' = i := by
     rcases Nat.lt_trichotomy i' i with hlt | rfl | hlt
     ·have := Nat.mul_le_mul_right sz hlt
      rw [Nat.succ_mul] at this
      omega
     ·rfl
     ·have := Nat.mul_le_mul_right sz hlt
      rw [Nat.succ_mul] at this
      omega
    subst this
    exact ⟨rfl, by omega, by omega⟩
   ·rcases p3 i' o' hi' ho' with q | q
    ·rw [q, if_neg e]; exact hkr k3
    ·rw [q]; exact hj _
end
end Go.Proofs.YtabadfkikdefeaaGreat.Ab
