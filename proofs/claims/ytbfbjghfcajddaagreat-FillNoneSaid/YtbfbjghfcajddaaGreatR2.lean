/- Texts of the proof, joined: Run, Dec, EffB, RunB, Ops, OpE, Le, Exp, RunC, Deep, RunF. -/
import Derived.Laws.Entries
import Derived.Test.YtbfbjghfcajddaaGreatQ3
set_option linter.all false
set_option maxRecDepth 100000
set_option maxHeartbeats 6400000

namespace Go.Proofs.YtbfbjghfcajddaaGreat.Ab
open Go.RowKit
instance (k:IntKind) (n:Int):Decidable (inK k n):=match k with
 | .i8=>inferInstanceAs (Decidable (_ ∧ _))
 | .i16=>inferInstanceAs (Decidable (_ ∧ _))
 | .i32=>inferInstanceAs (Decidable (_ ∧ _))
 | .i64=>inferInstanceAs (Decidable (_ ∧ _))
 | .u8=>inferInstanceAs (Decidable (_ ∧ _))
 | .u16=>inferInstanceAs (Decidable (_ ∧ _))
 | .u32=>inferInstanceAs (Decidable (_ ∧ _))
 | .u64=>inferInstanceAs (Decidable (_ ∧ _))
instance decNo:Decidable no.1:=isFalse id
instance (op:BinOp) (a b:Int):Decidable (ru7 op a b).1:=by
 unfold ru7; split <;> first | exact isTrue trivial | exact decNo
instance (op:BinOp) (k:IntKind) (a b:Int):Decidable (ne7 op k a b).1:=by
 unfold ne7; split <;> infer_instance
instance (op:BinOp) (t:TyK) (x y:RV):Decidable (ip7 op t x y).1:=by
 unfold ip7
 split
 ·infer_instance
 ·split
  ·split <;> first | exact isTrue trivial | exact decNo
  ·exact decNo
 ·exact decNo
instance (op:UnOp) (x:RV):Decidable (unV op x).1:=by
 unfold unV
 split
 ·split <;> first | exact isTrue trivial | exact decNo
 ·split <;> first | infer_instance | exact decNo
 ·exact decNo
instance (a b c:RV):Decidable (xk7 a b c).1:=by
 unfold xk7; split <;> first | exact isTrue trivial | exact decNo | infer_instance
instance (H:List Root) (id st len:Nat):Decidable (vld H id st len):=by
 unfold vld; split <;> infer_instance
instance (H:List Root) (id n:Nat):Decidable (kv7 H id n):=by
 unfold kv7; split <;> infer_instance
instance (H:List Root) (id st len:Nat):Decidable (qo7 H id st len):=by
 unfold qo7; split <;> infer_instance
instance (k:TyK) (H:List Root) (x:RV):Decidable (js7 k H x).1:=by
 unfold js7; repeat' split
 all_goals first | exact decNo | exact isTrue trivial | infer_instance
instance (k:TyK) (H:List Root) (x:RV) (f:Nat):Decidable (wf7 k H x f).1:=by
 unfold wf7; repeat' split
 all_goals first | exact decNo | exact isTrue trivial | infer_instance
instance (ty:Ty) (k:TyK) (H:List Root) (x y:RV):Decidable (fg7 ty k H x y).1:=by
 unfold fg7; repeat' split
 all_goals first | exact decNo | exact isTrue trivial | infer_instance
instance (c:Option CK):Decidable (jv7 c).1:=by
 unfold jv7; split <;> first | exact decNo | exact isTrue trivial
instance (e:TyE) (H:List Root) (x:RV):Decidable (rf7 e H x).1:=by
 unfold rf7; repeat' split
 all_goals first | exact decNo | exact isTrue trivial | infer_instance
instance decNth:∀ (l:List RV) (i:Nat),Decidable (au7 l i).1
 | [],_=>decNo
 | _ :: _,0=>isTrue trivial
 | _ :: l,i + 1=>decNth l i
instance (x:RV) (i:Nat):Decidable (hu7 x i).1:=by
 unfold hu7; repeat' split
 all_goals first | exact decNo | exact isTrue trivial | infer_instance
instance (s k:TyK) (x:RV):Decidable (cl7 s k x).1:=by
 unfold cl7; repeat' split
 all_goals first | exact decNo | exact isTrue trivial | infer_instance
instance (b:Bool) (x y:RV):Decidable (mmV b x y).1:=by
 unfold mmV; repeat' split
 all_goals first | exact decNo | exact isTrue trivial | infer_instance
instance (k:TyK) (x y:RV):Decidable (bs7 k x y).1:=by
 unfold bs7; repeat' split
 all_goals first | exact decNo | exact isTrue trivial | infer_instance
instance (k:TyK) (rd:Operand → Bool × RV) (x:RV) (a b c:Option Operand):Decidable (iv7 k rd x a b c).1:=by
 unfold iv7; repeat' split
 all_goals first | exact decNo | exact isTrue trivial | infer_instance
instance decG (g:Bool):∀ l:List Bool,Decidable (gOk g l)
 | []=>isTrue trivial
 | h :: l => @instDecidableAnd _ _ (inferInstance) (decG g l)
instance decBd (pl:Nat → Nat × Nat) (rd:Operand → Bool × RV):∀ (l:List AV) (ps:List (Nat × Operand)),Decidable (ta7 pl rd l ps).1
 | l,[]=>isTrue trivial
 | l,(i,x) :: ps => @instDecidableAnd _ _ (inferInstance) (decBd pl rd _ ps)
instance (fn:Fn) (a:List Operand) (l:List RV):Decidable (cv7 fn a l).1:=by
 unfold cv7; repeat' split
 ·unfold uv7; split <;> first | exact decNo | exact isTrue trivial
 ·exact decNo
instance (ty:Ty) (H:List Root) (b:Builtin) (ts:List TypeId) (l:List RV):Decidable (ev7 ty H b ts l).1:=by
 unfold ev7; repeat' split
 all_goals first | exact decNo | exact isTrue trivial | infer_instance
instance (ty:Ty) (g:Bool) (rd:Operand → Bool × RV) (H:List Root) (o:Op):Decidable (opV ty g rd H o).1:=by
 unfold opV; repeat' split
 all_goals first | exact decNo | exact isTrue trivial | infer_instance
example:decide (ip7 .add .b (.c (.int .i64 3)) (.c (.int .i64 4))).1 = true:=by decide +kernel
example:(match (if (ip7 .add .b (.c (.int .i64 3)) (.c (.int .i64 4))).1 then (ip7 .add .b (.c (.int .i64 3)) (.c (.int .i64 4))).2 else .c .junk) with | .c (.int _ n)=>n == 7 | _=>false) = true:=by decide +kernel
def frB:List AV → Bool
 | []=>true
 | a :: l=>a.fr && frB l
theorem zn7 {H:List Root}:∀ {l:List AV},frB l = true → lb7 H l ∧ frzH H l = H ∧ qf7 H l = l
 | [],_=>⟨trivial,rfl,rfl⟩
 | a :: l,h=>by
  simp only [frB,Bool.and_eq_true] at h
  obtain ⟨h1,h2⟩:=h
  obtain ⟨g1,g2,g3⟩:=zn7 (H:=H) h2
  cases a <;> first | (cases h1; done) | exact ⟨g1,g2,by simp only [qf7,frz,g3]⟩
instance (k:TyK):Decidable (kN k):=by unfold kN; split <;> first | exact isTrue trivial | exact isFalse id
instance (sz:Nat) (r:Row) (i o:Nat) (cs:List AV):Decidable (r.put sz i o cs).1:=by
 unfold Row.put; split <;> first | exact isTrue trivial | exact isFalse id | infer_instance
def mt7 (e:TyE) (H:List Root) (p v:RV) (K:List Root → Bool):Bool :=
 match p with
 | .c (.ptr id n i o)=>match aa7 H id with
  | .live fz t sz r=>(!fz && decide ((ga7 v).length = e.sz ∧ r.len = n ∧ i < n ∧ o + e.sz ≤ sz ∧ 0 < e.sz ∧ kN e.k)) &&
   (if r.isBox then njL (ga7 v) && K (ba7 H id (.live false t sz (r.put sz i o (ga7 v)).2))
   else frB (ga7 v) && (decide (r.put sz i o (ga7 v)).1 && K (ba7 H id (.live false t sz (r.put sz i o (ga7 v)).2))))
  | .dead=>false
 | _=>false
theorem fq7 {e:TyE} {H:List Root} {p v:RV} {K:List Root → Bool} (h:mt7 e H p v K = true):gv7 e H p v (fun H=>K H = true):=by
 unfold mt7 at h
 split at h
 ·rename_i id n i o
  split at h
  ·rename_i fz t sz r hr
   simp only [Bool.and_eq_true,Bool.not_eq_true',decide_eq_true_eq] at h
   obtain ⟨⟨hf,hc⟩,h⟩:=h
   unfold gv7
   simp only
   unfold ln7
   simp only [hr]
   refine ⟨hf,hc, ?_⟩
   split at h
   ·rename_i hb
    rw [if_pos hb]
    simpa [Bool.and_eq_true] using h
   ·rename_i hb
    rw [if_neg hb]
    simp only [Bool.and_eq_true,decide_eq_true_eq] at h
    obtain ⟨h1,h2,h3⟩:=h
    obtain ⟨g1,g2,g3⟩:=zn7 (H:=H) h1
    rw [g2,g3]
    exact ⟨g1,by rw [hr,hf],h2,h3⟩
  ·cases h
 ·cases h
instance (k:TyK) (els:List (List AV)):Decidable (ad7 k els).1:=by
 unfold ad7; repeat' split
 all_goals first | exact isTrue trivial | exact isFalse id
def kt7 (ty:Ty) (e:TypeId) (H:List Root) (n:Nat) (ok:Bool) (l:List AV) (K:RV → List Root → Bool):Bool :=
 match (ty e).wk with
 | some []=>ok && (njL l && (decide (0 < (ty e).sz ∧ n * (ty e).sz ≤ 16777216) && K (.c (.h H.length 0 n)) (H ++ [.live false e (ty e).sz (.own (chunk (ty e).sz n l))])))
 | none=>ok && (frB l && (decide (ad7 (ty e).k (chunk (ty e).sz n l)).1 && (decide (0 < (ty e).sz ∧ n * (ty e).sz ≤ 16777216) && K (.c (.h H.length 0 n)) (H ++ [.live false e (ty e).sz (ad7 (ty e).k (chunk (ty e).sz n l)).2]))))
 | _=>false
theorem iq7 {ty:Ty} {e:TypeId} {H:List Root} {n:Nat} {q:Prop × List AV} [Decidable q.1] {K:RV → List Root → Bool} (h:kt7 ty e H n (decide q.1) q.2 K = true) :
  ((ty e).wk = none ∧ lw7 ty e H n q (fun r H=>K r H = true)) ∨ ((ty e).wk = some [] ∧ dx7 ty e H n q (fun r H=>K r H = true)):=by
 unfold kt7 at h
 split at h
 ·rename_i hw
  simp only [Bool.and_eq_true,decide_eq_true_eq] at h
  exact .inr ⟨hw,h⟩
 ·rename_i hw
  simp only [Bool.and_eq_true,decide_eq_true_eq] at h
  obtain ⟨h1,h2,h3,h4,h5⟩:=h
  obtain ⟨g1,g2,g3⟩:=zn7 (H:=H) h2
  refine .inl ⟨hw, ?_⟩
  unfold lw7
  rw [g2,g3]
  exact ⟨h1,g1,h3,h4,h5⟩
 ·cases h
instance decFrz (H:List Root):∀ l:List AV,Decidable (lb7 H l)
 | []=>isTrue trivial
 | .h id st len :: l => @instDecidableAnd _ _ inferInstance (decFrz H l)
 | .ptr .. :: _=>isFalse id
 | .junk :: _=>isFalse id
 | .ws .. :: _=>isFalse id
 | .wu .. :: _=>isFalse id
 | .wp .. :: _=>isFalse id
 | .int .. :: l=>decFrz H l
 | .bool .. :: l=>decFrz H l
 | .flt .. :: l=>decFrz H l
 | .str .. :: l=>decFrz H l
 | .nilp :: l=>decFrz H l
 | .nils :: l=>decFrz H l
 | .sl .. :: l=>decFrz H l
 | .rp .. :: l=>decFrz H l
def bv7 (k:TyK) (z:List AV):Bool :=
 match k with
 | .i k=>match z with
  | [.int k' n]=>decide (k = k') && decide (n = 0)
  | _=>false
 | .b=>match z with
  | [.bool b] => !b
  | _=>false
 | .no=>false
 | .str=>decide (lb7 [] z)
 | .sc=>decide (lb7 [] z)
 | .st _=>decide (lb7 [] z)
 | .ar .. => decide (lb7 [] z)
 | .sl _=>decide (lb7 [] z)
theorem hq7 {k:TyK} {z:List AV} (h:bv7 k z = true):zOk k z:=by
 cases k with
 | i k =>
  simp only [bv7] at h
  split at h
  ·simp only [Bool.and_eq_true,decide_eq_true_eq] at h; obtain ⟨rfl,rfl⟩:=h; rfl
  ·cases h
 | b =>
  simp only [bv7] at h
  split at h
  ·simp only [Bool.not_eq_true'] at h; subst h; rfl
  ·cases h
 | no=>cases h
 | _=>exact of_decide_eq_true (p:=lb7 [] z) h
def lm7 (ty:Ty) (k:TyK) (H:List Root) (n c:RV) (K:RV → List Root → Bool):Bool :=
 match k with
 | .sl e=>match n,c with
  | .c (.int _ n), .c (.int _ c)=>(decide (0 ≤ n ∧ n ≤ 1099511627776 ∧ c = n ∧ 0 < (ty e).sz ∧ (ty e).bytes ≤ 128) && bv7 (ty e).k (ty e).zero) && K (.c (.h H.length 0 n.toNat)) (H ++ [.live false e (ty e).sz (cd7 (ty e).wk (ty e).k (ty e).zero n.toNat)])
  | _,_=>false
 | _=>false
theorem gp7 {ty:Ty} {k:TyK} {H:List Root} {n c:RV} {K:RV → List Root → Bool} (h:lm7 ty k H n c K = true):lq7 ty k H n c (fun r H=>K r H = true):=by
 unfold lm7 at h
 split at h
 ·split at h
  ·simp only [Bool.and_eq_true,decide_eq_true_eq] at h
   obtain ⟨⟨⟨h1,h2,h3,h4,h5⟩,h6⟩,h7⟩:=h
   exact ⟨⟨h1,h2,h3,h4,h5,hq7 h6⟩,h7⟩
  ·cases h
 ·cases h
instance (H:List Root) (x:RV):Decidable (ja7 H x).1:=by
 unfold ja7; repeat' split
 all_goals first | exact isFalse id | infer_instance
instance (r s:Row):Decidable (r.app s).1:=by
 unfold Row.app; split <;> first | exact isTrue trivial | exact isFalse id | infer_instance
def vs7 (ty:Ty) (k:TyK) (H:List Root) (s x:RV) (K:RV → List Root → Bool):Bool :=
 match k with
 | .sl e=>(match (ty e).wk with
   | none=>true
   | some []=>true
   | _=>false) && (decide ((ja7 H x).1 ∧ (ja7 H x).2.2 = (ty e).sz ∧ 0 < (ty e).sz ∧ (ty e).bytes ≤ 128) &&
  match s with
  | .c .nils=>decide (0 < (ja7 H x).2.1.len ∧ (ja7 H x).2.1.len ≤ 1099511627776) && K (.c (.h H.length 0 (ja7 H x).2.1.len)) (H ++ [.live false e (ty e).sz (ja7 H x).2.1])
  | .c (.h id st len)=>match aa7 H id with
   | .live fz t sz r=>decide (fz = false ∧ st = 0 ∧ len = r.len ∧ t = e ∧ sz = (ty e).sz ∧ len + (ja7 H x).2.1.len ≤ 1099511627776) && (decide (r.app (ja7 H x).2.1).1 && K (.c (.h id 0 (len + (ja7 H x).2.1.len))) (ba7 H id (.live false t sz (r.app (ja7 H x).2.1).2)))
   | .dead=>false
  | _=>false)
 | _=>false
theorem pr7 {ty:Ty} {k:TyK} {H:List Root} {s x:RV} {K:RV → List Root → Bool} (h:vs7 ty k H s x K = true):dv7 ty k H s x (fun r H=>K r H = true):=by
 unfold vs7 at h
 split at h
 ·rename_i e
  simp only [Bool.and_eq_true,decide_eq_true_eq] at h
  obtain ⟨hw,⟨h1,h2,h3,h4⟩,h⟩:=h
  have hv:zr7 ty (.sl e) H s x (fun r H=>K r H = true):=by
   unfold zr7
   refine ⟨h1,h2,h3,h4, ?_⟩
   split at h
   ·simpa [Bool.and_eq_true] using h
   ·split at h
    ·rename_i hr
     simp only [hr]
     simpa [Bool.and_eq_true] using h
    ·cases h
   ·cases h
  unfold dv7
  simp only
  split
  ·exact hv
  ·exact hv
  ·rename_i hk; rw [hk] at hw; cases hw
 ·cases h
abbrev bd7:=Pu → FuncId → List RV → List Root → (RV → List Root → Bool) → Bool
section
variable (ty:Ty) (call:bd7)
def go7 (pu:Pu) (tm:Tm) (rd:Operand → Bool × RV) (H:List Root) (o:Oper) (K:AS → Bool):Bool :=
 match o.op with
 | .box t x=>decide ((ga7 (rd x).2).length = (ty t).sz ∧ 0 < (ty t).sz ∧ njL (ga7 (rd x).2) = true) && K ⟨dc7 tm true o.dst (.c (.ptr H.length 1 0 0)),H ++ [.live false t (ty t).sz (.box (ga7 (rd x).2))]⟩
 | .alloc t=>decide (0 < (ty t).sz ∧ kN (ty t).k) && K ⟨dc7 tm true o.dst (.c (.ptr H.length 1 0 0)),H ++ [.live false t (ty t).sz (.box (ty t).zero)]⟩
 | .store t p v=>pu.isNone && mt7 (ty t) H (rd p).2 (rd v).2 (fun H=>K ⟨dc7 tm true o.dst (.c .junk),H⟩)
 | .buildSlice t n ps=>match (ty t).k with
  | .sl e=>kt7 ty e H n (decide (ta7 (fun i=>(i * (ty e).sz,(ty e).sz)) rd (rep (ty e).zero n) ps.toList).1) (ta7 (fun i=>(i * (ty e).sz,(ty e).sz)) rd (rep (ty e).zero n) ps.toList).2 (fun r H=>K ⟨dc7 tm true o.dst r,H⟩)
  | _=>false
 | .makeSlice t n c=>lm7 ty (ty t).k H (rd n).2 (rd c).2 (fun r H=>K ⟨dc7 tm true o.dst r,H⟩)
 | .call c=>match c.callee with
  | .builtin .append=>match c.args.toList with
   | [s,x]=>pu.isNone && (decide (c.argTypes.toList = [c.argTypes.getD 0 0,c.argTypes.getD 0 0]) && vs7 ty (ty (c.argTypes.getD 0 0)).k H (rd s).2 (rd x).2 (fun r H=>K ⟨dc7 tm true o.dst r,H⟩))
   | _=>false
  | .value f=>match (rd f).2 with
   | .fn f caps=>call pu f (rds rd c.args.toList ++ caps.map .c) H (fun r H=>K ⟨dc7 tm true o.dst r,H⟩)
   | _=>false
  | _=>false
 | _=>false
end
section
variable {P:Program} {ty:Ty} {call:bd7} {pu:Pu} {tm:Tm} {rd:Operand → Bool × RV} {H:List Root} {o:Oper} {K:AS → Bool}
theorem ar7 (hcall:∀ pu f args H K,call pu f args H K = true → ab7 P pu f args H (fun r H=>K r H = true)) (h:go7 ty call pu tm rd H o K = true):eff P ty pu tm rd H o (fun σ=>K σ = true):=by
 have hpu:pu.isNone = true → pu = none:=fun h=>by cases pu <;> first | rfl | cases h
 obtain ⟨d,op,ot,po,af,gd⟩:=o
 cases op with
 | box t x =>
  dsimp only [go7] at h
  simp only [Bool.and_eq_true,decide_eq_true_eq] at h
  exact h
 | alloc t =>
  dsimp only [go7] at h
  simp only [Bool.and_eq_true,decide_eq_true_eq] at h
  exact h
 | store t p v =>
  dsimp only [go7] at h
  simp only [Bool.and_eq_true] at h
  obtain ⟨h1,h2⟩:=h
  cases hpu h1
  exact ⟨trivial,fq7 h2⟩
 | buildSlice t n ps =>
  dsimp only [go7] at h
  dsimp only [eff]
  split at h
  ·rename_i hk
   simp only [hk]
   rcases iq7 h with ⟨hw,h⟩ | ⟨hw,h⟩
   ·simp only [hw]; exact h
   ·simp only [hw]; exact h
  ·cases h
 | makeSlice t n c =>
  dsimp only [go7] at h
  exact gp7 h
 | call c =>
  dsimp only [go7] at h
  dsimp only [eff]
  split at h
  ·rename_i hc
   split at h
   ·rename_i hargs
    simp only [Bool.and_eq_true,decide_eq_true_eq] at h
    obtain ⟨h1,h2,h3⟩:=h
    cases hpu h1
    simp only [hc,hargs]
    exact ⟨trivial,h2,pr7 h3⟩
   ·cases h
  ·rename_i hc
   split at h
   ·rename_i hf
    simp only [hc,hf]
    exact hcall _ _ _ _ _ h
   ·cases h
  ·cases h
 | _=>cases h
end
section
variable (ty:Ty) (call:bd7)
def opB (pu:Pu) (ops:Array Oper) (σ:AS) (o:Oper) (K:AS → Bool):Bool :=
 match guardOf σ.tm ops o.guard with
 | none=>false
 | some g=>decide (gOk g (pl7 σ.rd o.op)) &&
  (if isV o.op then (!g || decide (opV ty g σ.rd σ.H o.op).1) && K ⟨dc7 σ.tm g o.dst (opV ty g σ.rd σ.H o.op).2,σ.H⟩
  else if g then go7 ty call pu σ.tm σ.rd σ.H o K else K ⟨dc7 σ.tm g o.dst (.c .junk),σ.H⟩)
end
section
variable {P:Program} {ty:Ty} {call:bd7} {pu:Pu} {ops:Array Oper}
theorem gh7 (hcall:∀ pu f args H K,call pu f args H K = true → ab7 P pu f args H (fun r H=>K r H = true)) {σ:AS} {o:Oper} {K:AS → Bool} (h:opB ty call pu ops σ o K = true):fs7 P ty pu none ops σ o (fun σ=>K σ = true):=by
 unfold opB at h
 unfold fs7
 split at h
 ·cases h
 ·rename_i g hg
  simp only [Bool.and_eq_true,decide_eq_true_eq] at h
  obtain ⟨h1,h2⟩:=h
  split at h2
  ·rename_i hv
   rw [if_pos hv]
   unfold fo7
   simp only [hg]
   simp only [Bool.and_eq_true,Bool.or_eq_true,Bool.not_eq_true',decide_eq_true_eq] at h2
   exact ⟨h1,trivial,fun e=>by rcases h2.1 with q | q <;> simp_all,h2.2⟩
  ·rename_i hv
   rw [if_neg hv]
   refine ⟨trivial, ?_⟩
   unfold nw7
   simp only [hg]
   refine ⟨h1,fun e => ?_,fun e => ?_⟩
   ·subst e; exact ar7 hcall h2
   ·subst e; exact h2
theorem wk7 {f:FuncId} {args:List RV} {H:List Root} {K K':RV → List Root → Prop} (hK:∀ r H,K r H → K' r H) (h:ab7 P pu f args H K):ab7 P pu f args H K' :=
 ⟨h.1,fun E M w vs hr hc=>(h.2 E M w vs hr hc).mono fun e w' ⟨M',H',r,v,e1,e2,e3,e4,e5,e6,e7⟩=>⟨M',H',r,v,e1,e2,e3,e4,e5,e6,hK _ _ e7⟩⟩
end
section
variable (P:Program) (ty:Ty)
def nv7 (op:BinOp):RV → RV → Option RV
 | .c (.int k a), .c (.int k' b)=>match op with
  | .shl=>if 0 ≤ b then some (.c (.int k (k.wrap (a * 2 ^ min b.toNat k.bits)))) else none
  | .shr=>if 0 ≤ b then some (.c (.int k (a.fdiv (2 ^ min b.toNat k.bits)))) else none
  | .and=>if k = k' then some (.c (.int k (k.wrap (BitVec.ofInt k.bits a &&& BitVec.ofInt k.bits b).toNat))) else none
  | .or=>if k = k' then some (.c (.int k (k.wrap (BitVec.ofInt k.bits a ||| BitVec.ofInt k.bits b).toNat))) else none
  | .andNot=>if k = k' then some (.c (.int k (k.wrap (BitVec.ofInt k.bits a &&& ~~~BitVec.ofInt k.bits b).toNat))) else none
  | _=>none
 | _,_=>none
def wt7 (H:List Root) (t:TypeId):RV → RV → Option Bool
 | .c (.ptr id n _ _), .c .nilp=>match P.underlying t,aa7 H id with
  | some (.pointer _), .live _ _ _ r=>if r.len = n then some false else none
  | _,_=>none
 | .c .nilp, .c .nilp=>match P.underlying t with
  | some (.pointer _)=>some true
  | _=>none
 | .c .nils, .c .nils=>match P.underlying t with
  | some (.slice _)=>some true
  | _=>none
 | .c (.h id st n), .c .nils=>match P.underlying t,aa7 H id with
  | some (.slice _), .live _ _ _ r=>if st + n = r.len then some false else none
  | _,_=>none
 | _,_=>none
def sw7 (H:List Root) (op:BinOp) (t:TypeId) (p q:RV):Option RV :=
 match op with
 | .eql=>(wt7 P H t p q).map fun b => .c (.bool b)
 | .neq=>(wt7 P H t p q).map fun b => .c (.bool (!b))
 | _=>none
def ww7 (k:TyK) (H:List Root):RV → RV → Option RV
 | .c .nils, .c (.int _ m)=>match k with
  | .sl _=>if m = 0 then some (.c .nils) else none
  | _=>none
 | .c (.sl n sz f), .c (.int _ m)=>match k with
  | .sl e=>if 0 ≤ m ∧ m < n ∧ sz = (ty e).sz then some (.c (.sl (n - m.toNat) sz fun i j=>f (i + m.toNat) j)) else none
  | _=>none
 | .c (.h id st n), .c (.int _ m)=>match k with
  | .sl e=>match aa7 H id with
   | .live _ _ sz r=>if 0 ≤ m ∧ m ≤ n ∧ st + n = r.len ∧ sz = (ty e).sz then some (if m < n then .c (.h id (st + m.toNat) (n - m.toNat)) else .c .junk) else none
   | .dead=>none
  | _=>none
 | _,_=>none
def bw7 (t:TypeId):RV → RV → Option RV
 | .agg l, .c (.int _ i)=>match P.underlying t with
  | some (.array n e)=>match P.underlying e with
   | some (.struct _)=>none
   | some (.array _ _)=>none
   | some _=>if 0 ≤ i ∧ i < n ∧ i.toNat * P.cellsOf e < l.length ∧ (P.info? e).isSome = true then some (.c (nth l (i.toNat * P.cellsOf e))) else none
   | none=>none
  | _=>none
 | _,_=>none
def rdO (rd:Operand → Bool × RV) (x:Operand):Option RV :=
 match rd x with
 | (true,v)=>some v
 | _=>none
def mv7 (t:TypeId):Bool :=
 match P.underlying t with
 | some (.interface _)=>false
 | some _=>true
 | none=>false
def vw7 (rd:Operand → Bool × RV) (H:List Root):Op → Option RV
 | .nilCheck x=>match rdO rd x with
  | some (.c (.ptr id n i o))=>match aa7 H id with
   | .live _ _ _ r=>if r.len = n then some (.c (.ptr id n i o)) else none
   | .dead=>none
  | some (.c (.rp n f))=>some (.c (.rp n f))
  | _=>none
 | .makeInterface t x=>(rdO rd x).bind fun v=>if mv7 P t then some (.ifc t v) else none
 | .typeAssert x _ tt ok=>match rdO rd x with
  | some (.ifc t v)=>if t = tt ∧ ok = false ∧ mv7 P tt = true then some v else none
  | _=>none
 | .binOp op t x y _=>(rdO rd x).bind fun p=>(rdO rd y).bind fun q=>match nv7 op p q with
  | some r=>some r
  | none=>sw7 P H op t p q
 | .slice t x (some lo) none none=>(rdO rd x).bind fun p=>(rdO rd lo).bind fun q=>ww7 ty (ty t).k H p q
 | .index t x i=>(rdO rd x).bind fun p=>(rdO rd i).bind fun q=>bw7 P t p q
 | .build t ps=>match (ty t).k with
  | .ar _ esz=>if gOk true (pgs rd ps.toList) ∧ (ta7 (fun i=>(i * esz,esz)) rd (ty t).zero ps.toList).1 then some (.agg (ta7 (fun i=>(i * esz,esz)) rd (ty t).zero ps.toList).2) else none
  | _=>none
 | _=>none
end
section
variable {P:Program} {ty:Ty} {E:Env} {nt:Nat} {M:Mp} {σ:AS} {a:Act} {w:World}
theorem vb7 (h:St E nt M σ a w) {x:Operand} {v:RV} (hx:rdO σ.rd x = some v):ha7 M σ.H w v (a.eval x):=by
 unfold rdO at hx
 split at hx
 ·rename_i u e
  cases hx
  have:=h.rd (x:=x) (by rw [e])
  rw [e] at this
  exact this
 ·cases hx
theorem ws7 (op:BinOp) (t:TypeId) {p q r:RV} {u v:Value} (hp:ha7 M σ.H w p u) (hq:ha7 M σ.H w q v) (h:nv7 op p q = some r) (x y:Operand):∃ z,ha7 M σ.H w r z ∧ (do eqGuard op t x y u v; binOp op t u v).run P w = .ok z w:=by
 unfold nv7 at h
 split at h
 ·rename_i k m k' n
  obtain rfl:=ma7 hp
  obtain rfl:=ma7 hq
  rw [Sem.run_bind,ze7]
  split at h
  ·split at h <;> cases h
   rename_i h0
   exact ⟨_,rfl,by simp [Result.andThen,binOp,Op.shift,Int.not_lt.2 h0]⟩
  ·split at h <;> cases h
   rename_i h0
   exact ⟨_,rfl,by simp [Result.andThen,binOp,Op.shift,Int.not_lt.2 h0]⟩
  ·split at h <;> cases h
   rename_i h0
   subst h0
   exact ⟨_,rfl,by simp [Result.andThen,binOp,Op.intBits]⟩
  ·split at h <;> cases h
   rename_i h0
   subst h0
   exact ⟨_,rfl,by simp [Result.andThen,binOp,Op.intBits]⟩
  ·split at h <;> cases h
   rename_i h0
   subst h0
   exact ⟨_,rfl,by simp [Result.andThen,binOp,Op.intBits]⟩
  ·cases h
 ·cases h
theorem dr7 {t:TypeId} {u v:Value} {b:Bool} (h:(Op.equalIn Op.maxDepth t u v).run P w = .ok b w) (hu:∀ k n,u ≠ .int k n) (h1:∀ k n,u ≠ .float k n) (h2:∀ k m n,u ≠ .complex k m n) (h3:∀ s,u ≠ .string s) :
  (binOp .eql t u v).run P w = .ok (.bool b) w ∧ (binOp .neq t u v).run P w = .ok (.bool (!b)) w:=by
 have e1:binOp .eql t u v = (do pure (.bool (← Op.equal t u v))):=by
  cases u <;> first | rfl | (exfalso; first | exact hu _ _ rfl | exact h1 _ _ rfl | exact h2 _ _ _ rfl | exact h3 _ rfl)
 have e2:binOp .neq t u v = (do pure (.bool (!(← Op.equal t u v)))):=by
  cases u <;> first | rfl | (exfalso; first | exact hu _ _ rfl | exact h1 _ _ rfl | exact h2 _ _ _ rfl | exact h3 _ rfl)
 rw [e1,e2]
 constructor
 ·rw [Sem.run_bind,show (Op.equal t u v).run P w = .ok b w from h]; rfl
 ·rw [Sem.run_bind,show (Op.equal t u v).run P w = .ok b w from h]; rfl
theorem vt7 {t:TypeId} {p q:RV} {u v:Value} {b:Bool} (hp:ha7 M σ.H w p u) (hq:ha7 M σ.H w q v) (h:wt7 P σ.H t p q = some b) (d:Nat) :
  (Op.equalIn (d + 1) t u v).run P w = .ok b w ∧ ((∃ x,u = .pointer x) ∨ ∃ x n c,u = .slice x n c) ∧ ((∃ x,v = .pointer x) ∨ ∃ x n c,v = .slice x n c):=by
 unfold wt7 at h
 split at h
 ·rename_i id n i o
  have hv:v = .pointer none:=hq
  subst hv
  split at h
  ·rename_i e fz t2 sz r hu hr
   split at h <;> cases h
   rename_i hl
   have:=(hp.2 _ _ _ _ hr).2 hl
   subst this
   exact ⟨by simp [Op.equalIn,run_underlying hu], .inl ⟨_,rfl⟩, .inl ⟨_,rfl⟩⟩
  ·cases h
 ·have hv:v = .pointer none:=hq
  have hu0:u = .pointer none:=hp
  subst hv hu0
  split at h <;> cases h
  rename_i e hu
  exact ⟨by simp [Op.equalIn,run_underlying hu], .inl ⟨_,rfl⟩, .inl ⟨_,rfl⟩⟩
 ·have hv:v = .slice none 0 0:=hq
  have hu0:u = .slice none 0 0:=hp
  subst hv hu0
  split at h <;> cases h
  rename_i e hu
  exact ⟨by simp [Op.equalIn,run_underlying hu], .inr ⟨_,_,_,rfl⟩, .inr ⟨_,_,_,rfl⟩⟩
 ·rename_i id st n
  have hv:v = .slice none 0 0:=hq
  subst hv
  split at h
  ·rename_i e fz t2 sz r hu hr
   split at h <;> cases h
   rename_i hl
   obtain ⟨cap,cur,rfl, -⟩:=(hp.2 _ _ _ _ hr).2 hl
   exact ⟨by simp [Op.equalIn,run_underlying hu], .inr ⟨_,_,_,rfl⟩, .inr ⟨_,_,_,rfl⟩⟩
  ·cases h
 ·cases h
theorem ps7 (op:BinOp) (t:TypeId) {p q r:RV} {u v:Value} (hp:ha7 M σ.H w p u) (hq:ha7 M σ.H w q v) (h:sw7 P σ.H op t p q = some r) (x y:Operand):∃ z,ha7 M σ.H w r z ∧ (do eqGuard op t x y u v; binOp op t u v).run P w = .ok z w:=by
 unfold sw7 at h
 have key:∀ b,wt7 P σ.H t p q = some b → ∀ op,(eqGuard op t x y u v).run P w = .ok () w ∧ (binOp .eql t u v).run P w = .ok (.bool b) w ∧ (binOp .neq t u v).run P w = .ok (.bool (!b)) w:=fun b hb op=>by
  obtain ⟨k1,k2,k3⟩:=vt7 hp hq hb 9999
  refine ⟨?_, ?_⟩
  ·rcases k2 with ⟨x,rfl⟩ | ⟨x,n,c,rfl⟩ <;> rcases k3 with ⟨y,rfl⟩ | ⟨y,m,d,rfl⟩ <;> cases op <;> rfl
  ·rcases k2 with ⟨x,rfl⟩ | ⟨x,n,c,rfl⟩ <;> exact dr7 k1 (fun _ _ e=>by cases e) (fun _ _ e=>by cases e) (fun _ _ _ e=>by cases e) (fun _ e=>by cases e)
 split at h
 ·obtain ⟨b,hb,rfl⟩:=Option.map_eq_some_iff.1 h
  refine ⟨.bool b,rfl, ?_⟩
  rw [Sem.run_bind,(key b hb _).1]; exact (key b hb .eql).2.1
 ·obtain ⟨b,hb,rfl⟩:=Option.map_eq_some_iff.1 h
  refine ⟨.bool (!b),rfl, ?_⟩
  rw [Sem.run_bind,(key b hb _).1]; exact (key b hb .neq).2.2
 ·cases h
theorem wq7 (hT:ob7 P ty) (t:TypeId) {p q r:RV} {u v:Value} (hp:ha7 M σ.H w p u) (hq:ha7 M σ.H w q v) (h:ww7 ty (ty t).k σ.H p q = some r):∃ z,ha7 M σ.H w r z ∧ (Instr.sliceAt t u (some v) none none).run P w = .ok z w:=by
 unfold ww7 at h
 split at h
 ·rename_i k m
  obtain rfl:=ma7 hq
  split at h
  ·rename_i e hk
   split at h <;> cases h
   rename_i h0
   subst h0
   obtain ⟨hu,hke⟩:P.underlying t = some (.slice e) ∧ _:=na7 hT hk
   have hel:P.elem t = e:=by simp [Program.elem,hu]
   have hp:u = .slice none 0 0:=hp
   subst hp
   refine ⟨.slice none 0 0,rfl, ?_⟩
   rw [run_sliceAt_slice w t _ _ _ _ (by rw [hel]; exact hu),run_slice_l w t none 0 0 (by rw [hel]; exact hu) k 0 (Int.le_refl _) (Int.le_refl _),hel,ya7 hT hke]
   rfl
  ·cases h
 ·rename_i n sz f k m
  obtain rfl:=ma7 hq
  split at h
  ·rename_i e hk
   split at h <;> cases h
   rename_i h0
   obtain ⟨h1,h2,rfl⟩:=h0
   obtain ⟨hu,hke⟩:P.underlying t = some (.slice e) ∧ _:=na7 hT hk
   have hel:P.elem t = e:=by simp [Program.elem,hu]
   obtain ⟨a,b,off,c,rfl,k1,k2,k3,k4⟩:=hp
   obtain ⟨rfl,hr⟩:=k3 (by omega)
   refine ⟨sliced (some ⟨b,off,none⟩) m.toNat n c (ty e).sz, ?_, ?_⟩
   ·refine ⟨some ⟨b,off + m.toNat * (ty e).sz,none⟩,b,off + m.toNat * (ty e).sz,c - m.toNat, ?_,by omega,by omega,fun _=>⟨rfl,hr⟩,fun i hi j hj => ?_⟩
    ·simp only [sliced]
     rw [if_neg (by omega)]
     simp [addr_add]
    ·have:=k4 (i + m.toNat) (by omega) j hj
     rw [show off + m.toNat * (ty e).sz + i * (ty e).sz + j = off + (i + m.toNat) * (ty e).sz + j by rw [Nat.add_mul]; omega]
     exact this
   ·rw [run_sliceAt_slice w t _ _ _ _ (by rw [hel]; exact hu),run_slice_l w t _ n c (by rw [hel]; exact hu) k m h1 (by omega),hel,ya7 hT hke]
    rfl
  ·cases h
 ·rename_i id st n k m
  obtain rfl:=ma7 hq
  split at h
  ·rename_i e hk
   split at h
   ·rename_i fz t2 sz r hr
    split at h <;> cases h
    rename_i h0
    obtain ⟨h1,h2,h3,rfl⟩:=h0
    obtain ⟨hu,hke⟩:P.underlying t = some (.slice e) ∧ _:=na7 hT hk
    have hel:P.elem t = e:=by simp [Program.elem,hu]
    obtain ⟨cap,cur,rfl,k1,k2,k3,k4⟩:=(hp.2 _ _ _ _ hr).2 h3
    refine ⟨sliced (some ⟨M.phi id,st * (ty e).sz,none⟩) m.toNat n cap (ty e).sz, ?_, ?_⟩
    ·split
     ·rename_i hlt
      refine ⟨⟨hp.1.1,rfl⟩,fun fz2 ty2 sz2 r2 hr2 => ?_⟩
      rw [hr] at hr2
      cases hr2
      refine ⟨by omega,fun _=>⟨cap - m.toNat,cur, ?_,by omega,by omega,k3, ?_⟩⟩
      ·simp only [sliced]
       rw [if_neg (by omega)]
       simp [addr_add,Nat.add_mul]
      ·rw [show st + m.toNat + (cap - m.toNat) = st + cap by omega]; exact k4
     ·trivial
    ·rw [run_sliceAt_slice w t _ _ _ _ (by rw [hel]; exact hu),run_slice_l w t _ n cap (by rw [hel]; exact hu) k m h1 h2,hel,ya7 hT hke]
     rfl
   ·cases h
  ·cases h
 ·cases h
theorem rt7 (t:TypeId) {p q r:RV} {u v:Value} (hp:ha7 M σ.H w p u) (hq:ha7 M σ.H w q v) (h:bw7 P t p q = some r):∃ z,ha7 M σ.H w r z ∧ (Instr.index t u v).run P w = .ok z w:=by
 unfold bw7 at h
 split at h
 ·rename_i l k i
  obtain rfl:=ma7 hq
  obtain ⟨vs,rfl,hc⟩:=hp
  split at h
  ·rename_i n e hu
   have key:∀ d,P.underlying e = some d → (match d with | .struct _ | .array _ _=>False | _=>True) → (if 0 ≤ i ∧ i < n ∧ i.toNat * P.cellsOf e < l.length ∧ (P.info? e).isSome = true then some (RV.c (nth l (i.toNat * P.cellsOf e))) else none) = some r → ∃ z,ha7 M σ.H w r z ∧ (Instr.index t (.agg vs.toArray) (.int k i)).run P w = .ok z w:=fun d hd hk h=>by
    split at h <;> cases h
    rename_i h0
    obtain ⟨h1,h2,h3,h4⟩:=h0
    have hl:=hc.len
    obtain ⟨z,hz⟩:∃ z,vs[i.toNat * P.cellsOf e]? = some z:=⟨_,List.getElem?_eq_getElem (by omega)⟩
    refine ⟨z,hc.get _ _ hz, ?_⟩
    obtain ⟨inf,hinf⟩:=Option.isSome_iff_exists.1 h4
    have hs:(sizeOf e).run P w = .ok (P.cellsOf e) w:=by simp [sizeOf,typeInfo,hinf,Program.cellsOf]
    have ha:(isAgg e).run P w = .ok false w:=by
     simp only [isAgg,Sem.run_bind,run_underlying hd,Result.andThen]
     cases d <;> first | exact hk.elim | rfl
    simp [Instr.index,asIntOf,run_underlying hu,h1,h2,hs,part,ha,hz]
   split at h
   ·cases h
   ·cases h
   ·rename_i d n1 n2 hd
    exact key d hd (by cases d <;> first | trivial | exact n1 _ rfl | exact n2 _ _ rfl) h
   ·cases h
  ·cases h
 ·cases h
theorem ul7 {t:TypeId} (h:mv7 P t = true):∃ d,P.underlying t = some d ∧ (match d with | .interface _=>False | _=>True):=by
 unfold mv7 at h
 split at h
 ·cases h
 ·rename_i d n hd
  refine ⟨d,hd, ?_⟩
  cases d <;> first | trivial | exact n _ rfl
 ·cases h
theorem br7 (hT:ob7 P ty) (h:St E nt M σ a w) {o:Oper} {r:RV} (ho:vw7 P ty σ.rd σ.H o.op = some r):∃ v,ha7 M σ.H w r v ∧ (execOp a.eval o).run P w = .ok (.value v) w:=by
 obtain ⟨dst,op,type,pos,after,guard⟩:=o
 cases op <;> simp only [vw7] at ho
 case nilCheck x =>
  split at ho
  ·rename_i id n i o hx
   have hc:=vb7 h hx
   split at ho
   ·rename_i fz t sz r hr
    split at ho <;> cases ho
    rename_i hl
    have hv:=(hc.2 _ _ _ _ hr).2 hl
    exact ⟨_,hc,by rw [hv]; simp [execOp,hv]⟩
   ·cases ho
  ·rename_i n f hx
   have hc:=vb7 h hx
   cases ho
   obtain ⟨b,off,hv, -⟩:=id hc
   exact ⟨_,hc,by rw [hv]; simp [execOp,hv]⟩
  ·cases ho
 case makeInterface t x =>
  obtain ⟨v,hv,ho⟩:=Option.bind_eq_some_iff.1 ho
  split at ho <;> cases ho
  rename_i ht
  obtain ⟨d,hd,hk⟩:=ul7 ht
  refine ⟨.iface t (a.eval x),⟨_,rfl,vb7 h hv⟩,la7 (x:=Instr.makeInterface t (a.eval x)) ?_⟩
  simp only [Instr.makeInterface,Sem.run_bind,run_underlying hd,Result.andThen]
  cases d <;> first | exact hk.elim | rfl
 case typeAssert x xt tt ok =>
  split at ho
  ·rename_i t v hx
   split at ho <;> cases ho
   rename_i h0
   obtain ⟨rfl,rfl,ht⟩:=h0
   obtain ⟨u,hu,hc⟩:=vb7 h hx
   obtain ⟨d,hd,hk⟩:=ul7 ht
   refine ⟨u,hc,la7 (x:=Instr.typeAssert (a.eval x) xt t false) ?_⟩
   rw [hu]
   simp only [Instr.typeAssert,Sem.run_bind,run_underlying hd,Result.andThen]
   cases d <;> first | exact hk.elim | simp
  ·cases ho
 case binOp op t x y yt =>
  obtain ⟨p,hp,ho⟩:=Option.bind_eq_some_iff.1 ho
  obtain ⟨q,hq,ho⟩:=Option.bind_eq_some_iff.1 ho
  have hp:=vb7 h hp
  have hq:=vb7 h hq
  split at ho
  ·rename_i r' hb
   cases ho
   obtain ⟨z,h1,h2⟩:=ws7 (P:=P) op t hp hq hb x y
   exact ⟨z,h1,la7 h2⟩
  ·obtain ⟨z,h1,h2⟩:=ps7 op t hp hq ho x y
   exact ⟨z,h1,la7 h2⟩
 case slice t x lo hi mx =>
  cases lo with
  | none=>cases ho
  | some lo =>
   cases hi with
   | some _=>cases ho
   | none =>
    cases mx with
    | some _=>cases ho
    | none =>
     simp only at ho
     obtain ⟨p,hp,ho⟩:=Option.bind_eq_some_iff.1 ho
     obtain ⟨q,hq,ho⟩:=Option.bind_eq_some_iff.1 ho
     obtain ⟨z,h1,h2⟩:=wq7 hT t (vb7 h hp) (vb7 h hq) ho
     exact ⟨z,h1,la7 (x:=Instr.sliceAt t (a.eval x) (some (a.eval lo)) none none) h2⟩
 case index t x i =>
  obtain ⟨p,hp,ho⟩:=Option.bind_eq_some_iff.1 ho
  obtain ⟨q,hq,ho⟩:=Option.bind_eq_some_iff.1 ho
  obtain ⟨z,h1,h2⟩:=rt7 t (vb7 h hp) (vb7 h hq) ho
  exact ⟨z,h1,la7 (x:=Instr.index t (a.eval x) (a.eval i)) h2⟩
 case build t ps =>
  split at ho
  ·rename_i n esz hk
   split at ho <;> cases ho
   rename_i h0
   obtain ⟨hg,hb⟩:=h0
   obtain ⟨e,hu,he,hi⟩:∃ e,P.underlying t = some (.array n e) ∧ P.cellsOf e = esz ∧ (P.info? e).isSome = true:=na7 hT hk
   obtain ⟨i,z,hi2,hz, -, -, -, -,hzc⟩:=mb7 (M:=M) (σ:=σ) (w:=w) (P:=P) hT (t:=t) (by rw [hk]; trivial)
   obtain ⟨out,h1,h2⟩:=zg7 (M:=M) (σ:=σ) (w:=w) (a:=a) (fun i=>(i * esz,esz)) (fun i=>some (i * esz,esz)) (fun _ _=>rfl) ps.toList (ty t).zero z.cells (fun x _ hx=>h.rd hx) hg hzc hb
   refine ⟨.agg out,⟨out.toList,by simp,h2⟩,la7 (x:=Instr.build t (ps.map fun (i,x)=>(i,a.eval x))) (run_build w t _ out ?_)⟩
   obtain ⟨inf,hinf⟩:=Option.isSome_iff_exists.1 hi
   unfold Program.built
   simp only [hi2,hu,hz,hinf]
   have hsz:inf.size = esz:=by rw [← he]; simp [Program.cellsOf,hinf]
   rw [← h1]
   simp [hsz]
  ·cases ho
 all_goals cases ho
end
def wu7 (P:Program) (t:TypeId) (nm:String):Option (FuncId × Option TypeId) :=
 match P.info? t with
 | some i=>match i.methods.find? (fun m=>m.name == nm) with
  | some m=>match m.path with
   | ⟨[]⟩=>match m.func,P.underlying t with
    | some (f,true),some (.pointer _)=>some (f,none)
    | some (f,false),some (.pointer e)=>some (f,some e)
    | _,_=>none
   | _=>none
  | none=>none
 | none=>none
def ex7 (P:Program) (ad:Addr) (w:World) (u:Value):Option TypeId → Prop
 | none=>u = .pointer (some ad)
 | some e=>(loadVar e ad).run P w = .ok u w
theorem mx7 (x:Value) (y:Array Value):(#[x] ++ y).extract 1 (#[x] ++ y).size = y:=by
 obtain ⟨l⟩:=y
 apply Array.toList_inj.1
 simp [List.extract_eq_drop_take]
theorem vo7 {P:Program} (ts:Array TypeId) (t:TypeId) (ad:Addr) (s m:ByteArray) (w:World):(Builtin.ssaWrapNilChk_ ts t #[.pointer (some ad), .string s, .string m]).run P w = .ok (.pointer (some ad)) w:=rfl
theorem gt7 {P:Program} {t:TypeId} {nm:String} {f:FuncId} {e:Option TypeId} (h:wu7 P t nm = some (f,e)) (n:Nat) (ad:Addr) (w:World) {u:Value} (hu:ex7 P ad w u e) :
  (method (n + 1) t (.pointer (some ad)) nm).run P w = .ok (f,u) w:=by
 unfold wu7 at h
 split at h
 case h_2=>cases h
 rename_i i hi
 split at h
 case h_2=>cases h
 rename_i m hm
 split at h
 case h_2=>cases h
 rename_i hp
 have hti:(typeInfo t).run P w = .ok i w:=by simp [typeInfo,hi]
 split at h
 ·rename_i f' e' hf ht
  cases h
  obtain rfl:u = .pointer (some ad):=hu
  simp [method,hti,hm,hp,hf,follow,receiverAt,run_underlying ht,Place.get]
 ·rename_i f' e' hf ht
  cases h
  have hu:(loadVar e' ad).run P w = .ok u w:=hu
  simp [method,hti,hm,hp,hf,follow,receiverAt,run_underlying ht,Place.get,vo7,strVal,asAddr,hu]
 ·cases h
def Row.takeR (n:Nat):Row → Row
 | .box l => .box l
 | .ints k l => .ints k (l.take n)
 | .bools l => .bools (l.take n)
 | .gen l => .gen (l.take n)
 | .own l => .own (l.take n)
theorem lh7 {r:Row} (hb:r.one = false) {n:Nat} (hn:n ≤ r.len):(r.takeR n).len = n ∧ (r.takeR n).one = false ∧ (r.takeR n).isBox = r.isBox ∧ ∀ i o,i < n → (r.takeR n).get i o = r.get i o:=by
 cases r with
 | box=>cases hb
 | ints k l=>exact ⟨by simp only [Row.takeR,Row.len,List.length_take] at hn ⊢; omega,rfl,rfl,fun i o hi=>by simp [Row.takeR,Row.get,hi]⟩
 | bools l=>exact ⟨by simp only [Row.takeR,Row.len,List.length_take] at hn ⊢; omega,rfl,rfl,fun i o hi=>by simp [Row.takeR,Row.get,hi]⟩
 | gen l=>exact ⟨by simp only [Row.takeR,Row.len,List.length_take] at hn ⊢; omega,rfl,rfl,fun i o hi=>by simp [Row.takeR,Row.get,hi]⟩
 | own l=>exact ⟨by simp only [Row.takeR,Row.len,List.length_take] at hn ⊢; omega,rfl,rfl,fun i o hi=>by simp [Row.takeR,Row.get,hi]⟩
section
variable {P:Program} {ty:Ty} {E:Env} {nt:Nat} {M:Mp} {H:List Root} {σ:AS} {a:Act} {w:World}
theorem dd7 {id:Nat} {x:Root} {j:Nat} {fz:Bool} {t:TypeId} {sz:Nat} {r:Row} (h:aa7 (ba7 H id .dead ++ [x]) j = .live fz t sz r):(j = H.length ∧ x = .live fz t sz r) ∨ (j ≠ H.length ∧ j ≠ id ∧ aa7 H j = .live fz t sz r):=by
 rw [sb7,ea7] at h
 split at h
 ·rename_i e; exact .inl ⟨e,h⟩
 ·rename_i e; exact .inr ⟨e,ia7 h⟩
theorem os7 (h:Rel E M H w) {id:Nat} {t:TypeId} {sz:Nat} {r:Row} (hr:aa7 H id = .live false t sz r) (hb:r.one = false) {n:Nat} (hn:n ≤ r.len) :
  Rel E (M.upd H.length (M.phi id)) (ba7 H id .dead ++ [.live false t sz (r.takeR n)]) w ∧ Kp M H w (M.upd H.length (M.phi id)) (ba7 H id .dead ++ [.live false t sz (r.takeR n)]) w:=by
 have hid:=jc7 hr
 have old:∀ {j:Nat},j ≠ H.length → (M.upd H.length (M.phi id)).phi j = M.phi j:=fun h=>if_neg h
 have new:(M.upd H.length (M.phi id)).phi H.length = M.phi id:=if_pos rfl
 have kp:Kp M H w (M.upd H.length (M.phi id)) (ba7 H id .dead ++ [.live false t sz (r.takeR n)]) w:=fun x v c=>by
  have ne:∀ {j:Nat},j < H.length → j ≠ H.length:=fun h e=>by omega
  cases x with
  | ptr j m i o =>
   refine ⟨⟨by simp only [List.length_append,ea7,List.length_singleton]; have:=c.1.1; omega,c.1.2⟩,fun fz t2 sz2 r2 hr2 => ?_⟩
   rcases dd7 hr2 with ⟨e, -⟩ | ⟨e1,e2,e3⟩
   ·exact absurd e (ne c.1.1)
   ·rw [old e1]; exact c.2 _ _ _ _ e3
  | h j st len =>
   refine ⟨⟨by simp only [List.length_append,ea7,List.length_singleton]; have:=c.1.1; omega,c.1.2⟩,fun fz t2 sz2 r2 hr2 => ?_⟩
   rcases dd7 hr2 with ⟨e, -⟩ | ⟨e1,e2,e3⟩
   ·exact absurd e (ne c.1.1)
   ·rw [old e1]; exact c.2 _ _ _ _ e3
  | _=>exact c
 refine ⟨⟨h.bel,fun j fz t2 sz2 r2 hj => ?_,fun j fz t2 sz2 r2 hj => ?_,fun j t2 sz2 r2 hj => ?_,fun j t2 sz2 r2 hj => ?_,fun i j t1 s1 r1 t2 s2 r2 hi hj he => ?_,h.rlt,h.src,h.tau.keep rfl (fun _ _ _=>rfl) (fun b q hq=>(h.tau.new b q hq).2) fun b q j fz t2 s2 r2 hq hj => ?_⟩,kp⟩
 ·rcases dd7 hj with ⟨rfl,e⟩ | ⟨e1,e2,e3⟩
  ·rw [new]; exact h.low _ _ _ _ _ hr
  ·rw [old e1]; exact h.low _ _ _ _ _ e3
 ·rcases dd7 hj with ⟨rfl,e⟩ | ⟨e1,e2,e3⟩
  ·cases e
   rw [new]
   obtain ⟨cur,k1,k2,k3,k4,k5,k6⟩:=h.row _ _ _ _ _ hr
   obtain ⟨g1,g2,g3,g4⟩:=lh7 hb hn
   refine ⟨cur,k1,k2,by rw [g1]; exact Nat.le_trans (Nat.mul_le_mul_right _ hn) k3,k4,fun e=>(by rw [g2] at e; cases e),fun i hi o ho => ?_⟩
   rw [g1] at hi
   obtain ⟨v,v1,v2,v3⟩:=k6 i (by omega) o ho
   refine ⟨v,v1,v2, ?_⟩
   rw [g3,g4 i o hi]
   exact v3.keep kp (fun _ _=>rfl) (fun _ h=>h)
  ·rw [old e1]
   exact (h.row _ _ _ _ _ e3).keep kp (fun _ _=>rfl) (fun _ h=>h) rfl
 ·rcases dd7 hj with ⟨rfl,e⟩ | ⟨e1,e2,e3⟩
  ·cases e
  ·rw [old e1]; exact h.froz _ _ _ _ e3
 ·rcases dd7 hj with ⟨rfl,e⟩ | ⟨e1,e2,e3⟩
  ·rw [new]; exact h.thaw _ _ _ _ hr
  ·rw [old e1]; exact h.thaw _ _ _ _ e3
 ·rcases dd7 hi with ⟨rfl,e⟩ | ⟨e1,e2,e3⟩ <;> rcases dd7 hj with ⟨rfl,e'⟩ | ⟨f1,f2,f3⟩
  ·rfl
  ·rw [new,old f1] at he
   exact absurd (h.inj _ _ _ _ _ _ _ _ hr f3 he).symm f2
  ·rw [new,old e1] at he
   exact absurd (h.inj _ _ _ _ _ _ _ _ e3 hr he) e2
  ·rw [old e1,old f1] at he
   exact h.inj _ _ _ _ _ _ _ _ e3 f3 he
 ·rcases dd7 hj with ⟨rfl,e⟩ | ⟨e1,e2,e3⟩
  ·rw [new]; exact h.tau.row _ _ _ _ _ _ _ hq hr
  ·rw [old e1]; exact h.tau.row _ _ _ _ _ _ _ hq e3
end
section
variable (P:Program) (ty:Ty) (call:bd7)
def dw7 (k:TyK) (H:List Root) (id st n:Nat) (m:Int) (K:RV → List Root → Bool):Bool :=
 match k with
 | .sl e=>match aa7 H id with
  | .live false t sz r=>decide (0 ≤ m ∧ m ≤ n ∧ st + n = r.len ∧ sz = (ty e).sz) && !r.one && K (.c (.h H.length st m.toNat)) (ba7 H id .dead ++ [.live false t sz (r.takeR (st + m.toNat))])
  | _=>false
 | _=>false
def ot7 (pu:Pu) (rd:Operand → Bool × RV) (H:List Root) (t:TypeId) (v:RV) (nm:String) (args:List Operand) (K:RV → List Root → Bool):Bool :=
 match wu7 P t nm with
 | some (f,none)=>decide (gOk true (rgs rd args)) && ptrOk H v && call pu f (v :: rds rd args) H K
 | some (f,some e)=>decide (gOk true (rgs rd args)) && ptrOk H v && decide (rf7 (ty e) H v).1 && call pu f ((rf7 (ty e) H v).2 :: rds rd args) H K
 | none=>false
where ptrOk (H:List Root):RV → Bool
 | .c (.ptr id n _ _)=>match aa7 H id with
  | .live _ _ _ r=>decide (r.len = n)
  | .dead=>false
 | _=>false
def aw7 (pu:Pu) (tm:Tm) (rd:Operand → Bool × RV) (H:List Root) (o:Oper) (d:Bool) (K:AS → Bool):Bool :=
 match o.op with
 | .call c=>match c.callee with
  | .invoke r nm=>match rdO rd r with
   | some (.ifc t v)=>ot7 P ty call pu rd H t v nm c.args.toList (fun r H=>K ⟨dc7 tm true o.dst r,H⟩)
   | _=>false
  | _=>d
 | .slice t x none (some hi) none=>match rdO rd x,rdO rd hi with
  | some (.c (.h id st n)),some (.c (.int _ m))=>dw7 ty (ty t).k H id st n m (fun r H=>K ⟨dc7 tm true o.dst r,H⟩)
  | _,_=>d
 | _=>d
def qw7:Op → Bool
 | .nilCheck _=>true
 | .makeInterface .. => true
 | .typeAssert .. => true
 | .index .. => true
 | .build .. => true
 | .slice .. => true
 | .binOp op .. => match op with
  | .and=>true
  | .or=>true
  | .andNot=>true
  | .shl=>true
  | .shr=>true
  | .eql=>true
  | .neq=>true
  | _=>false
 | .call c=>match c.callee with
  | .invoke .. => true
  | _=>false
 | _=>false
def opX (pu:Pu) (ops:Array Oper) (σ:AS) (o:Oper) (K:AS → Bool):Bool :=
 match qw7 o.op with
 | true=>match guardOf σ.tm ops o.guard with
  | some true=>match vw7 P ty σ.rd σ.H o.op with
   | some r=>K ⟨dc7 σ.tm true o.dst r,σ.H⟩
   | none=>aw7 P ty call pu σ.tm σ.rd σ.H o (opB ty call pu ops σ o K) K
  | _=>opB ty call pu ops σ o K
 | false=>opB ty call pu ops σ o K
end
section
variable {P:Program} {ty:Ty} {call:bd7} {E:Env} {nt:Nat} {M:Mp} {σ:AS} {a:Act} {w:World} {pu:Pu} {ops:Array Oper} {o:Oper} {K:AS → Bool}
theorem ym7 (hT:ob7 P ty) (hcall:∀ pu f args H K,call pu f args H K = true → ab7 P pu f args H (fun r H=>K r H = true)) (h:St E nt M σ a w) (hd:∀ t,o.dst = some t → t < nt) (hw:opX P ty call pu ops σ o K = true) {next:Act → World → Prop} {Q:Exit → Act → World → Prop}
  (hn:∀ M' σ' a' w',St E nt M' σ' a' w' → (∀ g,pu = some g → hc7 (g.map M.phi) w w') → Stp M σ a w M' σ' a' w' (fun t=>o.dst = some t) → K σ' = true → next a' w'):if Region.wanted o (yielded ops a.tmps) then o.wp P a w next Q else next (a.put o.dst undef) w:=by
 unfold opX at hw
 split at hw
 case h_2=>exact sq7 hT h hd (gh7 hcall hw) hn
 rename_i hnew
 clear hnew
 split at hw
 case h_2=>exact sq7 hT h hd (gh7 hcall hw) hn
 rename_i hg
 have hwt:Region.wanted o (yielded ops a.tmps) = true:=vc7 h hg rfl
 split at hw
 ·rename_i r hr
  obtain ⟨v,v1,v2⟩:=br7 hT h hr
  rw [if_pos hwt]
  unfold Oper.wp
  rw [v2]
  exact hn M _ _ w (h.putV hd (fun _=>v1) (fun e=>by cases e)) (fun _ _=>hc7.refl _ _) (jf7 rfl) hw
 ·rename_i hnone
  clear hnone
  have base:opB ty call pu ops σ o K = true → if Region.wanted o (yielded ops a.tmps) then o.wp P a w next Q else next (a.put o.dst undef) w:=fun hw=>sq7 hT h hd (gh7 hcall hw) hn
  obtain ⟨dst,op,type,pos,after,guard⟩:=o
  unfold aw7 at hw
  simp only at hw
  split at hw
  ·rename_i c
   obtain ⟨callee,args,ats⟩:=c
   simp only at hw
   cases callee with
   | value f=>exact base hw
   | builtin b=>exact base hw
   | invoke r nm =>
    simp only at hw
    split at hw
    case h_2=>cases hw
    rename_i t v hv
    rw [if_pos hwt]
    obtain ⟨u,hu,hc⟩:=vb7 h hv
    have run:∀ (f:FuncId) (e:Option TypeId) (z:Value) (rz:RV) (ad:Addr),u = .pointer (some ad) → wu7 P t nm = some (f,e) → ex7 P ad w z e → ha7 M σ.H w rz z → gOk true (rgs σ.rd args.toList) → call pu f (rz :: rds σ.rd args.toList) σ.H (fun r H=>K ⟨dc7 σ.tm true dst r,H⟩) = true → Oper.wp P ⟨dst, .call ⟨.invoke r nm,args,ats⟩,type,pos,after,guard⟩ a w next Q:=fun f e z rz ad hu2 hm hz hcz hgs hk=>by
     obtain ⟨henter,hcl⟩:=hcall _ _ _ _ _ hk
     have hc2:=hcl E M w (z :: args.toList.map a.eval) h.rel ⟨z,_,rfl,hcz,tl7 h args.toList hgs⟩
     have hmr:=gt7 hm (P.types.size + 99) ad w hz
     unfold Oper.wp
     have hrun:(execOp a.eval ⟨dst, .call ⟨.invoke r nm,args,ats⟩,type,pos,after,guard⟩).run P w = .ok (.enter f (z :: args.toList.map a.eval).toArray) w:=by
      have e1 : #[z] ++ args.map a.eval = (z :: args.toList.map a.eval).toArray:=by
       apply Array.toList_inj.1; simp
      have e2:(#[a.eval r] ++ args.map a.eval).extract 1 (#[a.eval r] ++ args.map a.eval).size = args.map a.eval:=mx7 _ _
      have e3:(#[a.eval r] ++ args.map a.eval)[0]? = some (.iface t (.pointer (some ad))):=by
       rw [hu,hu2,Array.getElem?_append_left (Nat.zero_lt_one)]; rfl
      have e4:(method (P.types.size + Made.depth) t (.pointer (some ad)) nm).run P w = .ok (f,z) w:=hmr
      have e5:(callMethod (.iface t (.pointer (some ad))) nm (args.map a.eval)).run P w = .ok (.enter f (z :: args.toList.map a.eval).toArray) w:=by
       have h1:(callMethod (.iface t (.pointer (some ad))) nm (args.map a.eval)).run P w = ((do let (f,receiver) ← method (P.types.size + Made.depth) t (.pointer (some ad)) nm; callFunc f (#[receiver] ++ args.map a.eval)):Sem Next).run P w:=rfl
       rw [h1,Sem.run_bind,e4]
       show (callFunc f (#[z] ++ args.map a.eval)).run P w = _
       rw [e1]
       exact henter.run _ _
      have h2:(execOp a.eval ⟨dst, .call ⟨.invoke r nm,args,ats⟩,type,pos,after,guard⟩).run P w = ((do
        let some recv := (#[a.eval r] ++ args.map a.eval)[0]? | stuck "call: a method without a receiver"
        callMethod recv nm ((#[a.eval r] ++ args.map a.eval).extract 1 (#[a.eval r] ++ args.map a.eval).size)):Sem Next).run P w:=rfl
      rw [h2,e3,e2]
      exact e5
     rw [hrun,Oper.upon_enter]
     refine hc2.mono ?_
     rintro e w' ⟨M',H',r',v',rfl,q1,q2,q3,q4,q5,q6⟩
     exact hn _ _ _ _ (h.put q1 q2 hd q3) q4 ⟨q5,q2,db7 _ _ _⟩ q6
    unfold ot7 at hw
    have hptr:ot7.ptrOk σ.H v = true → ∃ ad,u = .pointer (some ad):=fun hp=>by
     unfold ot7.ptrOk at hp
     split at hp
     ·rename_i id n i o
      split at hp
      ·rename_i fz t2 sz r2 hr2
       exact ⟨_,(hc.2 _ _ _ _ hr2).2 (by simpa using hp)⟩
      ·cases hp
     ·cases hp
    split at hw
    ·rename_i f hm
     simp only [Bool.and_eq_true,decide_eq_true_eq] at hw
     obtain ⟨⟨w1,w2⟩,w3⟩:=hw
     obtain ⟨ad,had⟩:=hptr w2
     exact run f none u v ad had hm had hc w1 w3
    ·rename_i f e hm
     simp only [Bool.and_eq_true,decide_eq_true_eq] at hw
     obtain ⟨⟨⟨w1,w2⟩,w4⟩,w3⟩:=hw
     obtain ⟨ad,had⟩:=hptr w2
     obtain ⟨z,z1,z2⟩:=gi7 hT h.rel e hc w4
     have z3:=z2 w Same.refl
     rw [had] at z3
     exact run f (some e) z _ ad had hm (show (loadVar e ad).run P w = .ok z w by simpa [Instr.loadAt,Instr.sureAddr] using z3) z1 w1 w3
    ·cases hw
  ·rename_i t x hi
   split at hw
   ·rename_i id st n k m hx hhi
    rw [if_pos hwt]
    have hxv:=vb7 h hx
    have hmv:=ma7 (vb7 h hhi)
    unfold dw7 at hw
    split at hw
    case h_2=>cases hw
    rename_i e hk
    split at hw
    case h_2=>cases hw
    rename_i t2 sz r hr
    simp only [Bool.and_eq_true,decide_eq_true_eq,Bool.not_eq_true'] at hw
    obtain ⟨⟨⟨w1,w2,w3,rfl⟩,w4⟩,w5⟩:=hw
    obtain ⟨hu,hke⟩:P.underlying t = some (.slice e) ∧ _:=na7 hT hk
    have hel:P.elem t = e:=by simp [Program.elem,hu]
    obtain ⟨cap,cur,hv,k1,k2,k3,k4⟩:=(hxv.2 _ _ _ _ hr).2 w3
    obtain ⟨q1,q2⟩:=os7 h.rel hr w4 (n:=st + m.toNat) (by omega)
    obtain ⟨g1, -⟩:=lh7 w4 (n:=st + m.toNat) (by omega)
    unfold Oper.wp
    have hrun:(execOp a.eval ⟨dst, .slice t x none (some hi) none,type,pos,after,guard⟩).run P w = .ok (.value (.slice (some ⟨M.phi id,st * (ty e).sz,none⟩) m.toNat cap)) w:=by
     refine la7 (x:=Instr.sliceAt t (a.eval x) none (some (a.eval hi)) none) ?_
     rw [hv,hmv,run_sliceAt_slice w t _ _ _ _ (by rw [hel]; exact hu),run_slice_h w t _ n cap (by rw [hel]; exact hu) k m w1 (by omega),hel,ya7 hT hke]
     simp only [Result.andThen,sliced,Nat.sub_zero,Nat.zero_mul]
     split
     ·rfl
     ·simp [addr_add]
    rw [hrun]
    refine hn _ _ _ _ (h.put (r := .c (.h σ.H.length st m.toNat)) q1 q2 hd ?_) (fun _ _=>hc7.refl _ _) ⟨by simp [ea7],q2,db7 _ _ _⟩ w5
    refine ⟨⟨by simp [ea7],rfl⟩,fun fz t3 s3 r3 hr3 => ?_⟩
    rcases dd7 hr3 with ⟨-,e3⟩ | ⟨e1, -⟩
    ·cases e3
     refine ⟨by rw [g1]; exact Nat.le_refl _,fun _=>⟨cap,cur, ?_,by omega,k2, ?_,k4⟩⟩
     ·show _ = Value.slice (some ⟨(M.upd σ.H.length (M.phi id)).phi σ.H.length,_,_⟩) _ _
      rw [show (M.upd σ.H.length (M.phi id)).phi σ.H.length = M.phi id from if_pos rfl]
     ·rw [show (M.upd σ.H.length (M.phi id)).phi σ.H.length = M.phi id from if_pos rfl]; exact k3
    ·exact absurd rfl e1
   ·exact base hw
  ·exact base hw
end
def leA (k:Nat) (x y:AV):Bool :=
 match y with
 | .junk=>true
 | .int k n=>match x with
  | .int k' m=>decide (k' = k ∧ m = n)
  | _=>false
 | .bool b=>match x with
  | .bool a=>decide (a = b)
  | _=>false
 | .flt b=>match x with
  | .flt a=>decide (a = b)
  | _=>false
 | .str b=>match x with
  | .str a=>decide (a = b)
  | _=>false
 | .nilp=>match x with
  | .nilp=>true
  | _=>false
 | .nils=>match x with
  | .nils=>true
  | _=>false
 | .ptr id n i o=>match x with
  | .ptr id' n' i' o'=>decide (id' = id ∧ n' = n ∧ i' = i ∧ o' = o)
  | _=>false
 | .h id st n=>match x with
  | .h id' st' n'=>decide (id' = id ∧ st' = st ∧ n' = n)
  | _=>false
 | .sl n sz g=>match k with
  | 0=>false
  | k + 1=>match x with
   | .sl n' sz' f=>decide (n' = n ∧ sz' = sz) && (List.range n).all fun i=>(List.range sz).all fun j=>leA k (f i j) (g i j)
   | _=>false
 | .rp n g=>match k with
  | 0=>false
  | k + 1=>match x with
   | .rp n' f=>decide (n' = n) && (List.range n).all fun j=>leA k (f j) (g j)
   | _=>false
 | _=>false
def leL (k:Nat):List AV → List AV → Bool
 | [],[]=>true
 | a :: l,b :: m=>leA k a b && leL k l m
 | _,_=>false
def ks7 (k:Nat):RV → RV → Bool
 | _, .c .junk=>true
 | .c a, .c b=>leA k a b
 | .agg l, .agg m=>leL k l m
 | .fn f l, .fn g m=>decide (f = g) && leL k l m
 | .ifc t (.c a), .ifc t' (.c b)=>decide (t = t') && leA k a b
 | .ifc t (.agg a), .ifc t' (.agg b)=>decide (t = t') && leL k a b
 | _,_=>false
def qr7 (k:Nat):List RV → List RV → Bool
 | [],[]=>true
 | a :: l,b :: m=>ks7 k a b && qr7 k l m
 | _,_=>false
def leR (k:Nat) (x y:RV):Bool :=
 match y with
 | .tup m=>match x with
  | .tup l=>qr7 k l m
  | _=>false
 | y=>ks7 k x y
def cx7 (k:Nat):Root → Root → Bool
 | _, .dead=>true
 | .live fz t sz r, .live fz' t' sz' r'=>decide (fz' = fz ∧ t' = t ∧ sz' = sz ∧ r'.len = r.len ∧ r'.one = r.one ∧ r'.isBox = r.isBox) && (List.range r.len).all fun i=>(List.range sz).all fun o=>leA k (r.get i o) (r'.get i o)
 | .dead, .live .. => false
def leH (k:Nat) (H H':List Root):Bool:=decide (H.length = H'.length) && (List.range H.length).all fun id=>cx7 k (aa7 H id) (aa7 H' id)
def leT (k nt:Nat) (tm tm':Tm):Bool:=(tm'.all fun e=>decide (e.1 < nt)) && (List.range nt).all fun t=>decide ((lk tm' t).1 = (lk tm t).1) && leR k (lk tm t).2 (lk tm' t).2
def leS (k nt:Nat) (σ σ':AS):Bool:=leH k σ.H σ'.H && leT k nt σ.tm σ'.tm
section
variable {P:Program} {ty:Ty} {E:Env} {nt n:Nat} {M:Mp} {H H':List Root} {σ σ':AS} {a:Act} {w:World}
theorem od7 {rho:Nat → Prop}:∀ (k:Nat) {x y:AV} {v:Value},leA k x y = true → za7 rho w x v → za7 rho w y v
 | k,x,y,v,h,c=>by
  unfold leA at h
  cases y <;> simp only at h
  case junk=>trivial
  case sl n sz g =>
   cases k with
   | zero=>cases h
   | succ k =>
    cases x <;> simp only at h
    case sl n' sz' f =>
     simp only [Bool.and_eq_true,decide_eq_true_eq,List.all_eq_true,List.mem_range] at h
     obtain ⟨⟨rfl,rfl⟩,h⟩:=h
     obtain ⟨a,b,off,cc,h1,h2,h3,h4,h5⟩:=c
     refine ⟨a,b,off,cc,h1,h2,h3,h4,fun i hi j hj => ?_⟩
     obtain ⟨u,u1,u2⟩:=h5 i hi j hj
     exact ⟨u,u1,od7 k (h i hi j hj) u2⟩
    all_goals cases h
  case rp n g =>
   cases k with
   | zero=>cases h
   | succ k =>
    cases x <;> simp only at h
    case rp n' f =>
     simp only [Bool.and_eq_true,decide_eq_true_eq,List.all_eq_true,List.mem_range] at h
     obtain ⟨rfl,h⟩:=h
     obtain ⟨b,off,h1,h2,h3⟩:=c
     refine ⟨b,off,h1,h2,fun j hj => ?_⟩
     obtain ⟨u,u1,u2⟩:=h3 j hj
     exact ⟨u,u1,od7 k (h j hj) u2⟩
    all_goals cases h
  all_goals first | (cases h; done) | (cases x <;> simp only at h <;> first | (cases h; done) | exact c | (simp only [decide_eq_true_eq] at h; first | (subst h; exact c) | (obtain ⟨rfl,rfl⟩:=h; exact c) | exact c.elim))
def zf7 (H H':List Root):Prop:=H.length = H'.length ∧ ∀ id fz t sz r',aa7 H' id = .live fz t sz r' → ∃ r,aa7 H id = .live fz t sz r ∧ r.len = r'.len
theorem dk7 (hs:zf7 H H') (k:Nat) {x y:AV} {v:Value} (h:leA k x y = true) (c:Con M H w x v):Con M H' w y v:=by
 have keep:∀ z,Con M H w z v → (∀ n sz f,z ≠ .sl n sz f) → (∀ n f,z ≠ .rp n f) → Con M H' w z v:=fun z c n1 n2=>by
  cases z with
  | ptr id n i o =>
   refine ⟨⟨hs.1 ▸ c.1.1,c.1.2⟩,fun fz t sz r hr => ?_⟩
   obtain ⟨r0,k1,k2⟩:=hs.2 _ _ _ _ _ hr
   have:=c.2 _ _ _ _ k1
   rw [k2] at this; exact this
  | h id st len =>
   refine ⟨⟨hs.1 ▸ c.1.1,c.1.2⟩,fun fz t sz r hr => ?_⟩
   obtain ⟨r0,k1,k2⟩:=hs.2 _ _ _ _ _ hr
   have:=c.2 _ _ _ _ k1
   rw [k2] at this; exact this
  | _=>exact c
 cases y with
 | sl n sz g =>
  have c0:za7 M.rho w x v:=by
   unfold leA at h
   try simp only at h
   cases k with
   | zero=>cases h
   | succ k=>cases x <;> first | exact c | cases h
  exact od7 k h c0
 | rp n g =>
  have c0:za7 M.rho w x v:=by
   unfold leA at h
   try simp only at h
   cases k with
   | zero=>cases h
   | succ k=>cases x <;> first | exact c | cases h
  exact od7 k h c0
 | junk=>trivial
 | ptr id n i o =>
  refine keep _ ?_ (fun _ _ _ e=>by cases e) (fun _ _ e=>by cases e)
  unfold leA at h; (try simp only at h)
  cases x <;> first | (cases h; done) | (simp only [decide_eq_true_eq] at h; obtain ⟨rfl,rfl,rfl,rfl⟩:=h; exact c)
 | h id st n =>
  refine keep _ ?_ (fun _ _ _ e=>by cases e) (fun _ _ e=>by cases e)
  unfold leA at h; (try simp only at h)
  cases x <;> first | (cases h; done) | (simp only [decide_eq_true_eq] at h; obtain ⟨rfl,rfl,rfl⟩:=h; exact c)
 | int k2 n =>
  unfold leA at h; (try simp only at h)
  cases x <;> first | (cases h; done) | (simp only [decide_eq_true_eq] at h; obtain ⟨rfl,rfl⟩:=h; exact c)
 | bool n =>
  unfold leA at h; (try simp only at h)
  cases x <;> first | (cases h; done) | (simp only [decide_eq_true_eq] at h; subst h; exact c)
 | flt n =>
  unfold leA at h; (try simp only at h)
  cases x <;> first | (cases h; done) | (simp only [decide_eq_true_eq] at h; subst h; exact c)
 | str n =>
  unfold leA at h; (try simp only at h)
  cases x <;> first | (cases h; done) | (simp only [decide_eq_true_eq] at h; subst h; exact c)
 | nilp =>
  unfold leA at h; (try simp only at h)
  cases x <;> first | exact c | cases h
 | nils =>
  unfold leA at h; (try simp only at h)
  cases x <;> first | exact c | cases h
 | _=>unfold leA at h; (try simp only at h); cases h
theorem hg7 (hs:zf7 H H') (k:Nat):∀ {l m:List AV} {vs:List Value},leL k l m = true → sa7 M H w l vs → sa7 M H' w m vs
 | [],[],_,_,c=>c
 | _ :: _,_ :: _,_,h,⟨v,r,e,c1,c2⟩=>by
  simp only [leL,Bool.and_eq_true] at h
  exact ⟨v,r,e,dk7 hs k h.1 c1,hg7 hs k h.2 c2⟩
 | [],_ :: _,_,h,_=>by cases h
 | _ :: _,[],_,h,_=>by cases h
theorem tj7 (hs:zf7 H H') (k:Nat) {x y:RV} {v:Value} (h:ks7 k x y = true) (c:ha7 M H w x v):ha7 M H' w y v:=by
 unfold ks7 at h
 split at h
 ·trivial
 ·exact dk7 hs k h c
 ·obtain ⟨vs,e,c⟩:=c; exact ⟨vs,e,hg7 hs k h c⟩
 ·simp only [Bool.and_eq_true,decide_eq_true_eq] at h
  obtain ⟨rfl,h⟩:=h
  obtain ⟨vs,e,c⟩:=c; exact ⟨vs,e,hg7 hs k h c⟩
 ·simp only [Bool.and_eq_true,decide_eq_true_eq] at h
  obtain ⟨rfl,h⟩:=h
  obtain ⟨u,e,c⟩:=c; exact ⟨u,e,dk7 hs k h c⟩
 ·simp only [Bool.and_eq_true,decide_eq_true_eq] at h
  obtain ⟨rfl,h⟩:=h
  obtain ⟨u,e,vs,e2,c⟩:=c; exact ⟨u,e,vs,e2,hg7 hs k h c⟩
 ·cases h
theorem rj7 (hs:zf7 H H') (k:Nat):∀ {l m:List RV} {vs:List Value},qr7 k l m = true → ka7 M H w l vs → ka7 M H' w m vs
 | [],[],_,_,c=>c
 | _ :: _,_ :: _,_,h,⟨v,r,e,c1,c2⟩=>by
  simp only [qr7,Bool.and_eq_true] at h
  exact ⟨v,r,e,tj7 hs k h.1 c1,rj7 hs k h.2 c2⟩
 | [],_ :: _,_,h,_=>by cases h
 | _ :: _,[],_,h,_=>by cases h
theorem sm7 (hs:zf7 H H') (k:Nat) {x y:RV} {v:Value} (h:leR k x y = true) (c:ha7 M H w x v):ha7 M H' w y v:=by
 unfold leR at h
 split at h
 ·split at h
  ·obtain ⟨vs,e,c⟩:=c; exact ⟨vs,e,rj7 hs k h c⟩
  ·cases h
 ·exact tj7 hs k h c
theorem pm7 {k:Nat} (h:leH k H H' = true) {id:Nat} {fz:Bool} {t:TypeId} {sz:Nat} {r':Row} (hr:aa7 H' id = .live fz t sz r'):∃ r,aa7 H id = .live fz t sz r ∧ r'.len = r.len ∧ r'.one = r.one ∧ r'.isBox = r.isBox ∧ ∀ i,i < r.len → ∀ o,o < sz → leA k (r.get i o) (r'.get i o) = true:=by
 unfold leH at h
 simp only [Bool.and_eq_true,decide_eq_true_eq,List.all_eq_true,List.mem_range] at h
 have hl:=h.2 id (by rw [h.1]; exact jc7 hr)
 rw [hr] at hl
 cases hh:aa7 H id with
 | dead=>rw [hh] at hl; cases hl
 | live fz2 t2 sz2 r =>
  rw [hh] at hl
  simp only [cx7,Bool.and_eq_true,decide_eq_true_eq,List.all_eq_true,List.mem_range] at hl
  obtain ⟨⟨rfl,rfl,rfl,e1,e2,e3⟩,hc⟩:=hl
  exact ⟨r,rfl,e1,e2,e3,hc⟩
theorem tb7 {k:Nat} (h:leH k H H' = true):zf7 H H':=by
 refine ⟨?_,fun id fz t sz r' hr => ?_⟩
 ·unfold leH at h
  simp only [Bool.and_eq_true,decide_eq_true_eq] at h
  exact h.1
 ·obtain ⟨r,h1,h2, -⟩:=pm7 h hr
  exact ⟨r,h1,h2.symm⟩
theorem Rel.le {k:Nat} (hl:leH k H H' = true) (h:Rel E M H w):Rel E M H' w:=by
 have lift:∀ {id:Nat} {fz:Bool} {t:TypeId} {sz:Nat} {r':Row},aa7 H' id = .live fz t sz r' → ∃ r,aa7 H id = .live fz t sz r:=fun hr=>by
  obtain ⟨r,h1, -⟩:=pm7 hl hr; exact ⟨r,h1⟩
 refine ⟨h.bel,fun id fz t sz r hr => ?_,fun id fz t sz r hr => ?_,fun id t sz r hr => ?_,fun id t sz r hr => ?_,fun i j t s r t' s' r' hi hj he => ?_,h.rlt,h.src,h.tau.keep rfl (fun _ _ _=>rfl) (fun b q hq=>(h.tau.new b q hq).2) fun b q j fz t s r hq hj => ?_⟩
 ·obtain ⟨r0,h0⟩:=lift hr; exact h.low _ _ _ _ _ h0
 ·obtain ⟨r0,h0,e1,e2,e3,hc⟩:=pm7 hl hr
  obtain ⟨cur,k1,k2,k3,k4,k5,k6⟩:=h.row _ _ _ _ _ h0
  refine ⟨cur,k1,k2,by rw [e1]; exact k3,k4,by rw [e2]; exact k5,fun i hi o ho => ?_⟩
  rw [e1] at hi
  obtain ⟨v,g1,g2,g3⟩:=k6 i hi o ho
  refine ⟨v,g1,g2, ?_⟩
  unfold pc7 at g3 ⊢
  rw [e3]
  split
  ·rename_i hb; rw [if_pos hb] at g3; exact dk7 (tb7 hl) k (hc i hi o ho) g3
  ·rename_i hb; rw [if_neg hb] at g3; exact od7 k (hc i hi o ho) g3
 ·obtain ⟨r0,h0⟩:=lift hr; exact h.froz _ _ _ _ h0
 ·obtain ⟨r0,h0⟩:=lift hr; exact h.thaw _ _ _ _ h0
 ·obtain ⟨r0,h0⟩:=lift hi; obtain ⟨r1,h1⟩:=lift hj; exact h.inj _ _ _ _ _ _ _ _ h0 h1 he
 ·obtain ⟨r0,h0⟩:=lift hj; exact h.tau.row _ _ _ _ _ _ _ hq h0
theorem ki7:∀ (tm:Tm) (t:Nat),(∀ e ∈ tm,e.1 ≠ t) → lk tm t = (true, .c .junk)
 | [],_,_=>rfl
 | (k,v) :: l,t,h=>by
  have h1:k ≠ t:=h _ (List.mem_cons_self ..)
  simp only [lk]
  rw [if_neg h1]
  exact ki7 l t fun e he=>h e (List.mem_cons_of_mem _ he)
theorem Kp.le {k:Nat} (hl:leH k H H' = true):Kp M H w M H' w:=fun x v c=>by
 have hs:=tb7 hl
 cases x with
 | ptr id n i o =>
  refine ⟨⟨hs.1 ▸ c.1.1,c.1.2⟩,fun fz t sz r hr => ?_⟩
  obtain ⟨r0,k1,k2⟩:=hs.2 _ _ _ _ _ hr
  have:=c.2 _ _ _ _ k1
  rw [k2] at this; exact this
 | h id st len =>
  refine ⟨⟨hs.1 ▸ c.1.1,c.1.2⟩,fun fz t sz r hr => ?_⟩
  obtain ⟨r0,k1,k2⟩:=hs.2 _ _ _ _ _ hr
  have:=c.2 _ _ _ _ k1
  rw [k2] at this; exact this
 | _=>exact c
theorem St.le {k:Nat} (hl:leS k nt σ σ' = true) (h:St E nt M σ a w):St E nt M σ' a w:=by
 unfold leS leT at hl
 simp only [Bool.and_eq_true,decide_eq_true_eq,List.all_eq_true,List.mem_range] at hl
 obtain ⟨h1,h2,h3⟩:=hl
 refine ⟨h.rel.le h1,fun t ht => ?_,fun t ht => ?_,h.sz,h.df⟩
 ·by_cases hb:t < nt
  ·obtain ⟨e,hc⟩:=h3 t hb
   rw [e] at ht
   exact sm7 (tb7 h1) k hc (h.tms t ht)
  ·rw [ki7 σ'.tm t fun e he hh=>hb (hh ▸ h2 e he)]; trivial
 ·by_cases hb:t < nt
  ·obtain ⟨e,hc⟩:=h3 t hb
   rw [e] at ht
   exact h.off t ht
  ·rw [ki7 σ'.tm t fun e he hh=>hb (hh ▸ h2 e he)] at ht; cases ht
end
def ix7:AV → List Nat
 | .ptr id .. => [id]
 | .h id .. => [id]
 | _=>[]
def at7:List AV → List Nat
 | []=>[]
 | a :: l=>ix7 a ++ at7 l
mutual
def jo7:RV → List Nat
 | .c a=>ix7 a
 | .agg l=>at7 l
 | .fn _ l=>at7 l
 | .tup l=>ss7 l
 | .ifc _ x=>jo7 x
def ss7:List RV → List Nat
 | []=>[]
 | a :: l=>jo7 a ++ ss7 l
end
def zt7:List (List AV) → List Nat
 | []=>[]
 | a :: l=>at7 a ++ zt7 l
def cu7:Root → List Nat
 | .live _ _ _ (.box l)=>at7 l
 | .live _ _ _ (.own l)=>zt7 l
 | _=>[]
def qg7 (n:Nat) (H:List Root):Nat → List Nat → List Nat → List Nat
 | 0,_,acc=>acc.reverse
 | _ + 1,[],acc=>acc.reverse
 | k + 1,id :: l,acc=>if Nat.blt id n || acc.contains id then qg7 n H k l acc else qg7 n H k (cu7 (aa7 H id) ++ l) (id :: acc)
def bx7 (tm:Tm):List Nat → List Nat
 | []=>[]
 | t :: l=>jo7 (lk tm t).2 ++ bx7 tm l
def zp7:List Root → List Nat
 | []=>[]
 | r :: l=>cu7 r ++ zp7 l
def canon (n nt:Nat) (σ:AS):List Nat:=qg7 n σ.H 100000 (bx7 σ.tm (List.range nt) ++ zp7 (σ.H.take n)) []
def hh7 (n nt:Nat) (σ:AS):AS:=zw7 n (canon n nt σ) ⟨fxT σ.tm (List.range nt),σ.H⟩
section
variable {E:Env} {nt n:Nat} {M:Mp} {σ:AS} {a:Act} {w:World}
theorem St.fx (h:St E nt M σ a w) (ks:List Nat):St E nt M ⟨fxT σ.tm ks,σ.H⟩ a w:=by
 refine ⟨h.rel,fun t ht => ?_,fun t ht => ?_,h.sz,h.df⟩
 ·have ht:(lk (fxT σ.tm ks) t).1 = true:=ht
  show ha7 M σ.H w (lk (fxT σ.tm ks) t).2 _
  rcases in7 σ.tm ks t with ⟨-,e⟩ | ⟨-,e⟩
  ·rw [e] at ht ⊢; exact h.tms t ht
  ·rw [e]; trivial
 ·have ht:(lk (fxT σ.tm ks) t).1 = false:=ht
  rcases in7 σ.tm ks t with ⟨-,e⟩ | ⟨-,e⟩
  ·rw [e] at ht; exact h.off t ht
  ·rw [e] at ht; cases ht
theorem St.norm (h:St E nt M σ a w) (hn:n ≤ σ.H.length) (ho:okI n (canon n nt σ) = true):St E nt (zo7 n (canon n nt σ) M) (hh7 n nt σ) a w :=
 (h.fx (List.range nt)).ren hn ho
theorem Kp.norm {M0:Mp} {H0:List Root} {w0:World} (h:Kp M0 H0 w0 M σ.H w) (hn:H0.length ≤ σ.H.length):Kp M0 H0 w0 (zo7 H0.length (canon H0.length nt σ) M) (hh7 H0.length nt σ).H w:=fun x v c=>by
 have:=(h x v c).ren (ids:=canon H0.length nt σ) hn
 rw [yg7 (vj7 c)] at this
 exact this
end
section
variable {P:Program} {ty:Ty} {call:bd7} {pu:Pu} {ops:Array Oper} {tm:Tm} {rd:Operand → Bool × RV} {H:List Root} {o:Oper}
theorem eq7 {e:TyE} {p v:RV} {K:List Root → Bool} (h:mt7 e H p v K = true):∃ H',K H' = true:=by
 unfold mt7 at h
 repeat' split at h
 all_goals first | (cases h; done) | (simp only [Bool.and_eq_true] at h; first | exact ⟨_,h.2.2⟩ | exact ⟨_,h.2.2.2⟩ | exact ⟨_,h.2⟩)
theorem jq7 {e:TypeId} {n:Nat} {ok:Bool} {l:List AV} {K:RV → List Root → Bool} (h:kt7 ty e H n ok l K = true):∃ r H',K r H' = true:=by
 unfold kt7 at h
 repeat' split at h
 all_goals first | (cases h; done) | (simp only [Bool.and_eq_true] at h; first | exact ⟨_,_,h.2.2.2⟩ | exact ⟨_,_,h.2.2.2.2⟩ | exact ⟨_,_,h.2⟩)
theorem lp7 {k:TyK} {n c:RV} {K:RV → List Root → Bool} (h:lm7 ty k H n c K = true):∃ r H',K r H' = true:=by
 unfold lm7 at h
 repeat' split at h
 all_goals first | (cases h; done) | (simp only [Bool.and_eq_true] at h; exact ⟨_,_,h.2⟩)
theorem tq7 {k:TyK} {s x:RV} {K:RV → List Root → Bool} (h:vs7 ty k H s x K = true):∃ r H',K r H' = true:=by
 unfold vs7 at h
 repeat' split at h
 all_goals first | (cases h; done) | (simp only [Bool.and_eq_true] at h; first | exact absurd h.2 (by decide) | exact absurd h.2.2 (by decide) | exact ⟨_,_,h.2⟩ | exact ⟨_,_,h.2.2⟩ | exact ⟨_,_,h.2.2.2⟩ | exact ⟨_,_,h.2.2.2.2⟩)
def ec7 (call:bd7):Prop := ∀ pu f args H K,call pu f args H K = true → ∃ r H',K r H' = true
theorem ir7 (hx:ec7 call) {K:AS → Bool} (h:go7 ty call pu tm rd H o K = true):∃ σ,K σ = true:=by
 have lift:∀ {d:Option Nat},(∃ r H',K ⟨dc7 tm true d r,H'⟩ = true) → ∃ σ,K σ = true:=fun ⟨r,H',h⟩=>⟨_,h⟩
 unfold go7 at h
 split at h
 ·simp only [Bool.and_eq_true] at h; exact ⟨_,h.2⟩
 ·simp only [Bool.and_eq_true] at h; exact ⟨_,h.2⟩
 ·simp only [Bool.and_eq_true] at h
  obtain ⟨H',h⟩:=eq7 h.2
  exact ⟨_,h⟩
 ·split at h
  ·exact lift (jq7 h)
  ·cases h
 ·exact lift (lp7 h)
 ·split at h
  ·split at h
   ·simp only [Bool.and_eq_true] at h; exact lift (tq7 h.2.2)
   ·cases h
  ·split at h
   ·exact lift (hx _ _ _ _ _ h)
   ·cases h
  ·cases h
 ·cases h
theorem af7 (hx:ec7 call) {σ:AS} {K:AS → Bool} (h:opB ty call pu ops σ o K = true):∃ σ,K σ = true:=by
 unfold opB at h
 split at h
 ·cases h
 ·simp only [Bool.and_eq_true] at h
  obtain ⟨-,h⟩:=h
  split at h
  ·simp only [Bool.and_eq_true] at h; exact ⟨_,h.2⟩
  ·split at h
   ·exact ir7 hx h
   ·exact ⟨_,h⟩
theorem un7 (hx:ec7 call) {σ:AS} {K:AS → Bool} (h:opX P ty call pu ops σ o K = true):∃ σ,K σ = true:=by
 unfold opX at h
 split at h
 case h_2=>exact af7 hx h
 split at h
 ·split at h
  ·exact ⟨_,h⟩
  ·unfold aw7 at h
   split at h
   ·split at h
    ·split at h
     ·unfold ot7 at h
      split at h
      ·simp only [Bool.and_eq_true] at h
       obtain ⟨r,H',h⟩:=hx _ _ _ _ _ h.2
       exact ⟨_,h⟩
      ·simp only [Bool.and_eq_true] at h
       obtain ⟨r,H',h⟩:=hx _ _ _ _ _ h.2
       exact ⟨_,h⟩
      ·cases h
     ·cases h
    ·exact af7 hx h
   ·split at h
    ·unfold dw7 at h
     repeat' split at h
     all_goals first | (cases h; done) | (simp only [Bool.and_eq_true] at h; exact ⟨_,h.2⟩)
    ·exact af7 hx h
   ·exact af7 hx h
 ·exact af7 hx h
end
section
variable (P:Program) (ty:Ty) (call:bd7)
def ow7:Op → Bool
 | .slice _ _ (some _) _ _=>true
 | .binOp op .. => match op with
  | .and=>true
  | .or=>true
  | .andNot=>true
  | .shl=>true
  | .shr=>true
  | _=>false
 | _=>false
def dt7 (ops:Array Oper) (l:Array Bool):Option Nat :=
 (Region.ready .any ops l).find? fun i=>isV (ops.getD i default).op && !xu7 (ops.getD i default).op && Region.free .any ops l i && decide (i < ops.size) && !ow7 (ops.getD i default).op
def mm7 (ops:Array Oper) (fins:List Nat) (l:Array Bool):Option Nat :=
 (Region.ready .any ops l).find? fun i=>isV (ops.getD i default).op && (dg7 .any ops fins [i] l).isSome && xu7 (ops.getD i default).op
def nj7 (ops:Array Oper) (fins:List Nat) (L:AS → Bool):Nat → Bool → Array Bool → AS → Bool
 | 0,_,l,σ=>(Region.ready .any ops l).isEmpty && L σ
 | n + 1,dy,l,σ=>match dt7 ops l with
  | some i=>opB ty call (some none) ops σ (ops.getD i default) (fun σ'=>nj7 ops fins L n dy (l.setIfInBounds i true) σ')
  | none=>match (if dy then none else mm7 ops fins l) with
  | some i=>opB ty call (some none) ops σ (ops.getD i default) (fun σ'=>nj7 ops fins L n dy (l.setIfInBounds i true) σ')
  | none => !(Region.ready .any ops l).isEmpty && (Region.ready .any ops l).all fun i=>decide (i < ops.size) && opX P ty call (if dy || fins.contains i then none else some none) ops σ (ops.getD i default) (fun σ'=>nj7 ops fins L n (dy || fins.contains i) (l.setIfInBounds i true) σ')
def mj7 (ops:Array Oper) (fins:List Nat) (K:AS → Bool):Nat → Array Bool → AS → Bool
 | 0,_,σ=>K σ
 | n + 1,l,σ=>match (match dt7 ops l with | some i=>[i] | none=>match mm7 ops fins l with | some i=>[i] | none=>Region.ready .any ops l) with
  | i :: _=>opX P ty call none ops σ (ops.getD i default) (fun σ'=>mj7 ops fins K n (l.setIfInBounds i true) σ')
  | []=>K σ
def ku7 (n nt:Nat) (c σ:AS):Bool:=decide (n ≤ σ.H.length) && okI n (canon n nt σ) && leS 8 nt (hh7 n nt σ) c
def aq7 (nt:Nat) (ops:Array Oper) (q:Bool × List Nat) (K:AS → Bool) (σ:AS):Bool :=
 Region.noSelect ops && (if q.1 then mj7 P ty call ops q.2 (fun σf=>nj7 P ty call ops q.2 (ku7 σ.H.length nt (hh7 σ.H.length nt σf)) ops.size false (Array.replicate ops.size false) σ && K (hh7 σ.H.length nt σf)) ops.size (Array.replicate ops.size false) σ
  else nj7 P ty call ops q.2 K ops.size false (Array.replicate ops.size false) σ)
end
section
variable {P:Program} {ty:Ty} {call:bd7} {E:Env} {nt:Nat} {M M0:Mp} {σ σ0:AS} {a a0:Act} {w w0:World} {ops:Array Oper} {fins:List Nat} {L K:AS → Bool} {Q:Exit → Act → World → Prop}
theorem ye7 (hx:ec7 call):∀ (n:Nat) {l:Array Bool} {σ:AS},mj7 P ty call ops fins K n l σ = true → ∃ σ,K σ = true
 | 0,_,_,h=>⟨_,h⟩
 | n + 1,l,σ,h=>by
  unfold mj7 at h
  split at h
  ·obtain ⟨σ',h⟩:=un7 hx h
   exact ye7 hx n h
  ·exact ⟨_,h⟩
theorem an7 {i:Nat} {Kn:Act → World → Prop} (hi:i < ops.size) (h:if Region.wanted (ops.getD i default) (yielded ops a.tmps) then (ops.getD i default).wp P a w Kn Q else Kn (a.put (ops.getD i default).dst undef) w):wpOp P ops Q i Kn a w:=by
 have ho:ops[i]? = some (ops.getD i default):=by simp [Array.getD,hi]
 unfold wpOp
 rw [ho]
 show if Region.wanted (ops.getD i default) (yielded ops a.tmps) then _ ∨ _ else _
 by_cases hw:Region.wanted (ops.getD i default) (yielded ops a.tmps) = true
 ·rw [if_pos hw] at h ⊢; exact .inl h
 ·rw [if_neg hw] at h ⊢; exact h
theorem jp7 (hT:ob7 P ty) (h:St E nt M σ a w) {o:Oper} (hv:isV o.op = true) (hl:xu7 o.op = false) (hd:∀ t,o.dst = some t → t < nt) {Kp:AS → Prop} {dd:Option Nat} (hw:fo7 ty (guardOf σ.tm ops o.guard) dd σ o Kp) :
  ∃ σ' v,Kp σ' ∧ σ'.H = σ.H ∧ St E nt M σ' (a.put o.dst v) w ∧ Yields P ops o v a:=by
 unfold fo7 at hw
 split at hw
 ·exact hw.elim
 ·rename_i g hg
  obtain ⟨h1, -,h2,h3⟩:=hw
  have hwt:=vc7 h hg rfl
  cases g with
  | true =>
   obtain ⟨v,v1,v2⟩:=dm7 hT h hv rfl h1 (h2 rfl)
   exact ⟨_,v,h3,rfl,h.putV hd (fun _=>v1) (fun e=>by cases e), .inl ⟨hwt,fun w'=>v2 w' fun e=>by rw [hl] at e; cases e⟩⟩
  | false=>exact ⟨_,undef,h3,rfl,h.putV hd (fun e=>by cases e) (fun _=>rfl), .inr ⟨hwt,rfl⟩⟩
theorem cj7 {md:Region.Mode} {S:World → Prop} {i:Nat} {oi:Oper} {v:Value} (hi:ops[i]? = some oi) (hsel:∀ (j:Nat) (o:Oper) cs b,ops[j]? = some o → o.op ≠ .select cs b)
  (hQ:∀ c a w,Q (.panic c) (a.put oi.dst v) w → Q (.panic c) a w) :
  ∀ (fuel:Nat) (listed:Array Bool) (a:Act) (w:World),
   (∀ j oj,ops[j]? = some oj → j ≠ i → listed.getD j true = false → (∀ e ∈ oj.after,Region.binds md e = true → e.on ≠ i) → oi.apart ops oj = true) →
   i ∈ Region.ready md ops listed → Yields P ops oi v a → S w →
   rc7 P md ops Q S fins fuel (listed.setIfInBounds i true) (a.put oi.dst v) w → rc7 P md ops Q S fins (fuel + 1) listed a w:=by
 intro fuel
 induction fuel with
 | zero =>
  intro listed a w _ hr hy hS H
  refine ⟨fun h=>(by rw [h] at hr; cases hr),fun j hj => ?_⟩
  by_cases hji:j = i
  ·subst hji; exact hy.wpOp hi (.inr ⟨hS,H⟩)
  ·have:=ready_mono hj hji
   rw [H.1] at this
   cases this
 | succ fuel ih =>
  intro listed a w hfree hr hy hS H
  refine ⟨fun h=>(by rw [h] at hr; cases hr),fun j hj => ?_⟩
  by_cases hji:j = i
  ·subst hji; exact hy.wpOp hi (.inr ⟨hS,H⟩)
  ·have h1:=H.2 j (ready_mono hj hji)
   obtain ⟨hjun,oj,hoj,hall⟩:=mem_ready.1 hj
   have hnot:∀ e ∈ oj.after,Region.binds md e = true → e.on ≠ i:=fun e he hb heq=>by
    have h1:=hall e he hb
    have h0:=(mem_ready.1 hr).1
    rw [heq] at h1
    rcases Nat.lt_or_ge i listed.size with h' | h'
    ·simp [h'] at h0 h1; rw [h0] at h1; cases h1
    ·simp [Array.getElem?_eq_none h'] at h1
   have h2:=wpOp_put hoj (hfree j oj hoj hji hjun hnot) (fun cs b=>hsel i oi cs b hi) (fun cs b=>hsel j oj cs b hoj) hQ hy h1
   have hfree':∀ k ok,ops[k]? = some ok → k ≠ i → (listed.setIfInBounds j true).getD k true = false →
     (∀ e ∈ ok.after,Region.binds md e = true → e.on ≠ i) → oi.apart ops ok = true:=fun k ok hk hki hun hno=>by
    refine hfree k ok hk hki ?_ hno
    by_cases hjk:j = k
    ·subst hjk; exact hjun
    ·rw [getD_set_ne true hjk] at hun; exact hun
   refine wpOp_mono (fun a' w' ⟨hy',h3⟩ => ?_) h2
   rcases h3 with ⟨hf,h4⟩ | ⟨hs',h4⟩
   ·refine .inl ⟨hf,wpAny_first hi hsel hQ fuel (listed.setIfInBounds j true) a' w' hfree' (ready_mono hr (Ne.symm hji)) hy' ?_⟩
    rw [Array.setIfInBounds_comm _ _ hji]
    exact h4
   ·refine .inr ⟨hs',ih (listed.setIfInBounds j true) a' w' hfree' (ready_mono hr (Ne.symm hji)) hy' hs' ?_⟩
    rw [Array.setIfInBounds_comm _ _ hji]
    exact h4
def wo7 (P:Program) (ops:Array Oper) (Q:Exit → Act → World → Prop) (fins:List Nat) (dy:Bool) (n:Nat) (l:Array Bool) (a:Act) (w:World):Prop :=
 if dy then wpAny P .any ops Q n l a w else rc7 P .any ops Q (hc7 none w) fins n l a w
theorem dh7 (hT:ob7 P ty) (hcall:∀ pu f args H K,call pu f args H K = true → ab7 P pu f args H (fun r H=>K r H = true)) (hs:Region.noSelect ops = true) (hd:en7 nt ops = true) (hQp:∀ c a w, ¬ Q (.panic c) a w)
  (hQ:∀ M' σ' a' w',St E nt M' σ' a' w' → Stp M0 σ0 a0 w0 M' σ' a' w' (up7 ops.toList) → L σ' = true → Q .normal a' w'):∀ (n:Nat) {dy:Bool} {l:Array Bool} {M:Mp} {σ:AS} {a:Act} {w:World},St E nt M σ a w → Stp M0 σ0 a0 w0 M σ a w (up7 ops.toList) → Closed .any ops l → nj7 P ty call ops fins L n dy l σ = true → wo7 P ops Q fins dy n l a w
 | 0,dy,l,M,σ,a,w,h,hst,hcl,he=>by
  simp only [nj7,Bool.and_eq_true] at he
  have e1:Region.ready .any ops l = []:=by simpa using he.1
  unfold wo7
  split
  ·exact ⟨e1,hQ _ _ _ _ h hst he.2⟩
  ·exact ⟨e1,hQ _ _ _ _ h hst he.2⟩
 | n + 1,dy,l,M,σ,a,w,h,hst,hcl,he=>by
  have hmem:∀ {i:Nat},i < ops.size → ∀ t,(ops.getD i default).dst = some t → up7 ops.toList t:=fun {i} hi t ht=>⟨_,by simp [Array.getD,hi],ht⟩
  have hdi:∀ {i:Nat},i < ops.size → ∀ t,(ops.getD i default).dst = some t → t < nt:=fun {i} hi=>uf7 hd _ (by simp [Array.getD,hi])
  unfold nj7 at he
  split at he
  ·rename_i i hi
   have hq:=List.find?_some hi
   have hr:i ∈ Region.ready .any ops l:=List.mem_of_find?_eq_some hi
   simp only [Bool.and_eq_true,Bool.not_eq_true',decide_eq_true_eq] at hq
   obtain ⟨⟨⟨⟨hv,hl⟩,hf⟩,e3⟩, -⟩:=hq
   have ho:ops[i]? = some (ops.getD i default):=by simp [Array.getD,e3]
   have hw':fo7 ty (guardOf σ.tm ops (ops.getD i default).guard) none σ (ops.getD i default) (fun σ'=>nj7 P ty call ops fins L n dy (l.setIfInBounds i true) σ' = true):=by
    have:=gh7 hcall he
    unfold fs7 at this
    rw [if_pos hv] at this
    exact this
   obtain ⟨σ',v,k1,k2,k3,k4⟩:=jp7 hT h hv hl (hdi e3) hw'
   have ih:=dh7 hT hcall hs hd hQp hQ n k3 (hst.trans (jf7 (M:=M) (a:=a) (w:=w) (v:=v) k2) (fun _ h=>h) (hmem e3)) (hcl.set hr) k1
   unfold wo7 at ih ⊢
   cases dy with
   | true =>
    rw [if_pos rfl] at ih ⊢
    exact wpAny_first ho (Region.noSelect_spec hs) (fun c a w hh=>(hQp _ _ _ hh).elim) n l a w (Region.free_spec ho hf) hr k4 ih
   | false =>
    rw [if_neg (by simp)] at ih ⊢
    exact cj7 ho (Region.noSelect_spec hs) (fun c a w hh=>(hQp _ _ _ hh).elim) n l a w (Region.free_spec ho hf) hr k4 (hc7.refl none w) ih
  split at he
  ·rename_i i hi
   cases dy with
   | true=>simp at hi
   | false =>
    have hi:mm7 ops fins l = some i:=by simpa using hi
    have hq:=List.find?_some hi
    simp only [Bool.and_eq_true] at hq
    obtain ⟨⟨hv,hq⟩, -⟩:=hq
    obtain ⟨l',hl'⟩:=Option.isSome_iff_exists.1 hq
    obtain ⟨e2,e3⟩:l' = l.setIfInBounds i true ∧ i < ops.size:=by
     simp only [dg7] at hl'
     split at hl'
     ·rename_i hc
      simp only [Bool.and_eq_true,decide_eq_true_eq] at hc
      exact ⟨(Option.some.inj hl').symm,hc.2⟩
     ·cases hl'
    subst e2
    have hw':fo7 ty (guardOf σ.tm ops (ops.getD i default).guard) none σ (ops.getD i default) (fun σ'=>nj7 P ty call ops fins L n false (l.setIfInBounds i true) σ' = true):=by
     have:=gh7 hcall he
     unfold fs7 at this
     rw [if_pos hv] at this
     exact this
    obtain ⟨σ',v,k1,k2,k3,k4,k5⟩:=vr7 hT h hv (hdi e3) hw'
    unfold wo7
    rw [if_neg (by simp),Nat.add_comm]
    refine hf7 (lq:=[i]) (K:=fun a'=>a' = a.put (ops.getD i default).dst v) hs (fun c a d v w hh=>(hQp _ _ _ hh).elim) (hc7.refl none w) l _ a hcl hl' ?_ fun a' hcl' ha => ?_
    ·simp only [List.map_cons,List.map_nil]
     unfold wpQuiet
     by_cases hwt:Region.wanted (ops.getD i default) (yielded ops a.tmps) = true
     ·rw [if_pos hwt]
      refine ⟨v, ?_,rfl⟩
      rintro w1 ⟨e,rfl⟩
      unfold Oper.quietAt
      rw [k4 hwt e.val e.ok]
      exact ⟨rfl,rfl⟩
     ·rw [if_neg hwt]
      show _ = _
      rw [k5 (by simpa using hwt)]
    ·subst ha
     have ih:=dh7 hT hcall hs hd hQp hQ n k3 (hst.trans (jf7 (M:=M) (a:=a) (w:=w) (v:=v) k2) (fun _ h=>h) (hmem e3)) hcl' k1
     unfold wo7 at ih
     rw [if_neg (by simp)] at ih
     exact ih
  ·simp only [Bool.and_eq_true,List.all_eq_true,decide_eq_true_eq,Bool.not_eq_true'] at he
   obtain ⟨h1,h2⟩:=he
   have hne:Region.ready .any ops l ≠ []:=fun e=>by rw [e] at h1; cases h1
   unfold wo7
   cases dy with
   | true =>
    rw [if_pos rfl]
    refine ⟨fun h0=>absurd h0 hne,fun i hi => ?_⟩
    obtain ⟨e1,e2⟩:=h2 i hi
    refine an7 e1 (ym7 hT hcall h (hdi e1) e2 fun M' σ' a' w' q1 q2 q3 q4 => ?_)
    have ih:=dh7 hT hcall hs hd hQp hQ n q1 (hst.trans q3 (fun _ h=>h) (hmem e1)) (hcl.set hi) q4
    unfold wo7 at ih
    simpa using ih
   | false =>
    rw [if_neg (by simp)]
    refine ⟨fun h0=>absurd h0 hne,fun i hi => ?_⟩
    obtain ⟨e1,e2⟩:=h2 i hi
    refine an7 e1 (ym7 hT hcall h (hdi e1) e2 fun M' σ' a' w' q1 q2 q3 q4 => ?_)
    have ih:=dh7 hT hcall hs hd hQp hQ n q1 (hst.trans q3 (fun _ h=>h) (hmem e1)) (hcl.set hi) q4
    unfold wo7 at ih
    by_cases hf:fins.contains i = true
    ·rw [hf] at ih
     exact .inl ⟨by simpa using hf,by simpa using ih⟩
    ·have hf:fins.contains i = false:=by simpa using hf
     rw [hf] at ih q2
     have ho:hc7 none w w':=q2 none (by simp)
     refine .inr ⟨ho,mf7 (fun w3 h3=>hc7.step ho h3) _ _ _ _ ?_⟩
     simpa using ih
theorem cq7 (hT:ob7 P ty) (hm:P.follows .mixedOrders = true) (hcall:∀ pu f args H K,call pu f args H K = true → ab7 P pu f args H (fun r H=>K r H = true)) (hx:ec7 call) {id:Nat} {q:Bool × List Nat} (hd:en7 nt ops = true) (h:St E nt M σ a w) (hw:aq7 P ty call nt ops q K σ = true)
  (hQ:∀ a' w',After E nt M σ a w (up7 ops.toList) (fun σ=>K σ = true) a' w' → Q .normal a' w') (hQp:∀ c a w, ¬ Q (.panic c) a w):(Code.region id ops true).wp P Q a w:=by
 unfold aq7 at hw
 simp only [Bool.and_eq_true] at hw
 obtain ⟨hs,hw⟩:=hw
 have hb:Below w.heap.size w w.drew:=(Below.refl _ _).drew
 have h2:St E nt M σ a w.drew:=⟨h.rel.below hb,fun t ht=>(Kp.below h.rel hb).R (h.tms t ht),h.off,h.sz,h.df⟩
 have hst:Stp M σ a w M σ a w.drew (up7 ops.toList):=⟨Nat.le_refl _,Kp.below h.rel hb,fun _ _=>rfl⟩
 have hcl:Closed .any ops (Array.replicate ops.size false):=fun j oj _ hl=>by rw [getD_replicate_false] at hl; cases hl
 have fin:∀ L:AS → Bool,nj7 P ty call ops q.2 L ops.size false (Array.replicate ops.size false) σ = true → (∀ M' σ' a' w',St E nt M' σ' a' w' → Stp M σ a w M' σ' a' w' (up7 ops.toList) → L σ' = true → Q .normal a' w') → (Code.region id ops true).wp P Q a w:=fun L he hL=>by
  refine wp_region_any hm (vf7 (S:=hc7 none w.drew) (fins:=q.2) _ _ _ _ ?_)
  have:=dh7 hT hcall hs hd hQp hL ops.size h2 hst hcl he
  unfold wo7 at this
  rw [if_neg (by simp)] at this
  exact this
 split at hw
 ·obtain ⟨σf,hf⟩:=ye7 hx _ hw
  simp only [Bool.and_eq_true] at hf
  obtain ⟨f1,f2⟩:=hf
  refine fin _ f1 fun M' σ' a' w' q1 q2 q3=>hQ a' w' ?_
  unfold ku7 at q3
  simp only [Bool.and_eq_true,decide_eq_true_eq] at q3
  obtain ⟨⟨g1,g2⟩,g3⟩:=q3
  have s1:=q1.norm g1 g2
  have hlH:leH 8 (hh7 σ.H.length nt σ').H (hh7 σ.H.length nt σf).H = true:=by
   unfold leS at g3
   simp only [Bool.and_eq_true] at g3
   exact g3.1
  refine ⟨_,_,s1.le g3,⟨?_,(q2.kp.norm q2.len).trans (Kp.le hlH),q2.tm⟩,f2⟩
  rw [← (tb7 hlH).1]
  show σ.H.length ≤ (kk7 σ.H.length (canon σ.H.length nt σ') σ'.H).length
  rw [yc7 g1]; omega
 ·exact fin K hw fun M' σ' a' w' q1 q2 q3=>hQ a' w' ⟨M',σ',q1,q2,q3⟩
end
def jl7 (n:AS → Bool) (Q:Exit → AS → Bool):Exit → AS → Bool
 | .normal,σ=>n σ
 | e,σ=>Q e σ
def st7 (id:Nat) (Q:Exit → AS → Bool):Exit → AS → Bool
 | .exit j,σ=>if j = id then Q .normal σ else Q (.exit j) σ
 | e,σ=>Q e σ
variable {P:Program} {ty:Ty} {call:bd7} {ord:Nat → List Nat × Nat × Option Nat} {n:Nat}
def ri7 (H:List Root):Nat → AV → AV
 | k + 1, .ptr id n i o=>match aa7 H id with
  | .live _ _ sz r => .rp (sz - o) (fun j=>ri7 H k (r.get i (o + j)))
  | .dead => .junk
 | k + 1, .h id st len=>match aa7 H id with
  | .live _ _ sz r => .sl len sz (fun i j=>ri7 H k (r.get (st + i) j))
  | .dead => .junk
 | _,a=>a
def zd7 (H:List Root):Nat → AV → Bool
 | k + 1, .ptr id n i o=>match aa7 H id with
  | .live _ _ sz r=>decide (r.len = n ∧ i < n) && (List.range (sz - o)).all fun j=>zd7 H k (r.get i (o + j))
  | .dead=>false
 | k + 1, .h id st len=>match aa7 H id with
  | .live _ _ sz r=>decide (st + len = r.len) && (List.range len).all fun i=>(List.range sz).all fun j=>zd7 H k (r.get (st + i) j)
  | .dead=>false
 | _, .junk=>true
 | _,a=>a.fr
theorem pc7.up {M:Mp} {H:List Root} {w:World} {bx:Bool} {a:AV} {v:Value} (h:pc7 M H w bx a v):Con M H w a v:=by
 unfold pc7 at h; split at h
 ·exact h
 ·exact Con.of0 h
theorem dn7 {E:Env} {M:Mp} {H:List Root} {w:World} (h:Rel E M H w):∀ (k:Nat) {x:AV} {v:Value},zd7 H k x = true → Con M H w x v → za7 (gn7 M H) w (ri7 H k x) v:=by
 have plain:∀ {x:AV} {v:Value},x.fr = true → Con M H w x v → za7 (gn7 M H) w x v:=fun hx hc=>rs7 hx (fun _ => .inl) hc
 intro k
 induction k with
 | zero =>
  intro x v ho hc
  cases x with
  | junk=>trivial
  | _=>exact plain ho hc
 | succ k ih =>
  intro x v ho hc
  cases x with
  | ptr id n i o =>
   simp only [zd7] at ho
   simp only [ri7]
   split at ho
   ·rename_i fz t sz r hr
    simp only [Bool.and_eq_true,decide_eq_true_eq,List.all_eq_true,List.mem_range] at ho
    obtain ⟨⟨hl,hi⟩,hf⟩:=ho
    have hv:=(hc.2 _ _ _ _ hr).2 hl
    obtain ⟨cur,c1,c2,c3,c4,c5,c6⟩:=h.row _ _ _ _ _ hr
    refine ⟨M.phi id,i * sz + o,hv, .inr ⟨id,fz,t,sz,_,hr,rfl⟩,fun j hj => ?_⟩
    obtain ⟨u,u1,u2,u3⟩:=c6 i (by omega) (o + j) (by omega)
    refine ⟨u, ?_,ih (hf j hj) u3.up⟩
    simp only [World.cell?,c1]
    rw [Nat.add_assoc]
    simpa using u1
   ·cases ho
  | h id st len =>
   simp only [zd7] at ho
   simp only [ri7]
   split at ho
   ·rename_i fz t sz r hr
    simp only [Bool.and_eq_true,decide_eq_true_eq,List.all_eq_true,List.mem_range] at ho
    obtain ⟨e,hf⟩:=ho
    obtain ⟨cap,cur,rfl,k1,k2,k3,k4⟩:=(hc.2 _ _ _ _ hr).2 e
    obtain ⟨cur2,c1,c2,c3,c4,c5,c6⟩:=h.row _ _ _ _ _ hr
    refine ⟨_,M.phi id,st * sz,cap,rfl,k1,k2,fun _=>⟨rfl, .inr ⟨id,fz,t,sz,r,hr,rfl⟩⟩,fun i hi j hj => ?_⟩
    obtain ⟨u,u1,u2,u3⟩:=c6 (st + i) (by omega) j hj
    refine ⟨u, ?_,ih (hf i hi j hj) u3.up⟩
    rw [show st * sz + i * sz + j = (st + i) * sz + j by rw [Nat.add_mul]]
    simp [World.cell?,c1,u1]
   ·cases ho
  | junk=>trivial
  | _=>exact plain ho hc
def mp7 (H:List Root) (k:Nat):List AV → List AV
 | []=>[]
 | a :: l=>ri7 H k a :: mp7 H k l
def ls7 (H:List Root) (k:Nat):RV → RV
 | .c a => .c (ri7 H k a)
 | .agg l => .agg (mp7 H k l)
 | .fn f l => .fn f (mp7 H k l)
 | .tup l => .tup l
 | .ifc t x => .ifc t x
def me7 (H:List Root) (k:Nat):List RV → List RV
 | []=>[]
 | a :: l=>ls7 H k a :: me7 H k l
def nf7 (H:List Root) (k:Nat):RV → Bool
 | .c a=>zd7 H k a
 | .agg l=>l.all (zd7 H k)
 | .fn _ l=>l.all (zd7 H k)
 | .tup _=>false
 | .ifc .. => false
section
variable {P:Program} {E:Env} {M:Mp} {H:List Root} {w:World}
theorem wg7 (h:Rel E M H w) (k:Nat):∀ {l:List AV} {vs:List Value},l.all (zd7 H k) = true → sa7 M H w l vs → jb7 (gn7 M H) w (mp7 H k l) vs
 | [],_,_,hc=>hc
 | _ :: _,_,ho,⟨v,r,e,h1,h2⟩=>by
  simp only [List.all_cons,Bool.and_eq_true] at ho
  exact ⟨v,r,e,dn7 h k ho.1 h1,wg7 h k ho.2 h2⟩
theorem xo7 (h:Rel E M H w) (k:Nat) {x:RV} {v:Value} (ho:nf7 H k x = true) (hc:ha7 M H w x v):mc7 (gn7 M H) w (ls7 H k x) v:=by
 cases x with
 | c a=>exact dn7 h k ho hc
 | agg l=>obtain ⟨vs,e,hc⟩:=hc; exact ⟨vs,e,wg7 h k ho hc⟩
 | fn f l=>obtain ⟨vs,e,hc⟩:=hc; exact ⟨vs,e,wg7 h k ho hc⟩
 | tup=>cases ho
 | ifc=>cases ho
theorem kf7 (h:Rel E M H w) (k:Nat):∀ {l:List RV} {vs:List Value},l.all (nf7 H k) = true → ka7 M H w l vs → cb7 (gn7 M H) w (me7 H k l) vs
 | [],_,_,hc=>hc
 | _ :: _,_,ho,⟨v,r,e,h1,h2⟩=>by
  simp only [List.all_cons,Bool.and_eq_true] at ho
  exact ⟨v,r,e,xo7 h k ho.1 h1,kf7 h k ho.2 h2⟩
theorem ao7 {M:Mp} {H:List Root} {w:World} {rho:Nat → Prop} {x:AV} {v:Value} (hs:x.scal = true) (h:Con M H w x v):za7 rho w x v:=by
 cases x <;> first | exact h | cases hs
theorem hk7 {M:Mp} {H:List Root} {w:World} {rho:Nat → Prop}:∀ {l:List AV} {vs:List Value},to7 l = true → sa7 M H w l vs → jb7 rho w l vs
 | [],_,_,h=>h
 | _ :: _,_,hs,⟨v,r,e,h1,h2⟩=>by
  simp only [to7,Bool.and_eq_true] at hs
  exact ⟨v,r,e,ao7 hs.1 h1,hk7 hs.2 h2⟩
theorem jg7 {M:Mp} {H:List Root} {w:World} {rho:Nat → Prop} {x:RV} {v:Value} (hs:zq7 x = true) (h:ha7 M H w x v):mc7 rho w x v:=by
 cases x with
 | c a=>exact ao7 hs h
 | agg l=>obtain ⟨vs,e,h⟩:=h; exact ⟨vs,e,hk7 hs h⟩
 | fn=>cases hs
 | tup=>cases hs
 | ifc=>cases hs
theorem qh7 {M:Mp} {H:List Root} {w:World} {rho:Nat → Prop}:∀ {l:List RV} {vs:List Value},bk7 l = true → ka7 M H w l vs → cb7 rho w l vs
 | [],_,_,h=>h
 | _ :: _,_,hs,⟨v,r,e,h1,h2⟩=>by
  simp only [bk7,Bool.and_eq_true] at hs
  exact ⟨v,r,e,jg7 hs.1 h1,qh7 hs.2 h2⟩
theorem mo7 {M:Mp} {H:List Root} {w:World} {rho:Nat → Prop} {x:RV} {v:Value} (hs:fr7 x = true) (h:ha7 M H w x v):uh7 rho w x v:=by
 cases x with
 | tup l=>obtain ⟨vs,e,h⟩:=h; exact ⟨vs,e,qh7 hs h⟩
 | c a=>exact jg7 (x := .c a) hs h
 | agg l=>exact jg7 (x := .agg l) hs h
 | fn f l=>cases hs
 | ifc=>cases hs
end
instance (ty:Ty) (σ:AS) (r:ResultVar):Decidable (es7 ty σ r).1:=by
 unfold es7; split <;> infer_instance
instance decRes (ty:Ty) (σ:AS):∀ l:List ResultVar,Decidable (xj7 ty σ l).1
 | []=>isTrue trivial
 | r :: l => @instDecidableAnd _ _ inferInstance (decRes ty σ l)
def yr7 (ty:Ty) (rs:List ResultVar) (K:RV → List Root → Bool):Exit → AS → Bool
 | .ret,σ=>decide (xj7 ty σ rs).1 && K (one (xj7 ty σ rs).2) σ.H
 | .normal,σ=>decide (xj7 ty σ rs).1 && K (one (xj7 ty σ rs).2) σ.H
 | _,_=>false
theorem eg7 (H:List Root) (k:Nat):∀ l:List RV,(me7 H k l).length = l.length
 | []=>rfl
 | _ :: l=>by simp [me7,eg7 H k l]
end Go.Proofs.YtbfbjghfcajddaaGreat.Ab
