/- Texts of the proof, joined: Run, Dec, EffB, RunB, GlC, Ops, OpA, OpE, Le. -/
import Derived.Laws.Entries
import Derived.Test.YtbfbjghfcajddaaGreatDoorQ4
set_option linter.all false
set_option maxRecDepth 100000
set_option maxHeartbeats 6400000

namespace Go.Proofs.YtbfbjghfcajddaaGreatDoor.Ab
open Go.RowKit
instance (k : IntKind) (n : Int) : Decidable (inK k n) := match k with
 | .i8 => inferInstanceAs (Decidable (_ ∧ _))
 | .i16 => inferInstanceAs (Decidable (_ ∧ _))
 | .i32 => inferInstanceAs (Decidable (_ ∧ _))
 | .i64 => inferInstanceAs (Decidable (_ ∧ _))
 | .u8 => inferInstanceAs (Decidable (_ ∧ _))
 | .u16 => inferInstanceAs (Decidable (_ ∧ _))
 | .u32 => inferInstanceAs (Decidable (_ ∧ _))
 | .u64 => inferInstanceAs (Decidable (_ ∧ _))
instance decNo : Decidable no.1 := isFalse id
instance (op : BinOp) (a b : Int) : Decidable (cmpV op a b).1 := by
 unfold cmpV; split <;> first | exact isTrue trivial | exact decNo
instance (op : BinOp) (k : IntKind) (a b : Int) : Decidable (intV op k a b).1 := by
 unfold intV; split <;> infer_instance
instance (op : BinOp) (t : TyK) (x y : RV) : Decidable (binV op t x y).1 := by
 unfold binV
 split
 ·infer_instance
 ·split
  ·split <;> first | exact isTrue trivial | exact decNo
  ·exact decNo
 ·exact decNo
instance (op : UnOp) (x : RV) : Decidable (unV op x).1 := by
 unfold unV
 split
 ·split <;> first | exact isTrue trivial | exact decNo
 ·split <;> first | infer_instance | exact decNo
 ·exact decNo
instance (a b c : RV) : Decidable (pickV a b c).1 := by
 unfold pickV; split <;> first | exact isTrue trivial | exact decNo | infer_instance
instance (H : List Root) (id st len : Nat) : Decidable (vld H id st len) := by
 unfold vld; split <;> infer_instance
instance (H : List Root) (id n : Nat) : Decidable (vldP H id n) := by
 unfold vldP; split <;> infer_instance
instance (H : List Root) (id st len : Nat) : Decidable (vldF H id st len) := by
 unfold vldF; split <;> infer_instance
instance (k : TyK) (H : List Root) (x : RV) : Decidable (lenV k H x).1 := by
 unfold lenV; repeat' split
 all_goals first | exact decNo | exact isTrue trivial | infer_instance
instance (k : TyK) (H : List Root) (x : RV) (f : Nat) : Decidable (fieldV k H x f).1 := by
 unfold fieldV; repeat' split
 all_goals first | exact decNo | exact isTrue trivial | infer_instance
instance (ty : Ty) (k : TyK) (H : List Root) (x y : RV) : Decidable (indexV ty k H x y).1 := by
 unfold indexV; repeat' split
 all_goals first | exact decNo | exact isTrue trivial | infer_instance
instance (c : Option CK) : Decidable (wldV c).1 := by
 unfold wldV; split <;> first | exact decNo | exact isTrue trivial
instance (e : TyE) (H : List Root) (x : RV) : Decidable (loadV e H x).1 := by
 unfold loadV; repeat' split
 all_goals first | exact decNo | exact isTrue trivial | infer_instance
instance decNth : ∀ (l : List RV) (i : Nat), Decidable (nthR l i).1
 | [], _ => decNo
 | _ :: _, 0 => isTrue trivial
 | _ :: l, i + 1 => decNth l i
instance (x : RV) (i : Nat) : Decidable (extV x i).1 := by
 unfold extV; repeat' split
 all_goals first | exact decNo | exact isTrue trivial | infer_instance
instance (s k : TyK) (x : RV) : Decidable (convV s k x).1 := by
 unfold convV; repeat' split
 all_goals first | exact decNo | exact isTrue trivial | infer_instance
instance (b : Bool) (x y : RV) : Decidable (mmV b x y).1 := by
 unfold mmV; repeat' split
 all_goals first | exact decNo | exact isTrue trivial | infer_instance
instance (k : TyK) (x y : RV) : Decidable (slc2 k x y).1 := by
 unfold slc2; repeat' split
 all_goals first | exact decNo | exact isTrue trivial | infer_instance
instance (k : TyK) (rd : Operand → Bool × RV) (x : RV) (a b c : Option Operand) : Decidable (slcV k rd x a b c).1 := by
 unfold slcV; repeat' split
 all_goals first | exact decNo | exact isTrue trivial | infer_instance
instance decG (g : Bool) : ∀ l : List Bool, Decidable (gOk g l)
 | [] => isTrue trivial
 | h :: l => @instDecidableAnd _ _ (inferInstance) (decG g l)
instance decBd (pl : Nat → Nat × Nat) (rd : Operand → Bool × RV) : ∀ (l : List AV) (ps : List (Nat × Operand)), Decidable (buildV pl rd l ps).1
 | l, [] => isTrue trivial
 | l, (i, x) :: ps => @instDecidableAnd _ _ (inferInstance) (decBd pl rd _ ps)
instance (fn : Fn) (a : List Operand) (l : List RV) : Decidable (mkfV fn a l).1 := by
 unfold mkfV; repeat' split
 ·unfold funV; split <;> first | exact decNo | exact isTrue trivial
 ·exact decNo
instance (ty : Ty) (H : List Root) (b : Builtin) (ts : List TypeId) (l : List RV) : Decidable (bltV ty H b ts l).1 := by
 unfold bltV; repeat' split
 all_goals first | exact decNo | exact isTrue trivial | infer_instance
instance (ty : Ty) (g : Bool) (rd : Operand → Bool × RV) (H : List Root) (o : Op) : Decidable (opV ty g rd H o).1 := by
 unfold opV; repeat' split
 all_goals first | exact decNo | exact isTrue trivial | infer_instance
example : decide (binV .add .b (.c (.int .i64 3)) (.c (.int .i64 4))).1 = true := by decide +kernel
example : (match (if (binV .add .b (.c (.int .i64 3)) (.c (.int .i64 4))).1 then (binV .add .b (.c (.int .i64 3)) (.c (.int .i64 4))).2 else .c .junk) with | .c (.int _ n) => n == 7 | _ => false) = true := by decide +kernel
def frB : List AV → Bool
 | [] => true
 | a :: l => a.fr && frB l
theorem fr_frz {H : List Root} : ∀ {l : List AV}, frB l = true → frzOk H l ∧ frzH H l = H ∧ frzL H l = l
 | [], _ => ⟨trivial, rfl, rfl⟩
 | a :: l, h => by
  simp only [frB, Bool.and_eq_true] at h
  obtain ⟨h1, h2⟩ := h
  obtain ⟨g1, g2, g3⟩ := fr_frz (H := H) h2
  cases a <;> first | (cases h1; done) | exact ⟨g1, g2, by simp only [frzL, frz, g3]⟩
instance (k : TyK) : Decidable (kN k) := by unfold kN; split <;> first | exact isTrue trivial | exact isFalse id
instance (sz : Nat) (r : Row) (i o : Nat) (cs : List AV) : Decidable (r.put sz i o cs).1 := by
 unfold Row.put; split <;> first | exact isTrue trivial | exact isFalse id | infer_instance
def stoB (e : TyE) (H : List Root) (p v : RV) (K : List Root → Bool) : Bool :=
 match p with
 | .c (.ptr id n i o) => match rootAt H id with
  | .live fz t sz r => (!fz && decide ((cellsR v).length = e.sz ∧ r.len = n ∧ i < n ∧ o + e.sz ≤ sz ∧ 0 < e.sz ∧ kN e.k)) &&
   (if r.isBox then njL (cellsR v) && K (setRoot H id (.live false t sz (r.put sz i o (cellsR v)).2))
   else frB (cellsR v) && (decide (r.put sz i o (cellsR v)).1 && K (setRoot H id (.live false t sz (r.put sz i o (cellsR v)).2))))
  | .dead => false
 | _ => false
theorem stoB_ok {e : TyE} {H : List Root} {p v : RV} {K : List Root → Bool} (h : stoB e H p v K = true) : stoT e H p v (fun H => K H = true) := by
 unfold stoB at h
 split at h
 ·rename_i id n i o
  split at h
  ·rename_i fz t sz r hr
   simp only [Bool.and_eq_true, Bool.not_eq_true', decide_eq_true_eq] at h
   obtain ⟨⟨hf, hc⟩, h⟩ := h
   unfold stoT
   simp only
   unfold storeV
   simp only [hr]
   refine ⟨hf, hc, ?_⟩
   split at h
   ·rename_i hb
    rw [if_pos hb]
    simpa [Bool.and_eq_true] using h
   ·rename_i hb
    rw [if_neg hb]
    simp only [Bool.and_eq_true, decide_eq_true_eq] at h
    obtain ⟨h1, h2, h3⟩ := h
    obtain ⟨g1, g2, g3⟩ := fr_frz (H := H) h1
    rw [g2, g3]
    exact ⟨g1, by rw [hr, hf], h2, h3⟩
  ·cases h
 ·cases h
instance (k : TyK) (els : List (List AV)) : Decidable (mkRow k els).1 := by
 unfold mkRow; repeat' split
 all_goals first | exact isTrue trivial | exact isFalse id
def litB (ty : Ty) (e : TypeId) (H : List Root) (n : Nat) (ok : Bool) (l : List AV) (K : RV → List Root → Bool) : Bool :=
 match (ty e).wk with
 | some [] => ok && (njL l && (decide (0 < (ty e).sz ∧ n * (ty e).sz ≤ 16777216) && K (.c (.h H.length 0 n)) (H ++ [.live false e (ty e).sz (.own (chunk (ty e).sz n l))])))
 | none => ok && (frB l && (decide (mkRow (ty e).k (chunk (ty e).sz n l)).1 && (decide (0 < (ty e).sz ∧ n * (ty e).sz ≤ 16777216) && K (.c (.h H.length 0 n)) (H ++ [.live false e (ty e).sz (mkRow (ty e).k (chunk (ty e).sz n l)).2]))))
 | _ => false
theorem litB_ok {ty : Ty} {e : TypeId} {H : List Root} {n : Nat} {q : Prop × List AV} [Decidable q.1] {K : RV → List Root → Bool} (h : litB ty e H n (decide q.1) q.2 K = true) :
  ((ty e).wk = none ∧ litV ty e H n q (fun r H => K r H = true)) ∨ ((ty e).wk = some [] ∧ litO ty e H n q (fun r H => K r H = true)) := by
 unfold litB at h
 split at h
 ·rename_i hw
  simp only [Bool.and_eq_true, decide_eq_true_eq] at h
  exact .inr ⟨hw, h⟩
 ·rename_i hw
  simp only [Bool.and_eq_true, decide_eq_true_eq] at h
  obtain ⟨h1, h2, h3, h4, h5⟩ := h
  obtain ⟨g1, g2, g3⟩ := fr_frz (H := H) h2
  refine .inl ⟨hw, ?_⟩
  unfold litV
  rw [g2, g3]
  exact ⟨h1, g1, h3, h4, h5⟩
 ·cases h
instance decFrz (H : List Root) : ∀ l : List AV, Decidable (frzOk H l)
 | [] => isTrue trivial
 | .h id st len :: l => @instDecidableAnd _ _ inferInstance (decFrz H l)
 | .ptr .. :: _ => isFalse id
 | .junk :: _ => isFalse id
 | .ws .. :: _ => isFalse id
 | .wu .. :: _ => isFalse id
 | .wp .. :: _ => isFalse id
 | .int .. :: l => decFrz H l
 | .bool .. :: l => decFrz H l
 | .flt .. :: l => decFrz H l
 | .str .. :: l => decFrz H l
 | .nilp :: l => decFrz H l
 | .nils :: l => decFrz H l
 | .sl .. :: l => decFrz H l
 | .rp .. :: l => decFrz H l
def zOkB (k : TyK) (z : List AV) : Bool :=
 match k with
 | .i k => match z with
  | [.int k' n] => decide (k = k') && decide (n = 0)
  | _ => false
 | .b => match z with
  | [.bool b] => !b
  | _ => false
 | .no => false
 | .str => decide (frzOk [] z)
 | .sc => decide (frzOk [] z)
 | .st _ => decide (frzOk [] z)
 | .ar .. => decide (frzOk [] z)
 | .sl _ => decide (frzOk [] z)
theorem zOkB_ok {k : TyK} {z : List AV} (h : zOkB k z = true) : zOk k z := by
 cases k with
 | i k =>
  simp only [zOkB] at h
  split at h
  ·simp only [Bool.and_eq_true, decide_eq_true_eq] at h; obtain ⟨rfl, rfl⟩ := h; rfl
  ·cases h
 | b =>
  simp only [zOkB] at h
  split at h
  ·simp only [Bool.not_eq_true'] at h; subst h; rfl
  ·cases h
 | no => cases h
 | _ => exact of_decide_eq_true (p := frzOk [] z) h
def makeB (ty : Ty) (k : TyK) (H : List Root) (n c : RV) (K : RV → List Root → Bool) : Bool :=
 match k with
 | .sl e => match n, c with
  | .c (.int _ n), .c (.int _ c) => (decide (0 ≤ n ∧ n ≤ 1099511627776 ∧ c = n ∧ 0 < (ty e).sz ∧ (ty e).bytes ≤ 128) && zOkB (ty e).k (ty e).zero) && K (.c (.h H.length 0 n.toNat)) (H ++ [.live false e (ty e).sz (zerosW (ty e).wk (ty e).k (ty e).zero n.toNat)])
  | _, _ => false
 | _ => false
theorem makeB_ok {ty : Ty} {k : TyK} {H : List Root} {n c : RV} {K : RV → List Root → Bool} (h : makeB ty k H n c K = true) : makeV ty k H n c (fun r H => K r H = true) := by
 unfold makeB at h
 split at h
 ·split at h
  ·simp only [Bool.and_eq_true, decide_eq_true_eq] at h
   obtain ⟨⟨⟨h1, h2, h3, h4, h5⟩, h6⟩, h7⟩ := h
   exact ⟨⟨h1, h2, h3, h4, h5, zOkB_ok h6⟩, h7⟩
  ·cases h
 ·cases h
instance (H : List Root) (x : RV) : Decidable (appSrc H x).1 := by
 unfold appSrc; repeat' split
 all_goals first | exact isFalse id | infer_instance
instance (r s : Row) : Decidable (r.app s).1 := by
 unfold Row.app; split <;> first | exact isTrue trivial | exact isFalse id | infer_instance
def appB (ty : Ty) (k : TyK) (H : List Root) (s x : RV) (K : RV → List Root → Bool) : Bool :=
 match k with
 | .sl e => (match (ty e).wk with
   | none => true
   | some [] => true
   | _ => false) && (decide ((appSrc H x).1 ∧ (appSrc H x).2.2 = (ty e).sz ∧ 0 < (ty e).sz ∧ (ty e).bytes ≤ 128) &&
  match s with
  | .c .nils => decide (0 < (appSrc H x).2.1.len ∧ (appSrc H x).2.1.len ≤ 1099511627776) && K (.c (.h H.length 0 (appSrc H x).2.1.len)) (H ++ [.live false e (ty e).sz (appSrc H x).2.1])
  | .c (.h id st len) => match rootAt H id with
   | .live fz t sz r => decide (fz = false ∧ st = 0 ∧ len = r.len ∧ t = e ∧ sz = (ty e).sz ∧ len + (appSrc H x).2.1.len ≤ 1099511627776) && (decide (r.app (appSrc H x).2.1).1 && K (.c (.h id 0 (len + (appSrc H x).2.1.len))) (setRoot H id (.live false t sz (r.app (appSrc H x).2.1).2)))
   | .dead => false
  | _ => false)
 | _ => false
theorem appB_ok {ty : Ty} {k : TyK} {H : List Root} {s x : RV} {K : RV → List Root → Bool} (h : appB ty k H s x K = true) : appT ty k H s x (fun r H => K r H = true) := by
 unfold appB at h
 split at h
 ·rename_i e
  simp only [Bool.and_eq_true, decide_eq_true_eq] at h
  obtain ⟨hw, ⟨h1, h2, h3, h4⟩, h⟩ := h
  have hv : appV ty (.sl e) H s x (fun r H => K r H = true) := by
   unfold appV
   refine ⟨h1, h2, h3, h4, ?_⟩
   split at h
   ·simpa [Bool.and_eq_true] using h
   ·split at h
    ·rename_i hr
     simp only [hr]
     simpa [Bool.and_eq_true] using h
    ·cases h
   ·cases h
  unfold appT
  simp only
  split
  ·exact hv
  ·exact hv
  ·rename_i hk; rw [hk] at hw; cases hw
 ·cases h
abbrev CallB := Pu → FuncId → List RV → List Root → (RV → List Root → Bool) → Bool
section
variable (ty : Ty) (call : CallB)
def effB (pu : Pu) (tm : Tm) (rd : Operand → Bool × RV) (H : List Root) (o : Oper) (K : AS → Bool) : Bool :=
 match o.op with
 | .box t x => decide ((cellsR (rd x).2).length = (ty t).sz ∧ 0 < (ty t).sz ∧ njL (cellsR (rd x).2) = true) && K ⟨putT tm true o.dst (.c (.ptr H.length 1 0 0)), H ++ [.live false t (ty t).sz (.box (cellsR (rd x).2))]⟩
 | .alloc t => decide (0 < (ty t).sz ∧ kN (ty t).k) && K ⟨putT tm true o.dst (.c (.ptr H.length 1 0 0)), H ++ [.live false t (ty t).sz (.box (ty t).zero)]⟩
 | .store t p v => pu.isNone && stoB (ty t) H (rd p).2 (rd v).2 (fun H => K ⟨putT tm true o.dst (.c .junk), H⟩)
 | .buildSlice t n ps => match (ty t).k with
  | .sl e => litB ty e H n (decide (buildV (fun i => (i * (ty e).sz, (ty e).sz)) rd (rep (ty e).zero n) ps.toList).1) (buildV (fun i => (i * (ty e).sz, (ty e).sz)) rd (rep (ty e).zero n) ps.toList).2 (fun r H => K ⟨putT tm true o.dst r, H⟩)
  | _ => false
 | .makeSlice t n c => makeB ty (ty t).k H (rd n).2 (rd c).2 (fun r H => K ⟨putT tm true o.dst r, H⟩)
 | .call c => match c.callee with
  | .builtin .append => match c.args.toList with
   | [s, x] => pu.isNone && (decide (c.argTypes.toList = [c.argTypes.getD 0 0, c.argTypes.getD 0 0]) && appB ty (ty (c.argTypes.getD 0 0)).k H (rd s).2 (rd x).2 (fun r H => K ⟨putT tm true o.dst r, H⟩))
   | _ => false
  | .value f => match (rd f).2 with
   | .fn f caps => call pu f (rds rd c.args.toList ++ caps.map .c) H (fun r H => K ⟨putT tm true o.dst r, H⟩)
   | _ => false
  | _ => false
 | _ => false
end
section
variable {P : Program} {ty : Ty} {call : CallB} {pu : Pu} {tm : Tm} {rd : Operand → Bool × RV} {H : List Root} {o : Oper} {K : AS → Bool}
theorem effB_ok (hcall : ∀ pu f args H K, call pu f args H K = true → callK P pu f args H (fun r H => K r H = true)) (h : effB ty call pu tm rd H o K = true) : eff P ty pu tm rd H o (fun σ => K σ = true) := by
 have hpu : pu.isNone = true → pu = none := fun h => by cases pu <;> first | rfl | cases h
 obtain ⟨d, op, ot, po, af, gd⟩ := o
 cases op with
 | box t x =>
  dsimp only [effB] at h
  simp only [Bool.and_eq_true, decide_eq_true_eq] at h
  exact h
 | alloc t =>
  dsimp only [effB] at h
  simp only [Bool.and_eq_true, decide_eq_true_eq] at h
  exact h
 | store t p v =>
  dsimp only [effB] at h
  simp only [Bool.and_eq_true] at h
  obtain ⟨h1, h2⟩ := h
  cases hpu h1
  exact ⟨trivial, stoB_ok h2⟩
 | buildSlice t n ps =>
  dsimp only [effB] at h
  dsimp only [eff]
  split at h
  ·rename_i hk
   simp only [hk]
   rcases litB_ok h with ⟨hw, h⟩ | ⟨hw, h⟩
   ·simp only [hw]; exact h
   ·simp only [hw]; exact h
  ·cases h
 | makeSlice t n c =>
  dsimp only [effB] at h
  exact makeB_ok h
 | call c =>
  dsimp only [effB] at h
  dsimp only [eff]
  split at h
  ·rename_i hc
   split at h
   ·rename_i hargs
    simp only [Bool.and_eq_true, decide_eq_true_eq] at h
    obtain ⟨h1, h2, h3⟩ := h
    cases hpu h1
    simp only [hc, hargs]
    exact ⟨trivial, h2, appB_ok h3⟩
   ·cases h
  ·rename_i hc
   split at h
   ·rename_i hf
    simp only [hc, hf]
    exact hcall _ _ _ _ _ h
   ·cases h
  ·cases h
 | _ => cases h
end
section
variable (ty : Ty) (call : CallB)
def opB (pu : Pu) (ops : Array Oper) (σ : AS) (o : Oper) (K : AS → Bool) : Bool :=
 match guardOf σ.tm ops o.guard with
 | none => false
 | some g => decide (gOk g (opGs σ.rd o.op)) &&
  (if isV o.op then (!g || decide (opV ty g σ.rd σ.H o.op).1) && K ⟨putT σ.tm g o.dst (opV ty g σ.rd σ.H o.op).2, σ.H⟩
  else if g then effB ty call pu σ.tm σ.rd σ.H o K else K ⟨putT σ.tm g o.dst (.c .junk), σ.H⟩)
end
section
variable {P : Program} {ty : Ty} {call : CallB} {pu : Pu} {ops : Array Oper}
theorem opB_ok (hcall : ∀ pu f args H K, call pu f args H K = true → callK P pu f args H (fun r H => K r H = true)) {σ : AS} {o : Oper} {K : AS → Bool} (h : opB ty call pu ops σ o K = true) : awpO P ty pu none ops σ o (fun σ => K σ = true) := by
 unfold opB at h
 unfold awpO
 split at h
 ·cases h
 ·rename_i g hg
  simp only [Bool.and_eq_true, decide_eq_true_eq] at h
  obtain ⟨h1, h2⟩ := h
  split at h2
  ·rename_i hv
   rw [if_pos hv]
   unfold awpV
   simp only [hg]
   simp only [Bool.and_eq_true, Bool.or_eq_true, Bool.not_eq_true', decide_eq_true_eq] at h2
   exact ⟨h1, trivial, fun e => by rcases h2.1 with q | q <;> simp_all, h2.2⟩
  ·rename_i hv
   rw [if_neg hv]
   refine ⟨trivial, ?_⟩
   unfold awpE
   simp only [hg]
   refine ⟨h1, fun e => ?_, fun e => ?_⟩
   ·subst e; exact effB_ok hcall h2
   ·subst e; exact h2
theorem callK_mono {f : FuncId} {args : List RV} {H : List Root} {K K' : RV → List Root → Prop} (hK : ∀ r H, K r H → K' r H) (h : callK P pu f args H K) : callK P pu f args H K' :=
 ⟨h.1, fun E M w vs hr hc => (h.2 E M w vs hr hc).mono fun e w' ⟨M', H', r, v, e1, e2, e3, e4, e5, e6, e7⟩ => ⟨M', H', r, v, e1, e2, e3, e4, e5, e6, hK _ _ e7⟩⟩
end
theorem glob_con {rho : Nat → Prop} {w : World} {g : Nat} {x : AV} (h : glV g = some x) (hg : GlobOk w) (hr : rho g) : Con0 rho w x (.pointer (some ⟨g, 0, none⟩)) := by
 unfold glV at h
 split at h
 ·cases h
  refine ⟨0, 0, rfl, hr, fun j hj => ⟨_, ?_, rfl⟩⟩
  rw [Nat.zero_add]; exact hg.2 j hj
 ·cases h
noncomputable def lkF (tm : Tm) (t : Nat) : Bool × RV := List.rec (motive := fun _ => Bool × RV) (true, .c .junk) (fun e _ ih => Bool.rec ih e.2 (Nat.beq e.1 t)) tm
theorem lkF_eq : ∀ (tm : Tm) (t : Nat), lkF tm t = lk tm t
 | [], _ => rfl
 | (k, v) :: l, t => by
  have e : lkF ((k, v) :: l) t = Bool.rec (lkF l t) v (Nat.beq k t) := rfl
  rw [e, lkF_eq l t]
  by_cases h : k = t
  ·subst h; rw [Nat.beq_refl]; simp [lk]
  ·have : Nat.beq k t = false := by rw [Bool.eq_false_iff]; exact fun hh => h (Nat.eq_of_beq_eq_true hh)
   rw [this]; simp [lk, h]
noncomputable def rdF (σ : AS) (x : Operand) : Bool × RV :=
 match x with
 | .tmp t => lkF σ.tm t
 | .const v => (true, ofConst v)
 | .func f => (true, .fn f [])
 | .global _ => (true, .c .junk)
theorem rdF_eq (σ : AS) : rdF σ = σ.rd := by
 funext x
 cases x with
 | tmp t => exact lkF_eq σ.tm t
 | _ => rfl
noncomputable def guardF (tm : Tm) (ops : Array Oper) (gd : Option (Nat × Bool)) : Option Bool :=
 match gd with
 | none => some true
 | some (j, want) => match nthO ops.toList j with
  | some o => match o.dst with
   | some d => match lkF tm d with
    | (g, .c (.bool b)) => some (g && (if want then b else !b))
    | _ => none
   | none => none
  | none => none
theorem guardF_eq (tm : Tm) (ops : Array Oper) (gd : Option (Nat × Bool)) : guardF tm ops gd = guardOf tm ops gd := by
 unfold guardF guardOf
 simp only [lkF_eq]
 cases gd <;> rfl
noncomputable def fxF (tm : Tm) : List Nat → Tm
 | [] => []
 | t :: l => (t, lkF tm t) :: fxF tm l
theorem fxF_eq (tm : Tm) : ∀ l : List Nat, fxF tm l = fxT tm l
 | [] => rfl
 | t :: l => by simp only [fxF, fxT, lkF_eq, fxF_eq tm l]
section
variable (P : Program) (ty : Ty)
def bitV (op : BinOp) : RV → RV → Option RV
 | .c (.int k a), .c (.int k' b) => match op with
  | .shl => if 0 ≤ b then some (.c (.int k (k.wrap (a * 2 ^ min b.toNat k.bits)))) else none
  | .shr => if 0 ≤ b then some (.c (.int k (a.fdiv (2 ^ min b.toNat k.bits)))) else none
  | .and => if k = k' then some (.c (.int k (k.wrap (BitVec.ofInt k.bits a &&& BitVec.ofInt k.bits b).toNat))) else none
  | .or => if k = k' then some (.c (.int k (k.wrap (BitVec.ofInt k.bits a ||| BitVec.ofInt k.bits b).toNat))) else none
  | .andNot => if k = k' then some (.c (.int k (k.wrap (BitVec.ofInt k.bits a &&& ~~~BitVec.ofInt k.bits b).toNat))) else none
  | .xor => if k = k' then some (.c (.int k (k.wrap (BitVec.ofInt k.bits a ^^^ BitVec.ofInt k.bits b).toNat))) else none
  | .mul => if k = k' then some (.c (.int k (k.wrap (a * b)))) else none
  | _ => none
 | _, _ => none
def nilV (H : List Root) (t : TypeId) : RV → RV → Option Bool
 | .c (.ptr id n _ _), .c .nilp => match P.underlying t, rootAt H id with
  | some (.pointer _), .live _ _ _ r => if r.len = n then some false else none
  | _, _ => none
 | .c .nilp, .c .nilp => match P.underlying t with
  | some (.pointer _) => some true
  | _ => none
 | .c .nils, .c .nils => match P.underlying t with
  | some (.slice _) => some true
  | _ => none
 | .c (.h id st n), .c .nils => match P.underlying t, rootAt H id with
  | some (.slice _), .live _ _ _ r => if st + n = r.len then some false else none
  | _, _ => none
 | _, _ => none
def eqFs (l m : List AV) : List Field → Option Bool
 | [] => some true
 | f :: fs => match f.name == "_", P.underlying f.type, nth l f.offset, nth m f.offset with
  | false, some (.int _), .int k a, .int k' b => if k = k' then (eqFs l m fs).map fun r => decide (a = b) && r else none
  | false, some .bool, .bool a, .bool b => (eqFs l m fs).map fun r => (a == b) && r
  | _, _, _, _ => none
def cmpA (H : List Root) (t : TypeId) (p q : RV) : Option Bool :=
 match p, q with
 | .agg l, .agg m => if P.stoodInHeld t = false ∧ P.eqGuardType P.depth t = false then (match P.underlying t with
  | some (.struct fs) => eqFs P l m fs.toList
  | _ => none) else none
 | p, q => nilV P H t p q
def eqlV (H : List Root) (op : BinOp) (t : TypeId) (p q : RV) : Option RV :=
 match op with
 | .eql => (cmpA P H t p q).map fun b => .c (.bool b)
 | .neq => (cmpA P H t p q).map fun b => .c (.bool (!b))
 | _ => none
def slcL (k : TyK) (H : List Root) : RV → RV → Option RV
 | .c .nils, .c (.int _ m) => match k with
  | .sl _ => if m = 0 then some (.c .nils) else none
  | _ => none
 | .c (.sl n sz f), .c (.int _ m) => match k with
  | .sl e => if 0 ≤ m ∧ m < n ∧ sz = (ty e).sz then some (.c (.sl (n - m.toNat) sz fun i j => f (i + m.toNat) j)) else none
  | _ => none
 | .c (.h id st n), .c (.int _ m) => match k with
  | .sl e => match rootAt H id with
   | .live _ _ sz r => if 0 ≤ m ∧ m ≤ n ∧ st + n = r.len ∧ sz = (ty e).sz then some (.c (.h id (st + m.toNat) (n - m.toNat))) else none
   | .dead => none
  | _ => none
 | _, _ => none
def arrV (t : TypeId) : RV → RV → Option RV
 | .agg l, .c (.int _ i) => match P.underlying t with
  | some (.array n e) => match P.underlying e with
   | some (.struct _) => none
   | some (.array _ _) => none
   | some _ => if 0 ≤ i ∧ i < n ∧ i.toNat * P.cellsOf e < l.length ∧ (P.info? e).isSome = true then some (.c (nth l (i.toNat * P.cellsOf e))) else none
   | none => none
  | _ => none
 | _, _ => none
def rdO (rd : Operand → Bool × RV) (x : Operand) : Option RV :=
 match x with
 | .global g => (glV g).map .c
 | x => match rd x with
  | (true, v) => some v
  | _ => none
def chrV (t : TypeId) : RV → RV → Option RV
 | .c (.str s), .c (.int _ i) => match P.underlying t with
  | some .string => match (if 0 ≤ i then s[i.toNat]? else none) with
   | some b => some (.c (.int .u8 b.toNat))
   | none => none
  | _ => none
 | _, _ => none
def garV (t : TypeId) : RV → RV → Option RV
 | .c (.rp m f), .c (.int _ i) => match P.underlying t with
  | some (.array n e) => if 0 ≤ i ∧ i < n ∧ (i.toNat + 1) * P.cellsOf e ≤ m ∧ (P.info? e).isSome = true then some (.c (.rp (P.cellsOf e) fun j => f (i.toNat * P.cellsOf e + j))) else none
  | _ => none
 | _, _ => none
def fldV (t : TypeId) (f : Nat) : RV → Option RV
 | .agg l => match P.underlying t with
  | some (.struct fs) => match fs[f]? with
   | some fd => match P.underlying fd.type with
    | some (.struct _) => none
    | some (.array _ _) => none
    | some _ => if fd.offset < l.length then some (.c (nth l fd.offset)) else none
    | none => none
   | none => none
  | _ => none
 | _ => none
def negV : RV → Option RV
 | .c (.int k a) => some (.c (.int k (k.wrap (-a))))
 | _ => none
def ifcT (t : TypeId) : Bool :=
 match P.underlying t with
 | some (.interface _) => false
 | some _ => true
 | none => false
def newV (rd : Operand → Bool × RV) (H : List Root) : Op → Option RV
 | .nilCheck x => match rdO rd x with
  | some (.c (.ptr id n i o)) => match rootAt H id with
   | .live _ _ _ r => if r.len = n then some (.c (.ptr id n i o)) else none
   | .dead => none
  | some (.c (.rp n f)) => some (.c (.rp n f))
  | _ => none
 | .makeInterface t x => (rdO rd x).bind fun v => if ifcT P t then some (.ifc t v) else none
 | .typeAssert x _ tt ok => match rdO rd x with
  | some (.ifc t v) => if t = tt ∧ ok = false ∧ ifcT P tt = true then some v else none
  | _ => none
 | .binOp op t x y _ => (rdO rd x).bind fun p => (rdO rd y).bind fun q => match bitV op p q with
  | some r => some r
  | none => eqlV P H op t p q
 | .slice t x (some lo) none none => (rdO rd x).bind fun p => (rdO rd lo).bind fun q => slcL ty (ty t).k H p q
 | .index t x i => (rdO rd x).bind fun p => (rdO rd i).bind fun q => match chrV P t p q with
  | some r => some r
  | none => arrV P t p q
 | .indexAddr t x i => (rdO rd x).bind fun p => (rdO rd i).bind fun q => garV P t p q
 | .field t x f => (rdO rd x).bind fun p => fldV P t f p
 | .unOp op _ x => match op with
  | .neg => (rdO rd x).bind negV
  | _ => none
 | .build t ps => match (ty t).k with
  | .ar _ esz => if gOk true (pgs rd ps.toList) ∧ (buildV (fun i => (i * esz, esz)) rd (ty t).zero ps.toList).1 then some (.agg (buildV (fun i => (i * esz, esz)) rd (ty t).zero ps.toList).2) else none
  | _ => none
 | _ => none
end
section
variable {P : Program} {ty : Ty} {E : Env} {nt : Nat} {M : Mp} {σ : AS} {a : Act} {w : World}
theorem rdO_ok (h : St E nt M σ a w) {x : Operand} {v : RV} (hx : rdO σ.rd x = some v) : ConR M σ.H w v (a.eval x) := by
 unfold rdO at hx
 split at hx
 ·rename_i g
  obtain ⟨b, hb, rfl⟩ := Option.map_eq_some_iff.1 hx
  exact Con.of0 (glob_con hb h.rel.glob.1 (h.rel.glob.2 g b hb))
 ·rename_i x' hng
  split at hx
  ·rename_i u e
   cases hx
   have := h.rd (x := x) (by rw [e])
   rw [e] at this
   exact this
  ·cases hx
theorem bit_ok (op : BinOp) (t : TypeId) {p q r : RV} {u v : Value} (hp : ConR M σ.H w p u) (hq : ConR M σ.H w q v) (h : bitV op p q = some r) (x y : Operand) : ∃ z, ConR M σ.H w r z ∧ ∀ w', (do eqGuard op t x y u v; binOp op t u v).run P w' = .ok z w' := by
 unfold bitV at h
 split at h
 ·rename_i k m k' n
  obtain rfl := con_int hp
  obtain rfl := con_int hq
  simp only [Sem.run_bind, run_eqG_int]
  split at h
  ·split at h <;> cases h
   rename_i h0
   exact ⟨_, rfl, fun w' => by simp [Result.andThen, binOp, Op.shift, Int.not_lt.2 h0]⟩
  ·split at h <;> cases h
   rename_i h0
   exact ⟨_, rfl, fun w' => by simp [Result.andThen, binOp, Op.shift, Int.not_lt.2 h0]⟩
  ·split at h <;> cases h
   rename_i h0
   subst h0
   exact ⟨_, rfl, fun w' => by simp [Result.andThen, binOp, Op.intBits]⟩
  ·split at h <;> cases h
   rename_i h0
   subst h0
   exact ⟨_, rfl, fun w' => by simp [Result.andThen, binOp, Op.intBits]⟩
  ·split at h <;> cases h
   rename_i h0
   subst h0
   exact ⟨_, rfl, fun w' => by simp [Result.andThen, binOp, Op.intBits]⟩
  ·split at h <;> cases h
   rename_i h0
   subst h0
   exact ⟨_, rfl, fun w' => by simp [Result.andThen, binOp, Op.intBits]⟩
  ·split at h <;> cases h
   rename_i h0
   subst h0
   exact ⟨_, rfl, fun w' => by simp [Result.andThen, binOp, Op.intArith]⟩
  ·cases h
 ·cases h
theorem run_eqS {t : TypeId} {u v : Value} {b : Bool} (h : (Op.equalIn Op.maxDepth t u v).run P w = .ok b w) (hu : ∀ k n, u ≠ .int k n) (h1 : ∀ k n, u ≠ .float k n) (h2 : ∀ k m n, u ≠ .complex k m n) (h3 : ∀ s, u ≠ .string s) :
  (binOp .eql t u v).run P w = .ok (.bool b) w ∧ (binOp .neq t u v).run P w = .ok (.bool (!b)) w := by
 have e1 : binOp .eql t u v = (do pure (.bool (← Op.equal t u v))) := by
  cases u <;> first | rfl | (exfalso; first | exact hu _ _ rfl | exact h1 _ _ rfl | exact h2 _ _ _ rfl | exact h3 _ rfl)
 have e2 : binOp .neq t u v = (do pure (.bool (!(← Op.equal t u v)))) := by
  cases u <;> first | rfl | (exfalso; first | exact hu _ _ rfl | exact h1 _ _ rfl | exact h2 _ _ _ rfl | exact h3 _ rfl)
 rw [e1, e2]
 constructor
 ·rw [Sem.run_bind, show (Op.equal t u v).run P w = .ok b w from h]; rfl
 ·rw [Sem.run_bind, show (Op.equal t u v).run P w = .ok b w from h]; rfl
theorem nil_ok {t : TypeId} {p q : RV} {u v : Value} {b : Bool} (hp : ConR M σ.H w p u) (hq : ConR M σ.H w q v) (h : nilV P σ.H t p q = some b) (d : Nat) :
  (∀ w', (Op.equalIn (d + 1) t u v).run P w' = .ok b w') ∧ ((∃ x, u = .pointer x) ∨ ∃ x n c, u = .slice x n c) ∧ ((∃ x, v = .pointer x) ∨ ∃ x n c, v = .slice x n c) := by
 unfold nilV at h
 split at h
 ·rename_i id n i o
  have hv : v = .pointer none := hq
  subst hv
  split at h
  ·rename_i e fz t2 sz r hu hr
   split at h <;> cases h
   rename_i hl
   have := (hp.2 _ _ _ _ hr).2 hl
   subst this
   exact ⟨fun w' => by simp [Op.equalIn, run_underlying hu], .inl ⟨_, rfl⟩, .inl ⟨_, rfl⟩⟩
  ·cases h
 ·have hv : v = .pointer none := hq
  have hu0 : u = .pointer none := hp
  subst hv hu0
  split at h <;> cases h
  rename_i e hu
  exact ⟨fun w' => by simp [Op.equalIn, run_underlying hu], .inl ⟨_, rfl⟩, .inl ⟨_, rfl⟩⟩
 ·have hv : v = .slice none 0 0 := hq
  have hu0 : u = .slice none 0 0 := hp
  subst hv hu0
  split at h <;> cases h
  rename_i e hu
  exact ⟨fun w' => by simp [Op.equalIn, run_underlying hu], .inr ⟨_, _, _, rfl⟩, .inr ⟨_, _, _, rfl⟩⟩
 ·rename_i id st n
  have hv : v = .slice none 0 0 := hq
  subst hv
  split at h
  ·rename_i e fz t2 sz r hu hr
   split at h <;> cases h
   rename_i hl
   obtain ⟨cap, cur, ad, rfl, -⟩ := (hp.2 _ _ _ _ hr).2 hl
   exact ⟨fun w' => by simp [Op.equalIn, run_underlying hu], .inr ⟨_, _, _, rfl⟩, .inr ⟨_, _, _, rfl⟩⟩
  ·cases h
 ·cases h
theorem part_at (t : TypeId) {d : TypeDesc} (hd : P.underlying t = some d) (hk : match d with | .struct _ | .array _ _ => False | _ => True) {xs : List Value} {o : Nat} {z : Value} (hz : xs[o]? = some z) (w' : World) : (part t xs.toArray o).run P w' = .ok z w' := by
 have ha : (isAgg t).run P w' = .ok false w' := by
  simp only [isAgg, Sem.run_bind, run_underlying hd, Result.andThen]
  cases d <;> first | exact hk.elim | rfl
 simp [part, ha, hz]
theorem nth_con {l : List AV} {vs : List Value} (h : ConL M σ.H w l vs) {o : Nat} (hn : (nth l o).nj = true) : ∃ z, vs[o]? = some z ∧ Con M σ.H w (nth l o) z := by
 have hl := h.len
 by_cases ho : o < l.length
 ·exact ⟨vs[o]'(by omega), List.getElem?_eq_getElem _, h.get o _ (List.getElem?_eq_getElem _)⟩
 ·rw [nth_big (by omega)] at hn; cases hn
theorem eqFs_ok {l m : List AV} {xs ys : List Value} (hx : ConL M σ.H w l xs) (hy : ConL M σ.H w m ys) (d : Nat) (w' : World) : ∀ {fs : List Field} {b : Bool}, eqFs P l m fs = some b → (Op.eqFields (d + 1) xs.toArray ys.toArray fs).run P w' = .ok b w'
 | [], b, h => by cases h; rfl
 | f :: fs, b, h => by
  unfold eqFs at h
  split at h
  ·rename_i k0 k a k' c hnm hu h1 h2
   split at h
   case isFalse => cases h
   rename_i hk
   subst hk
   obtain ⟨r, hr, rfl⟩ := Option.map_eq_some_iff.1 h
   obtain ⟨z1, z2, z3⟩ := nth_con hx (o := f.offset) (by rw [h1]; rfl)
   obtain ⟨y1, y2, y3⟩ := nth_con hy (o := f.offset) (by rw [h2]; rfl)
   rw [h1] at z3
   rw [h2] at y3
   have z3 : z1 = .int k a := z3
   have y3 : y1 = .int k c := y3
   subst z3 y3
   have hn : f.name ≠ "_" := by simpa using hnm
   have ih := eqFs_ok hx hy d w' hr
   simp only [Op.eqFields, if_pos hn, Sem.run_bind, part_at f.type hu trivial z2, part_at f.type hu trivial y2, Result.andThen_ok, run_equalIn_int w' d f.type k k0 a c hu]
   by_cases hac : a = c
   ·simp [hac, ih]
   ·simp [hac]
  ·rename_i a c hnm hu h1 h2
   obtain ⟨r, hr, rfl⟩ := Option.map_eq_some_iff.1 h
   obtain ⟨z1, z2, z3⟩ := nth_con hx (o := f.offset) (by rw [h1]; rfl)
   obtain ⟨y1, y2, y3⟩ := nth_con hy (o := f.offset) (by rw [h2]; rfl)
   rw [h1] at z3
   rw [h2] at y3
   have z3 : z1 = .bool a := z3
   have y3 : y1 = .bool c := y3
   subst z3 y3
   have hn : f.name ≠ "_" := by simpa using hnm
   have ih := eqFs_ok hx hy d w' hr
   simp only [Op.eqFields, if_pos hn, Sem.run_bind, part_at f.type hu trivial z2, part_at f.type hu trivial y2, Result.andThen_ok, run_equalIn_bool' w' d f.type a c hu]
   by_cases hac : a = c
   ·simp [hac, ih]
   ·simp [hac]
  ·cases h
theorem eql_ok (op : BinOp) (t : TypeId) {p q r : RV} {u v : Value} (hp : ConR M σ.H w p u) (hq : ConR M σ.H w q v) (h : eqlV P σ.H op t p q = some r) (x y : Operand) : ∃ z, ConR M σ.H w r z ∧ ∀ w', (do eqGuard op t x y u v; binOp op t u v).run P w' = .ok z w' := by
 unfold eqlV at h
 have key : ∀ b, cmpA P σ.H t p q = some b → ∀ op w', (eqGuard op t x y u v).run P w' = .ok () w' ∧ (binOp .eql t u v).run P w' = .ok (.bool b) w' ∧ (binOp .neq t u v).run P w' = .ok (.bool (!b)) w' := fun b hb op w' => by
  unfold cmpA at hb
  split at hb
  ·obtain ⟨xs, rfl, hx⟩ := hp
   obtain ⟨ys, rfl, hy⟩ := hq
   split at hb
   case isFalse => cases hb
   rename_i h0
   split at hb
   case h_2 => cases hb
   rename_i fs hu
   have hf : P.fieldsOf t = fs := by simp [Program.fieldsOf, hu]
   have e1 : (Op.equalIn 10000 t (.agg xs.toArray) (.agg ys.toArray)).run P w' = .ok b w' := by
    rw [run_equalIn_struct w' 9999 t _ _ (by rw [hf]; exact hu) h0.1, hf]
    exact eqFs_ok hx hy 9998 w' hb
   refine ⟨run_eqGuard_agg w' op t x y _ _ h0.2, ?_, ?_⟩
   ·rw [run_eql_struct, e1]; rfl
   ·rw [run_neq_struct, e1]; rfl
  obtain ⟨k1, k2, k3⟩ := nil_ok hp hq hb 9999
  refine ⟨?_, ?_⟩
  ·rcases k2 with ⟨x, rfl⟩ | ⟨x, n, c, rfl⟩ <;> rcases k3 with ⟨y, rfl⟩ | ⟨y, m, d, rfl⟩ <;> cases op <;> rfl
  ·rcases k2 with ⟨x, rfl⟩ | ⟨x, n, c, rfl⟩ <;> exact run_eqS (k1 w') (fun _ _ e => by cases e) (fun _ _ e => by cases e) (fun _ _ _ e => by cases e) (fun _ e => by cases e)
 split at h
 ·obtain ⟨b, hb, rfl⟩ := Option.map_eq_some_iff.1 h
  refine ⟨.bool b, rfl, fun w' => ?_⟩
  rw [Sem.run_bind, (key b hb _ w').1]; exact (key b hb .eql w').2.1
 ·obtain ⟨b, hb, rfl⟩ := Option.map_eq_some_iff.1 h
  refine ⟨.bool (!b), rfl, fun w' => ?_⟩
  rw [Sem.run_bind, (key b hb _ w').1]; exact (key b hb .neq w').2.2
 ·cases h
theorem slcL_ok (hT : TyOk P ty) (t : TypeId) {p q r : RV} {u v : Value} (hp : ConR M σ.H w p u) (hq : ConR M σ.H w q v) (h : slcL ty (ty t).k σ.H p q = some r) : ∃ z, ConR M σ.H w r z ∧ ∀ w', (Instr.sliceAt t u (some v) none none).run P w' = .ok z w' := by
 unfold slcL at h
 split at h
 ·rename_i k m
  obtain rfl := con_int hq
  split at h
  ·rename_i e hk
   split at h <;> cases h
   rename_i h0
   subst h0
   obtain ⟨hu, hke⟩ : P.underlying t = some (.slice e) ∧ _ := kOk_of hT hk
   have hel : P.elem t = e := by simp [Program.elem, hu]
   have hp : u = .slice none 0 0 := hp
   subst hp
   refine ⟨.slice none 0 0, rfl, fun w' => ?_⟩
   rw [run_sliceAt_slice w' t _ _ _ _ (by rw [hel]; exact hu), run_slice_l w' t none 0 0 (by rw [hel]; exact hu) k 0 (Int.le_refl _) (Int.le_refl _), hel, info_sz hT hke]
   rfl
  ·cases h
 ·rename_i n sz f k m
  obtain rfl := con_int hq
  split at h
  ·rename_i e hk
   split at h <;> cases h
   rename_i h0
   obtain ⟨h1, h2, rfl⟩ := h0
   obtain ⟨hu, hke⟩ : P.underlying t = some (.slice e) ∧ _ := kOk_of hT hk
   have hel : P.elem t = e := by simp [Program.elem, hu]
   obtain ⟨a, b, off, c, rfl, k1, k2, k3, k4⟩ := hp
   obtain ⟨rfl, hr⟩ := k3 (by omega)
   refine ⟨sliced (some ⟨b, off, none⟩) m.toNat n c (ty e).sz, ?_, fun w' => ?_⟩
   ·refine ⟨some ⟨b, off + m.toNat * (ty e).sz, none⟩, b, off + m.toNat * (ty e).sz, c - m.toNat, ?_, by omega, by omega, fun _ => ⟨rfl, hr⟩, fun i hi j hj => ?_⟩
    ·simp only [sliced]
     rw [if_neg (by omega)]
     simp [addr_add]
    ·have := k4 (i + m.toNat) (by omega) j hj
     rw [show off + m.toNat * (ty e).sz + i * (ty e).sz + j = off + (i + m.toNat) * (ty e).sz + j by rw [Nat.add_mul]; omega]
     exact this
   ·rw [run_sliceAt_slice w' t _ _ _ _ (by rw [hel]; exact hu), run_slice_l w' t _ n c (by rw [hel]; exact hu) k m h1 (by omega), hel, info_sz hT hke]
    rfl
  ·cases h
 ·rename_i id st n k m
  obtain rfl := con_int hq
  split at h
  ·rename_i e hk
   split at h
   ·rename_i fz t2 sz r hr
    split at h <;> cases h
    rename_i h0
    obtain ⟨h1, h2, h3, rfl⟩ := h0
    obtain ⟨hu, hke⟩ : P.underlying t = some (.slice e) ∧ _ := kOk_of hT hk
    have hel : P.elem t = e := by simp [Program.elem, hu]
    obtain ⟨cap, cur, ad, rfl, k1, k2, k3, k4, k5⟩ := (hp.2 _ _ _ _ hr).2 h3
    refine ⟨sliced (some ad) m.toNat n cap (ty e).sz, ?_, fun w' => ?_⟩
    ·refine ⟨⟨hp.1.1, rfl⟩, fun fz2 ty2 sz2 r2 hr2 => ?_⟩
     rw [hr] at hr2
     cases hr2
     refine ⟨by omega, fun _ => ⟨cap - m.toNat, cur, if cap = m.toNat then ad else ad.add (m.toNat * (ty e).sz), ?_, by omega, by omega, k3, ?_, fun hc => ?_⟩⟩
     ·simp only [sliced]
      split <;> rfl
     ·rw [show st + m.toNat + (cap - m.toNat) = st + cap by omega]; exact k4
     ·rw [if_neg (by omega), k5 (by omega), addr_add, Nat.add_mul, Nat.add_assoc]
    ·rw [run_sliceAt_slice w' t _ _ _ _ (by rw [hel]; exact hu), run_slice_l w' t _ n cap (by rw [hel]; exact hu) k m h1 (by omega), hel, info_sz hT hke]
     rfl
   ·cases h
  ·cases h
 ·cases h
theorem arr_ok (t : TypeId) {p q r : RV} {u v : Value} (hp : ConR M σ.H w p u) (hq : ConR M σ.H w q v) (h : arrV P t p q = some r) : ∃ z, ConR M σ.H w r z ∧ ∀ w', (Instr.index t u v).run P w' = .ok z w' := by
 unfold arrV at h
 split at h
 ·rename_i l k i
  obtain rfl := con_int hq
  obtain ⟨vs, rfl, hc⟩ := hp
  split at h
  ·rename_i n e hu
   have key : ∀ d, P.underlying e = some d → (match d with | .struct _ | .array _ _ => False | _ => True) → (if 0 ≤ i ∧ i < n ∧ i.toNat * P.cellsOf e < l.length ∧ (P.info? e).isSome = true then some (RV.c (nth l (i.toNat * P.cellsOf e))) else none) = some r → ∃ z, ConR M σ.H w r z ∧ ∀ w', (Instr.index t (.agg vs.toArray) (.int k i)).run P w' = .ok z w' := fun d hd hk h => by
    split at h <;> cases h
    rename_i h0
    obtain ⟨h1, h2, h3, h4⟩ := h0
    have hl := hc.len
    obtain ⟨z, hz⟩ : ∃ z, vs[i.toNat * P.cellsOf e]? = some z := ⟨_, List.getElem?_eq_getElem (by omega)⟩
    refine ⟨z, hc.get _ _ hz, fun w' => ?_⟩
    obtain ⟨inf, hinf⟩ := Option.isSome_iff_exists.1 h4
    have hs : (sizeOf e).run P w' = .ok (P.cellsOf e) w' := by simp [sizeOf, typeInfo, hinf, Program.cellsOf]
    have ha : (isAgg e).run P w' = .ok false w' := by
     simp only [isAgg, Sem.run_bind, run_underlying hd, Result.andThen]
     cases d <;> first | exact hk.elim | rfl
    simp [Instr.index, asIntOf, run_underlying hu, h1, h2, hs, part, ha, hz]
   split at h
   ·cases h
   ·cases h
   ·rename_i d n1 n2 hd
    exact key d hd (by cases d <;> first | trivial | exact n1 _ rfl | exact n2 _ _ rfl) h
   ·cases h
  ·cases h
 ·cases h
theorem chr_ok (t : TypeId) {p q r : RV} {u v : Value} (hp : ConR M σ.H w p u) (hq : ConR M σ.H w q v) (h : chrV P t p q = some r) : ∃ z, ConR M σ.H w r z ∧ ∀ w', (Instr.index t u v).run P w' = .ok z w' := by
 unfold chrV at h
 split at h
 ·rename_i s k i
  obtain rfl := con_int hq
  have hp : u = .string s := hp
  subst hp
  split at h
  ·rename_i hu
   split at h
   ·rename_i b hb
    cases h
    exact ⟨_, rfl, fun w' => by simp [Instr.index, asIntOf, run_underlying hu, hb]⟩
   ·cases h
  ·cases h
 ·cases h
theorem gar_ok (t : TypeId) {p q r : RV} {u v : Value} (hp : ConR M σ.H w p u) (hq : ConR M σ.H w q v) (h : garV P t p q = some r) : ∃ z, ConR M σ.H w r z ∧ ∀ w', (Instr.indexAt t u v).run P w' = .ok z w' := by
 unfold garV at h
 split at h
 ·rename_i m f k i
  obtain rfl := con_int hq
  obtain ⟨b, off, rfl, hr, hc⟩ := hp
  split at h
  ·rename_i n e hu
   split at h <;> cases h
   rename_i h0
   obtain ⟨h1, h2, h3, h4⟩ := h0
   obtain ⟨inf, hinf⟩ := Option.isSome_iff_exists.1 h4
   refine ⟨.pointer (some ⟨b, off + i.toNat * P.cellsOf e, none⟩), ⟨b, off + i.toNat * P.cellsOf e, rfl, hr, fun j hj => ?_⟩, fun w' => ?_⟩
   ·have := hc (i.toNat * P.cellsOf e + j) (by rw [Nat.add_mul, Nat.one_mul] at h3; omega)
    rw [Nat.add_assoc]; exact this
   ·have hs : (sizeOf e).run P w' = .ok (P.cellsOf e) w' := by simp [sizeOf, typeInfo, hinf, Program.cellsOf]
    simp [Instr.indexAt, Instr.sureAddr, asIntOf, run_underlying hu, h1, h2, hs, addr_add]
  ·cases h
 ·cases h
theorem fld_ok (t : TypeId) (f : Nat) {p r : RV} {u : Value} (hp : ConR M σ.H w p u) (h : fldV P t f p = some r) : ∃ z, ConR M σ.H w r z ∧ ∀ w', (Instr.field t u f).run P w' = .ok z w' := by
 unfold fldV at h
 split at h
 ·rename_i l
  obtain ⟨vs, rfl, hc⟩ := hp
  split at h
  ·rename_i fs hu
   split at h
   ·rename_i fd hf
    have key : ∀ d, P.underlying fd.type = some d → (match d with | .struct _ | .array _ _ => False | _ => True) → (if fd.offset < l.length then some (RV.c (nth l fd.offset)) else none) = some r → ∃ z, ConR M σ.H w r z ∧ ∀ w', (Instr.field t (.agg vs.toArray) f).run P w' = .ok z w' := fun d hd hk h => by
     split at h <;> cases h
     rename_i h0
     have hl := hc.len
     obtain ⟨z, hz⟩ : ∃ z, vs[fd.offset]? = some z := ⟨_, List.getElem?_eq_getElem (by omega)⟩
     refine ⟨z, hc.get _ _ hz, fun w' => ?_⟩
     have ha : (isAgg fd.type).run P w' = .ok false w' := by
      simp only [isAgg, Sem.run_bind, run_underlying hd, Result.andThen]
      cases d <;> first | exact hk.elim | rfl
     simp [Instr.field, asAgg, run_underlying hu, hf, part, ha, hz]
    split at h
    ·cases h
    ·cases h
    ·rename_i d n1 n2 hd
     exact key d hd (by cases d <;> first | trivial | exact n1 _ rfl | exact n2 _ _ rfl) h
    ·cases h
   ·cases h
  ·cases h
 ·cases h
theorem ifcT_ok {t : TypeId} (h : ifcT P t = true) : ∃ d, P.underlying t = some d ∧ (match d with | .interface _ => False | _ => True) := by
 unfold ifcT at h
 split at h
 ·cases h
 ·rename_i d n hd
  refine ⟨d, hd, ?_⟩
  cases d <;> first | trivial | exact n _ rfl
 ·cases h
theorem newV_ok (hT : TyOk P ty) (h : St E nt M σ a w) {o : Oper} {r : RV} (ho : newV P ty σ.rd σ.H o.op = some r) : ∃ v, ConR M σ.H w r v ∧ ∀ w', (execOp a.eval o).run P w' = .ok (.value v) w' := by
 obtain ⟨dst, op, type, pos, after, guard⟩ := o
 cases op <;> simp only [newV] at ho
 case nilCheck x =>
  split at ho
  ·rename_i id n i o hx
   have hc := rdO_ok h hx
   split at ho
   ·rename_i fz t sz r hr
    split at ho <;> cases ho
    rename_i hl
    have hv := (hc.2 _ _ _ _ hr).2 hl
    exact ⟨_, hc, fun w' => by rw [hv]; simp [execOp, hv]⟩
   ·cases ho
  ·rename_i n f hx
   have hc := rdO_ok h hx
   cases ho
   obtain ⟨b, off, hv, -⟩ := id hc
   exact ⟨_, hc, fun w' => by rw [hv]; simp [execOp, hv]⟩
  ·cases ho
 case makeInterface t x =>
  obtain ⟨v, hv, ho⟩ := Option.bind_eq_some_iff.1 ho
  split at ho <;> cases ho
  rename_i ht
  obtain ⟨d, hd, hk⟩ := ifcT_ok ht
  refine ⟨.iface t (a.eval x), ⟨_, rfl, rdO_ok h hv⟩, fun w' => run_lift (x := Instr.makeInterface t (a.eval x)) ?_⟩
  simp only [Instr.makeInterface, Sem.run_bind, run_underlying hd, Result.andThen]
  cases d <;> first | exact hk.elim | rfl
 case typeAssert x xt tt ok =>
  split at ho
  ·rename_i t v hx
   split at ho <;> cases ho
   rename_i h0
   obtain ⟨rfl, rfl, ht⟩ := h0
   obtain ⟨u, hu, hc⟩ := rdO_ok h hx
   obtain ⟨d, hd, hk⟩ := ifcT_ok ht
   refine ⟨u, hc, fun w' => run_lift (x := Instr.typeAssert (a.eval x) xt t false) ?_⟩
   rw [hu]
   simp only [Instr.typeAssert, Sem.run_bind, run_underlying hd, Result.andThen]
   cases d <;> first | exact hk.elim | simp
  ·cases ho
 case binOp op t x y yt =>
  obtain ⟨p, hp, ho⟩ := Option.bind_eq_some_iff.1 ho
  obtain ⟨q, hq, ho⟩ := Option.bind_eq_some_iff.1 ho
  have hp := rdO_ok h hp
  have hq := rdO_ok h hq
  split at ho
  ·rename_i r' hb
   cases ho
   obtain ⟨z, h1, h2⟩ := bit_ok (P := P) op t hp hq hb x y
   exact ⟨z, h1, fun w' => run_lift (h2 w')⟩
  ·obtain ⟨z, h1, h2⟩ := eql_ok op t hp hq ho x y
   exact ⟨z, h1, fun w' => run_lift (h2 w')⟩
 case slice t x lo hi mx =>
  cases lo with
  | none => cases ho
  | some lo =>
   cases hi with
   | some _ => cases ho
   | none =>
    cases mx with
    | some _ => cases ho
    | none =>
     simp only at ho
     obtain ⟨p, hp, ho⟩ := Option.bind_eq_some_iff.1 ho
     obtain ⟨q, hq, ho⟩ := Option.bind_eq_some_iff.1 ho
     obtain ⟨z, h1, h2⟩ := slcL_ok hT t (rdO_ok h hp) (rdO_ok h hq) ho
     exact ⟨z, h1, fun w' => run_lift (x := Instr.sliceAt t (a.eval x) (some (a.eval lo)) none none) (h2 w')⟩
 case index t x i =>
  obtain ⟨p, hp, ho⟩ := Option.bind_eq_some_iff.1 ho
  obtain ⟨q, hq, ho⟩ := Option.bind_eq_some_iff.1 ho
  split at ho
  ·rename_i r' hr'
   cases ho
   obtain ⟨z, h1, h2⟩ := chr_ok t (rdO_ok h hp) (rdO_ok h hq) hr'
   exact ⟨z, h1, fun w' => run_lift (x := Instr.index t (a.eval x) (a.eval i)) (h2 w')⟩
  ·obtain ⟨z, h1, h2⟩ := arr_ok t (rdO_ok h hp) (rdO_ok h hq) ho
   exact ⟨z, h1, fun w' => run_lift (x := Instr.index t (a.eval x) (a.eval i)) (h2 w')⟩
 case indexAddr t x i =>
  obtain ⟨p, hp, ho⟩ := Option.bind_eq_some_iff.1 ho
  obtain ⟨q, hq, ho⟩ := Option.bind_eq_some_iff.1 ho
  obtain ⟨z, h1, h2⟩ := gar_ok t (rdO_ok h hp) (rdO_ok h hq) ho
  exact ⟨z, h1, fun w' => run_lift (x := Instr.indexAt t (a.eval x) (a.eval i)) (h2 w')⟩
 case field t x f =>
  obtain ⟨p, hp, ho⟩ := Option.bind_eq_some_iff.1 ho
  obtain ⟨z, h1, h2⟩ := fld_ok t f (rdO_ok h hp) ho
  exact ⟨z, h1, fun w' => run_lift (x := Instr.field t (a.eval x) f) (h2 w')⟩
 case unOp op t x =>
  split at ho
  ·obtain ⟨p, hp, ho⟩ := Option.bind_eq_some_iff.1 ho
   unfold negV at ho
   split at ho
   ·rename_i k n
    cases ho
    have hv := con_int (rdO_ok h hp)
    exact ⟨_, rfl, fun w' => run_lift (x := Op.unary .neg (a.eval x)) (by rw [hv]; simp [Op.unary, Op.intArith])⟩
   ·cases ho
  ·cases ho
 case build t ps =>
  split at ho
  ·rename_i n esz hk
   split at ho <;> cases ho
   rename_i h0
   obtain ⟨hg, hb⟩ := h0
   obtain ⟨e, hu, he, hi⟩ : ∃ e, P.underlying t = some (.array n e) ∧ P.cellsOf e = esz ∧ (P.info? e).isSome = true := kOk_of hT hk
   obtain ⟨i, z, hi2, hz, -, -, -, -, hzc⟩ := zero_con (M := M) (σ := σ) (w := w) (P := P) hT (t := t) (by rw [hk]; trivial)
   obtain ⟨out, h1, h2⟩ := fill_ok (M := M) (σ := σ) (w := w) (a := a) (fun i => (i * esz, esz)) (fun i => some (i * esz, esz)) (fun _ _ => rfl) ps.toList (ty t).zero z.cells (fun x _ hx => h.rd hx) hg hzc hb
   refine ⟨.agg out, ⟨out.toList, by simp, h2⟩, fun w' => run_lift (x := Instr.build t (ps.map fun (i, x) => (i, a.eval x))) (run_build w' t _ out ?_)⟩
   obtain ⟨inf, hinf⟩ := Option.isSome_iff_exists.1 hi
   unfold Program.built
   simp only [hi2, hu, hz, hinf]
   have hsz : inf.size = esz := by rw [← he]; simp [Program.cellsOf, hinf]
   rw [← h1]
   simp [hsz]
  ·cases ho
 all_goals cases ho
end
def Row.takeR (n : Nat) : Row → Row
 | .box l => .box l
 | .ints k l => .ints k (l.take n)
 | .bools l => .bools (l.take n)
 | .gen l => .gen (l.take n)
 | .own l => .own (l.take n)
theorem takeR_get {r : Row} (hb : r.one = false) {n : Nat} (hn : n ≤ r.len) : (r.takeR n).len = n ∧ (r.takeR n).one = false ∧ (r.takeR n).isBox = r.isBox ∧ ∀ i o, i < n → (r.takeR n).get i o = r.get i o := by
 cases r with
 | box => cases hb
 | ints k l => exact ⟨by simp only [Row.takeR, Row.len, List.length_take] at hn ⊢; omega, rfl, rfl, fun i o hi => by simp [Row.takeR, Row.get, hi]⟩
 | bools l => exact ⟨by simp only [Row.takeR, Row.len, List.length_take] at hn ⊢; omega, rfl, rfl, fun i o hi => by simp [Row.takeR, Row.get, hi]⟩
 | gen l => exact ⟨by simp only [Row.takeR, Row.len, List.length_take] at hn ⊢; omega, rfl, rfl, fun i o hi => by simp [Row.takeR, Row.get, hi]⟩
 | own l => exact ⟨by simp only [Row.takeR, Row.len, List.length_take] at hn ⊢; omega, rfl, rfl, fun i o hi => by simp [Row.takeR, Row.get, hi]⟩
def isOff : RV → Bool
 | .c (.h _ st _) => decide (st ≠ 0)
 | _ => false
def appO (ty : Ty) (k : TyK) (H : List Root) (s x : RV) (K : RV → List Root → Bool) : Bool :=
 match k with
 | .sl e => decide ((appSrc H x).1 ∧ (appSrc H x).2.2 = (ty e).sz ∧ 0 < (ty e).sz ∧ (ty e).bytes ≤ 128) &&
  match s with
  | .c (.h id st len) => match rootAt H id with
   | .live fz t sz r => decide (fz = false ∧ st + len = r.len ∧ t = e ∧ sz = (ty e).sz ∧ r.one = false ∧ len + (appSrc H x).2.1.len ≤ 1099511627776 ∧ ((r.drop st).app (appSrc H x).2.1).1) &&
    K (.c (.h H.length 0 (len + (appSrc H x).2.1.len))) (setRoot H id .dead ++ [.live false e (ty e).sz ((r.drop st).app (appSrc H x).2.1).2])
   | .dead => false
  | _ => false
 | _ => false
section
variable {P : Program} {ty : Ty} {E : Env} {M : Mp} {H : List Root} {w : World}
theorem cut_at {id : Nat} {x : Root} {j : Nat} {fz : Bool} {t : TypeId} {sz : Nat} {r : Row} (h : rootAt (setRoot H id .dead ++ [x]) j = .live fz t sz r) : (j = H.length ∧ x = .live fz t sz r) ∨ (j ≠ H.length ∧ j ≠ id ∧ rootAt H j = .live fz t sz r) := by
 rw [rootAt_app, setRoot_len] at h
 split at h
 ·rename_i e; exact .inl ⟨e, h⟩
 ·rename_i e; exact .inr ⟨e, rootAt_kill h⟩
theorem move_ok (h : Rel E M H w) {id : Nat} {t : TypeId} {sz : Nat} {r r' : Row} (hr : rootAt H id = .live false t sz r) {o : Nat} (hb : r'.one = false) (hbx : r'.isBox = r.isBox) (hn : o + r'.len ≤ r.len) (hg : ∀ i j, i < r'.len → r'.get i j = r.get (o + i) j) :
  Rel E (M.upd H.length (M.phi id) (M.off id + o * sz)) (setRoot H id .dead ++ [.live false t sz r']) w ∧ Kp M H w (M.upd H.length (M.phi id) (M.off id + o * sz)) (setRoot H id .dead ++ [.live false t sz r']) w := by
 have hid := rootAt_lt hr
 have old : ∀ {j : Nat}, j ≠ H.length → (M.upd H.length (M.phi id) (M.off id + o * sz)).phi j = M.phi j := fun h => if_neg h
 have new : (M.upd H.length (M.phi id) (M.off id + o * sz)).phi H.length = M.phi id := if_pos rfl
 have oldo : ∀ {j : Nat}, j ≠ H.length → (M.upd H.length (M.phi id) (M.off id + o * sz)).off j = M.off j := fun h => if_neg h
 have newo : (M.upd H.length (M.phi id) (M.off id + o * sz)).off H.length = M.off id + o * sz := if_pos rfl
 have kp : Kp M H w (M.upd H.length (M.phi id) (M.off id + o * sz)) (setRoot H id .dead ++ [.live false t sz r']) w := fun x v c => by
  have ne : ∀ {j : Nat}, j < H.length → j ≠ H.length := fun h e => by omega
  cases x with
  | ptr j m i o =>
   refine ⟨⟨by simp only [List.length_append, setRoot_len, List.length_singleton]; have := c.1.1; omega, c.1.2⟩, fun fz t2 sz2 r2 hr2 => ?_⟩
   rcases cut_at hr2 with ⟨e, -⟩ | ⟨e1, e2, e3⟩
   ·exact absurd e (ne c.1.1)
   ·rw [old e1, oldo e1]; exact c.2 _ _ _ _ e3
  | h j st len =>
   refine ⟨⟨by simp only [List.length_append, setRoot_len, List.length_singleton]; have := c.1.1; omega, c.1.2⟩, fun fz t2 sz2 r2 hr2 => ?_⟩
   rcases cut_at hr2 with ⟨e, -⟩ | ⟨e1, e2, e3⟩
   ·exact absurd e (ne c.1.1)
   ·rw [old e1, oldo e1]; exact c.2 _ _ _ _ e3
  | _ => exact c
 refine ⟨⟨h.bel, fun j fz t2 sz2 r2 hj => ?_, fun j fz t2 sz2 r2 hj => ?_, fun j t2 sz2 r2 hj => ?_, fun j t2 sz2 r2 hj => ?_, fun i j t1 s1 r1 t2 s2 r2 hi hj he => ?_, h.rlt, h.src, h.tau.keep rfl (fun _ _ _ => rfl) (fun b q hq => (h.tau.new b q hq).2) fun b q j fz t2 s2 r2 hq hj => ?_⟩, kp⟩
 ·rcases cut_at hj with ⟨rfl, e⟩ | ⟨e1, e2, e3⟩
  ·rw [new]; exact h.low _ _ _ _ _ hr
  ·rw [old e1]; exact h.low _ _ _ _ _ e3
 ·rcases cut_at hj with ⟨rfl, e⟩ | ⟨e1, e2, e3⟩
  ·cases e
   rw [new, newo]
   obtain ⟨cur, k1, k2, k3, ⟨c0, k4⟩, k5, k6⟩ := h.row _ _ _ _ _ hr
   have hc0 : r.len ≤ c0 := by
    rcases Nat.lt_or_ge c0 r.len with hlt | hge
    ·have := Nat.mul_le_mul_right sz (show c0 + 1 ≤ r.len from hlt)
     rw [Nat.add_mul] at this
     omega
    ·exact hge
   refine ⟨cur, k1, k2, ?_, ⟨c0 - o, ?_⟩, fun e => (by rw [hb] at e; cases e), fun i hi j hj => ?_⟩
   ·rw [Nat.add_assoc, ← Nat.add_mul]; exact Nat.le_trans (Nat.add_le_add_left (Nat.mul_le_mul_right _ hn) _) k3
   ·rw [Nat.add_assoc, ← Nat.add_mul, show o + (c0 - o) = c0 by omega]; exact k4
   ·obtain ⟨v, v1, v2, v3⟩ := k6 (o + i) (by omega) j hj
    refine ⟨v, by rw [show M.off id + o * sz + i * sz + j = M.off id + (o + i) * sz + j by rw [Nat.add_mul]; omega]; exact v1, v2, ?_⟩
    rw [hbx, hg i j hi]
    exact v3.keep kp (fun _ _ => rfl) (fun _ h => h)
  ·rw [old e1, oldo e1]
   exact (h.row _ _ _ _ _ e3).keep kp (fun _ _ => rfl) (fun _ h => h) rfl
 ·rcases cut_at hj with ⟨rfl, e⟩ | ⟨e1, e2, e3⟩
  ·cases e
  ·rw [old e1]; exact h.froz _ _ _ _ e3
 ·rcases cut_at hj with ⟨rfl, e⟩ | ⟨e1, e2, e3⟩
  ·rw [new]; exact h.thaw _ _ _ _ hr
  ·rw [old e1]; exact h.thaw _ _ _ _ e3
 ·rcases cut_at hi with ⟨rfl, e⟩ | ⟨e1, e2, e3⟩ <;> rcases cut_at hj with ⟨rfl, e'⟩ | ⟨f1, f2, f3⟩
  ·rfl
  ·rw [new, old f1] at he
   exact absurd (h.inj _ _ _ _ _ _ _ _ hr f3 he).symm f2
  ·rw [new, old e1] at he
   exact absurd (h.inj _ _ _ _ _ _ _ _ e3 hr he) e2
  ·rw [old e1, old f1] at he
   exact h.inj _ _ _ _ _ _ _ _ e3 f3 he
 ·rcases cut_at hj with ⟨rfl, e⟩ | ⟨e1, e2, e3⟩
  ·rw [new]; exact h.tau.row _ _ _ _ _ _ _ hq hr
  ·rw [old e1]; exact h.tau.row _ _ _ _ _ _ _ hq e3
theorem setRoot_last (a b : Root) : ∀ (l : List Root), setRoot (l ++ [a]) l.length b = l ++ [b]
 | [] => rfl
 | x :: l => congrArg (x :: ·) (setRoot_last a b l)
theorem appO_ok (hT : TyOk P ty) (h : Rel E M H w) (t rt : TypeId) {s x : RV} {u v : Value} (hu : ConR M H w s u) (hv : ConR M H w x v) {K : RV → List Root → Bool} (ho : appO ty (ty t).k H s x K = true) :
  ∃ M' w' v' r' H', (Builtin.append_ #[t, t] rt #[u, v]).run P w = .ok v' w' ∧ Rel E M' H' w' ∧ Kp M H w M' H' w' ∧ ConR M' H' w' r' v' ∧ H.length ≤ H'.length ∧ K r' H' = true := by
 unfold appO at ho
 split at ho
 case h_2 => cases ho
 rename_i e hk
 simp only [Bool.and_eq_true, decide_eq_true_eq] at ho
 obtain ⟨⟨s1, s2, s3, s4⟩, ho⟩ := ho
 obtain ⟨ad, c, news, hsrc⟩ := src_ok h hv s1
 rw [s2] at hsrc
 split at ho
 ·rename_i id st len
  split at ho
  case h_2 => cases ho
  rename_i fz t2 sz r hr
  simp only [Bool.and_eq_true, decide_eq_true_eq] at ho
  obtain ⟨⟨rfl, h1, rfl, rfl, h2, h3, h4⟩, ho⟩ := ho
  obtain ⟨cap, cur, aq, rfl, q1, q2, q3, q4, q5⟩ := (hu.2 _ _ _ _ hr).2 h1
  obtain ⟨⟨d0, d1⟩, d2, d3⟩ := drop_get h2 st
  obtain ⟨m1, m2⟩ := move_ok h hr (r' := r.drop st) (o := st) d0 d1 (by omega) (fun i j _ => d3 i j)
  have hl : (setRoot H id .dead).length = H.length := setRoot_len _ _ _
  have hr2 : rootAt (setRoot H id .dead ++ [.live false t2 (ty t2).sz (r.drop st)]) H.length = .live false t2 (ty t2).sz (r.drop st) := by
   rw [← hl, rootAt_app, if_pos rfl]
  have n1 : (M.upd H.length (M.phi id) (M.off id + st * (ty t2).sz)).phi H.length = M.phi id := if_pos rfl
  have n2 : (M.upd H.length (M.phi id) (M.off id + st * (ty t2).sz)).off H.length = M.off id + st * (ty t2).sz := if_pos rfl
  have hq : Con (M.upd H.length (M.phi id) (M.off id + st * (ty t2).sz)) (setRoot H id .dead ++ [.live false t2 (ty t2).sz (r.drop st)]) w (.h H.length 0 len) (.slice (some aq) len cap) := by
   refine ⟨⟨by simp [hl], rfl⟩, fun fz t3 s3 r3 e3 => ?_⟩
   rw [hr2] at e3
   cases e3
   exact ⟨by omega, fun _ => ⟨cap, cur, aq, rfl, q1, q2, by rw [n1]; exact q3, by rw [n2, Nat.zero_add, Nat.add_assoc, ← Nat.add_mul]; exact q4, by rw [n1, n2, Nat.zero_mul]; exact q5⟩⟩
  have hs2 : SrcOk (M.upd H.length (M.phi id) (M.off id + st * (ty t2).sz)) (setRoot H id .dead ++ [.live false t2 (ty t2).sz (r.drop st)]) w v (appSrc H x).2.1 (ty t2).sz ad c news :=
   ⟨hsrc.v, hsrc.len, hsrc.cell, hsrc.one, fun i o hi ho => by
    obtain ⟨u, u1, u2⟩ := hsrc.con i o hi ho
    exact ⟨u, u1, u2.keep m2 (fun _ _ => rfl) (fun _ h => h)⟩⟩
  obtain ⟨M', w', v', r0, r1, r2, r3⟩ := appOwn_ok hT m1 t t2 rt hk s3 s4 hs2 hr2 (by omega) hq h3 h4
  have e1 : ∀ X, setRoot (setRoot H id .dead ++ [.live false t2 (ty t2).sz (r.drop st)]) H.length X = setRoot H id .dead ++ [X] := fun X => by
   have := setRoot_last (.live false t2 (ty t2).sz (r.drop st)) X (setRoot H id .dead)
   rwa [hl] at this
  rw [e1] at r1 r2 r3
  exact ⟨M', w', v', .c (.h _ 0 _), _, r0, r1, m2.trans r2, r3, by simp [hl], ho⟩
 ·cases ho
theorem appO_ex {k : TyK} {s x : RV} {K : RV → List Root → Bool} (h : appO ty k H s x K = true) : ∃ r H', K r H' = true := by
 unfold appO at h
 split at h
 ·simp only [Bool.and_eq_true] at h
  obtain ⟨-, h⟩ := h
  split at h
  ·split at h
   ·simp only [Bool.and_eq_true] at h; exact ⟨_, _, h.2⟩
   ·cases h
  ·cases h
 ·cases h
end
def mthB (P : Program) (t : TypeId) (nm : String) : Option (FuncId × Option TypeId) :=
 match P.info? t with
 | some i => match i.methods.find? (fun m => m.name == nm) with
  | some m => match m.path with
   | ⟨[]⟩ => match m.func, P.underlying t with
    | some (f, true), some (.pointer _) => some (f, none)
    | some (f, false), some (.pointer e) => some (f, some e)
    | _, _ => none
   | _ => none
  | none => none
 | none => none
def MthV (P : Program) (ad : Addr) (w : World) (u : Value) : Option TypeId → Prop
 | none => u = .pointer (some ad)
 | some e => (loadVar e ad).run P w = .ok u w
theorem ext1 (x : Value) (y : Array Value) : (#[x] ++ y).extract 1 (#[x] ++ y).size = y := by
 obtain ⟨l⟩ := y
 apply Array.toList_inj.1
 simp [List.extract_eq_drop_take]
theorem wrap_run {P : Program} (ts : Array TypeId) (t : TypeId) (ad : Addr) (s m : ByteArray) (w : World) : (Builtin.ssaWrapNilChk_ ts t #[.pointer (some ad), .string s, .string m]).run P w = .ok (.pointer (some ad)) w := rfl
theorem mth_ok {P : Program} {t : TypeId} {nm : String} {f : FuncId} {e : Option TypeId} (h : mthB P t nm = some (f, e)) (n : Nat) (ad : Addr) (w : World) {u : Value} (hu : MthV P ad w u e) :
  (method (n + 1) t (.pointer (some ad)) nm).run P w = .ok (f, u) w := by
 unfold mthB at h
 split at h
 case h_2 => cases h
 rename_i i hi
 split at h
 case h_2 => cases h
 rename_i m hm
 split at h
 case h_2 => cases h
 rename_i hp
 have hti : (typeInfo t).run P w = .ok i w := by simp [typeInfo, hi]
 split at h
 ·rename_i f' e' hf ht
  cases h
  obtain rfl : u = .pointer (some ad) := hu
  simp [method, hti, hm, hp, hf, follow, receiverAt, run_underlying ht, Place.get]
 ·rename_i f' e' hf ht
  cases h
  have hu : (loadVar e' ad).run P w = .ok u w := hu
  simp [method, hti, hm, hp, hf, follow, receiverAt, run_underlying ht, Place.get, wrap_run, strVal, asAddr, hu]
 ·cases h
section
variable {P : Program} {ty : Ty} {E : Env} {nt : Nat} {M : Mp} {H : List Root} {σ : AS} {a : Act} {w : World}
end
section
variable (P : Program) (ty : Ty) (call : CallB)
def cutB (k : TyK) (H : List Root) (id st n : Nat) (m : Int) (K : RV → List Root → Bool) : Bool :=
 match k with
 | .sl e => match rootAt H id with
  | .live false t sz r => decide (0 ≤ m ∧ m ≤ n ∧ st + n = r.len ∧ sz = (ty e).sz) && !r.one && K (.c (.h H.length st m.toNat)) (setRoot H id .dead ++ [.live false t sz (r.takeR (st + m.toNat))])
  | _ => false
 | _ => false
def invB (pu : Pu) (rd : Operand → Bool × RV) (H : List Root) (t : TypeId) (v : RV) (nm : String) (args : List Operand) (K : RV → List Root → Bool) : Bool :=
 match mthB P t nm with
 | some (f, none) => decide (gOk true (rgs rd args)) && ptrOk H v && call pu f (v :: rds rd args) H K
 | some (f, some e) => decide (gOk true (rgs rd args)) && ptrOk H v && decide (loadV (ty e) H v).1 && call pu f ((loadV (ty e) H v).2 :: rds rd args) H K
 | none => false
where ptrOk (H : List Root) : RV → Bool
 | .c (.ptr id n _ _) => match rootAt H id with
  | .live _ _ _ r => decide (r.len = n)
  | .dead => false
 | _ => false
def newE (pu : Pu) (tm : Tm) (rd : Operand → Bool × RV) (H : List Root) (o : Oper) (d : Bool) (K : AS → Bool) : Bool :=
 match o.op with
 | .call c => match c.callee with
  | .invoke r nm => match rdO rd r with
   | some (.ifc t v) => invB P ty call pu rd H t v nm c.args.toList (fun r H => K ⟨putT tm true o.dst r, H⟩)
   | _ => false
  | .builtin .append => match c.args.toList with
   | [s, x] => if isOff (rd s).2 then pu.isNone && (decide (gOk true [(rd s).1, (rd x).1] ∧ c.argTypes.toList = [c.argTypes.getD 0 0, c.argTypes.getD 0 0]) && appO ty (ty (c.argTypes.getD 0 0)).k H (rd s).2 (rd x).2 (fun r H => K ⟨putT tm true o.dst r, H⟩)) else d
   | _ => d
  | _ => d
 | .slice t x none (some hi) none => match rdO rd x, rdO rd hi with
  | some (.c (.h id st n)), some (.c (.int _ m)) => cutB ty (ty t).k H id st n m (fun r H => K ⟨putT tm true o.dst r, H⟩)
  | _, _ => d
 | _ => d
def isNew : Op → Bool
 | .nilCheck _ => true
 | .makeInterface .. => true
 | .typeAssert .. => true
 | .index .. => true
 | .build .. => true
 | .slice .. => true
 | .binOp op .. => match op with
  | .and => true
  | .or => true
  | .andNot => true
  | .shl => true
  | .shr => true
  | .eql => true
  | .neq => true
  | .mul => true
  | .xor => true
  | _ => false
 | .indexAddr _ x _ => match x with
  | .global _ => true
  | _ => false
 | .field .. => true
 | .unOp op _ _ => match op with
  | .neg => true
  | _ => false
 | .call c => match c.callee with
  | .invoke .. => true
  | .builtin .append => true
  | _ => false
 | _ => false
def opX0 (pu : Pu) (ops : Array Oper) (σ : AS) (o : Oper) (K : AS → Bool) : Bool :=
 match isNew o.op with
 | true => match guardOf σ.tm ops o.guard with
  | some true => match newV P ty σ.rd σ.H o.op with
   | some r => K ⟨putT σ.tm true o.dst r, σ.H⟩
   | none => newE P ty call pu σ.tm σ.rd σ.H o (opB ty call pu ops σ o K) K
  | _ => opB ty call pu ops σ o K
 | false => opB ty call pu ops σ o K
noncomputable def opBF (pu : Pu) (ops : Array Oper) (σ : AS) (o : Oper) (K : AS → Bool) : Bool :=
 match guardF σ.tm ops o.guard with
 | none => false
 | some g => decide (gOk g (opGs (rdF σ) o.op)) &&
  (if isV o.op then (!g || decide (opV ty g (rdF σ) σ.H o.op).1) && K ⟨putT σ.tm g o.dst (opV ty g (rdF σ) σ.H o.op).2, σ.H⟩
  else if g then effB ty call pu σ.tm (rdF σ) σ.H o K else K ⟨putT σ.tm g o.dst (.c .junk), σ.H⟩)
noncomputable def opX (pu : Pu) (ops : Array Oper) (σ : AS) (o : Oper) (K : AS → Bool) : Bool :=
 match isNew o.op with
 | true => match guardF σ.tm ops o.guard with
  | some true => match newV P ty (rdF σ) σ.H o.op with
   | some r => K ⟨putT σ.tm true o.dst r, σ.H⟩
   | none => newE P ty call pu σ.tm (rdF σ) σ.H o (opBF ty call pu ops σ o K) K
  | _ => opBF ty call pu ops σ o K
 | false => opBF ty call pu ops σ o K
theorem opBF_eq (pu : Pu) (ops : Array Oper) (σ : AS) (o : Oper) (K : AS → Bool) : opBF ty call pu ops σ o K = opB ty call pu ops σ o K := by
 unfold opBF opB
 rw [rdF_eq, guardF_eq]
 all_goals rfl
theorem opX_eq (pu : Pu) (ops : Array Oper) (σ : AS) (o : Oper) (K : AS → Bool) : opX P ty call pu ops σ o K = opX0 P ty call pu ops σ o K := by
 unfold opX opX0
 rw [rdF_eq, guardF_eq, opBF_eq]
end
section
variable {P : Program} {ty : Ty} {call : CallB} {E : Env} {nt : Nat} {M : Mp} {σ : AS} {a : Act} {w : World} {pu : Pu} {ops : Array Oper} {o : Oper} {K : AS → Bool}
theorem opX_ok (hT : TyOk P ty) (hcall : ∀ pu f args H K, call pu f args H K = true → callK P pu f args H (fun r H => K r H = true)) (h : St E nt M σ a w) (hd : ∀ t, o.dst = some t → t < nt) (hw : opX P ty call pu ops σ o K = true) {next : Act → World → Prop} {Q : Exit → Act → World → Prop}
  (hn : ∀ M' σ' a' w', St E nt M' σ' a' w' → (∀ g, pu = some g → OldD (g.map M.phi) w w') → Stp M σ a w M' σ' a' w' (fun t => o.dst = some t) → K σ' = true → next a' w') : if Region.wanted o (yielded ops a.tmps) then o.wp P a w next Q else next (a.put o.dst undef) w := by
 rw [opX_eq] at hw
 unfold opX0 at hw
 split at hw
 case h_2 => exact op_ok hT h hd (opB_ok hcall hw) hn
 rename_i hnew
 clear hnew
 split at hw
 case h_2 => exact op_ok hT h hd (opB_ok hcall hw) hn
 rename_i hg
 have hwt : Region.wanted o (yielded ops a.tmps) = true := guard_ok h hg rfl
 split at hw
 ·rename_i r hr
  obtain ⟨v, v1, v2⟩ := newV_ok hT h hr
  rw [if_pos hwt]
  unfold Oper.wp
  rw [v2 w]
  exact hn M _ _ w (h.putV hd (fun _ => v1) (fun e => by cases e)) (fun _ _ => OldD.refl _ _) (val_stp rfl) hw
 ·rename_i hnone
  clear hnone
  have base : opB ty call pu ops σ o K = true → if Region.wanted o (yielded ops a.tmps) then o.wp P a w next Q else next (a.put o.dst undef) w := fun hw => op_ok hT h hd (opB_ok hcall hw) hn
  obtain ⟨dst, op, type, pos, after, guard⟩ := o
  unfold newE at hw
  simp only at hw
  split at hw
  ·rename_i c
   obtain ⟨callee, args, ats⟩ := c
   simp only at hw
   cases callee with
   | value f => exact base hw
   | builtin b =>
    cases b with
    | append =>
     simp only at hw
     split at hw
     case h_2 => exact base hw
     rename_i s x hsx
     split at hw
     case isFalse => exact base hw
     simp only [Bool.and_eq_true, decide_eq_true_eq] at hw
     obtain ⟨hpu, ⟨hgs, hats⟩, hw⟩ := hw
     obtain ⟨args⟩ := args
     simp only at hsx
     subst hsx
     obtain ⟨ats⟩ := ats
     simp only [gOk] at hgs
     have hs := h.rd (hgs.1 trivial)
     have hx := h.rd (hgs.2.1 trivial)
     obtain ⟨t, rfl⟩ : ∃ t, ats = [t, t] := ⟨_, hats⟩
     have htt : (List.toArray [t, t]).getD 0 0 = t := rfl
     rw [htt] at hw
     obtain ⟨M', w', v', r', H', r0, r1, r2, r3, r4, r5⟩ := appO_ok hT h.rel t type hs hx hw
     have hex : (execOp a.eval ⟨dst, .call ⟨.builtin .append, [s, x].toArray, [t, t].toArray⟩, type, pos, after, guard⟩).run P w = .ok (.value v') w' := by
      have := run_lift (x := Builtin.append_ #[t, t] type #[a.eval s, a.eval x]) r0
      simpa [execOp, resolve, invoke, builtin] using this
     rw [if_pos hwt]
     unfold Oper.wp
     rw [hex]
     exact hn _ _ _ _ (h.put r1 r2 hd r3) (fun _ e => by rw [e] at hpu; cases hpu) ⟨r4, r2, put_tm _ _ _⟩ r5
    | _ => exact base hw
   | invoke r nm =>
    simp only at hw
    split at hw
    case h_2 => cases hw
    rename_i t v hv
    rw [if_pos hwt]
    obtain ⟨u, hu, hc⟩ := rdO_ok h hv
    have run : ∀ (f : FuncId) (e : Option TypeId) (z : Value) (rz : RV) (ad : Addr), u = .pointer (some ad) → mthB P t nm = some (f, e) → MthV P ad w z e → ConR M σ.H w rz z → gOk true (rgs σ.rd args.toList) → call pu f (rz :: rds σ.rd args.toList) σ.H (fun r H => K ⟨putT σ.tm true dst r, H⟩) = true → Oper.wp P ⟨dst, .call ⟨.invoke r nm, args, ats⟩, type, pos, after, guard⟩ a w next Q := fun f e z rz ad hu2 hm hz hcz hgs hk => by
     obtain ⟨henter, hcl⟩ := hcall _ _ _ _ _ hk
     have hc2 := hcl E M w (z :: args.toList.map a.eval) h.rel ⟨z, _, rfl, hcz, rds_ok h args.toList hgs⟩
     have hmr := mth_ok hm (P.types.size + 99) ad w hz
     unfold Oper.wp
     have hrun : (execOp a.eval ⟨dst, .call ⟨.invoke r nm, args, ats⟩, type, pos, after, guard⟩).run P w = .ok (.enter f (z :: args.toList.map a.eval).toArray) w := by
      have e1 : #[z] ++ args.map a.eval = (z :: args.toList.map a.eval).toArray := by
       apply Array.toList_inj.1; simp
      have e2 : (#[a.eval r] ++ args.map a.eval).extract 1 (#[a.eval r] ++ args.map a.eval).size = args.map a.eval := ext1 _ _
      have e3 : (#[a.eval r] ++ args.map a.eval)[0]? = some (.iface t (.pointer (some ad))) := by
       rw [hu, hu2, Array.getElem?_append_left (Nat.zero_lt_one)]; rfl
      have e4 : (method (P.types.size + Made.depth) t (.pointer (some ad)) nm).run P w = .ok (f, z) w := hmr
      have e5 : (callMethod (.iface t (.pointer (some ad))) nm (args.map a.eval)).run P w = .ok (.enter f (z :: args.toList.map a.eval).toArray) w := by
       have h1 : (callMethod (.iface t (.pointer (some ad))) nm (args.map a.eval)).run P w = ((do let (f, receiver) ← method (P.types.size + Made.depth) t (.pointer (some ad)) nm; callFunc f (#[receiver] ++ args.map a.eval)) : Sem Next).run P w := rfl
       rw [h1, Sem.run_bind, e4]
       show (callFunc f (#[z] ++ args.map a.eval)).run P w = _
       rw [e1]
       exact henter.run _ _
      have h2 : (execOp a.eval ⟨dst, .call ⟨.invoke r nm, args, ats⟩, type, pos, after, guard⟩).run P w = ((do
        let some recv := (#[a.eval r] ++ args.map a.eval)[0]? | stuck "call: a method without a receiver"
        callMethod recv nm ((#[a.eval r] ++ args.map a.eval).extract 1 (#[a.eval r] ++ args.map a.eval).size)) : Sem Next).run P w := rfl
      rw [h2, e3, e2]
      exact e5
     rw [hrun, Oper.upon_enter]
     refine hc2.mono ?_
     rintro e w' ⟨M', H', r', v', rfl, q1, q2, q3, q4, q5, q6⟩
     exact hn _ _ _ _ (h.put q1 q2 hd q3) q4 ⟨q5, q2, put_tm _ _ _⟩ q6
    unfold invB at hw
    have hptr : invB.ptrOk σ.H v = true → ∃ ad, u = .pointer (some ad) := fun hp => by
     unfold invB.ptrOk at hp
     split at hp
     ·rename_i id n i o
      split at hp
      ·rename_i fz t2 sz r2 hr2
       exact ⟨_, (hc.2 _ _ _ _ hr2).2 (by simpa using hp)⟩
      ·cases hp
     ·cases hp
    split at hw
    ·rename_i f hm
     simp only [Bool.and_eq_true, decide_eq_true_eq] at hw
     obtain ⟨⟨w1, w2⟩, w3⟩ := hw
     obtain ⟨ad, had⟩ := hptr w2
     exact run f none u v ad had hm had hc w1 w3
    ·rename_i f e hm
     simp only [Bool.and_eq_true, decide_eq_true_eq] at hw
     obtain ⟨⟨⟨w1, w2⟩, w4⟩, w3⟩ := hw
     obtain ⟨ad, had⟩ := hptr w2
     obtain ⟨z, z1, z2⟩ := load_ok hT h.rel e hc w4
     have z3 := z2 w Same.refl
     rw [had] at z3
     exact run f (some e) z _ ad had hm (show (loadVar e ad).run P w = .ok z w by simpa [Instr.loadAt, Instr.sureAddr] using z3) z1 w1 w3
    ·cases hw
  ·rename_i t x hi
   split at hw
   ·rename_i id st n k m hx hhi
    rw [if_pos hwt]
    have hxv := rdO_ok h hx
    have hmv := con_int (rdO_ok h hhi)
    unfold cutB at hw
    split at hw
    case h_2 => cases hw
    rename_i e hk
    split at hw
    case h_2 => cases hw
    rename_i t2 sz r hr
    simp only [Bool.and_eq_true, decide_eq_true_eq, Bool.not_eq_true'] at hw
    obtain ⟨⟨⟨w1, w2, w3, rfl⟩, w4⟩, w5⟩ := hw
    obtain ⟨hu, hke⟩ : P.underlying t = some (.slice e) ∧ _ := kOk_of hT hk
    have hel : P.elem t = e := by simp [Program.elem, hu]
    obtain ⟨cap, cur, ad, hv, k1, k2, k3, k4, k5⟩ := (hxv.2 _ _ _ _ hr).2 w3
    obtain ⟨g1, g2, g3, g4⟩ := takeR_get w4 (n := st + m.toNat) (by omega)
    obtain ⟨q1, q2⟩ := move_ok h.rel hr (r' := r.takeR (st + m.toNat)) (o := 0) g2 g3 (by omega) (fun i o hi => by rw [Nat.zero_add]; exact g4 i o (by omega))
    rw [Nat.zero_mul, Nat.add_zero] at q1 q2
    unfold Oper.wp
    have hrun : (execOp a.eval ⟨dst, .slice t x none (some hi) none, type, pos, after, guard⟩).run P w = .ok (.value (.slice (some ad) m.toNat cap)) w := by
     refine run_lift (x := Instr.sliceAt t (a.eval x) none (some (a.eval hi)) none) ?_
     rw [hv, hmv, run_sliceAt_slice w t _ _ _ _ (by rw [hel]; exact hu), run_slice_h w t _ n cap (by rw [hel]; exact hu) k m w1 (by omega), hel, info_sz hT hke]
     simp only [Result.andThen, sliced, Nat.sub_zero, Nat.zero_mul]
     split
     ·rfl
     ·rw [k5 (by omega)]; simp [addr_add]
    rw [hrun]
    refine hn _ _ _ _ (h.put (r := .c (.h σ.H.length st m.toNat)) q1 q2 hd ?_) (fun _ _ => OldD.refl _ _) ⟨by simp [setRoot_len], q2, put_tm _ _ _⟩ w5
    refine ⟨⟨by simp [setRoot_len], rfl⟩, fun fz t3 s3 r3 hr3 => ?_⟩
    rcases cut_at hr3 with ⟨-, e3⟩ | ⟨e1, -⟩
    ·cases e3
     have n1 : (M.upd σ.H.length (M.phi id) (M.off id)).phi σ.H.length = M.phi id := if_pos rfl
     have n2 : (M.upd σ.H.length (M.phi id) (M.off id)).off σ.H.length = M.off id := if_pos rfl
     exact ⟨by rw [g1]; exact Nat.le_refl _, fun _ => ⟨cap, cur, ad, rfl, by omega, k2, by rw [n1]; exact k3, by rw [n2]; exact k4, by rw [n1, n2]; exact k5⟩⟩
    ·exact absurd rfl e1
   ·exact base hw
  ·exact base hw
end
def leA (k : Nat) (x y : AV) : Bool :=
 match y with
 | .junk => true
 | .int k n => match x with
  | .int k' m => decide (k' = k ∧ m = n)
  | _ => false
 | .bool b => match x with
  | .bool a => decide (a = b)
  | _ => false
 | .flt b => match x with
  | .flt a => decide (a = b)
  | _ => false
 | .str b => match x with
  | .str a => decide (a = b)
  | _ => false
 | .nilp => match x with
  | .nilp => true
  | _ => false
 | .nils => match x with
  | .nils => true
  | _ => false
 | .ptr id n i o => match x with
  | .ptr id' n' i' o' => decide (id' = id ∧ n' = n ∧ i' = i ∧ o' = o)
  | _ => false
 | .h id st n => match x with
  | .h id' st' n' => decide (id' = id ∧ st' = st ∧ n' = n)
  | _ => false
 | .sl n sz g => match k with
  | 0 => false
  | k + 1 => match x with
   | .sl n' sz' f => decide (n' = n ∧ sz' = sz) && (List.range n).all fun i => (List.range sz).all fun j => leA k (f i j) (g i j)
   | _ => false
 | .rp n g => match k with
  | 0 => false
  | k + 1 => match x with
   | .rp n' f => decide (n' = n) && (List.range n).all fun j => leA k (f j) (g j)
   | _ => false
 | _ => false
def leL (k : Nat) : List AV → List AV → Bool
 | [], [] => true
 | a :: l, b :: m => leA k a b && leL k l m
 | _, _ => false
def leR1 (k : Nat) : RV → RV → Bool
 | _, .c .junk => true
 | .c a, .c b => leA k a b
 | .agg l, .agg m => leL k l m
 | .fn f l, .fn g m => decide (f = g) && leL k l m
 | .ifc t (.c a), .ifc t' (.c b) => decide (t = t') && leA k a b
 | .ifc t (.agg a), .ifc t' (.agg b) => decide (t = t') && leL k a b
 | _, _ => false
def leRL (k : Nat) : List RV → List RV → Bool
 | [], [] => true
 | a :: l, b :: m => leR1 k a b && leRL k l m
 | _, _ => false
def leR (k : Nat) (x y : RV) : Bool :=
 match y with
 | .tup m => match x with
  | .tup l => leRL k l m
  | _ => false
 | y => leR1 k x y
def leRt (k : Nat) : Root → Root → Bool
 | _, .dead => true
 | .live fz t sz r, .live fz' t' sz' r' => decide (fz' = fz ∧ t' = t ∧ sz' = sz ∧ r'.len = r.len ∧ r'.one = r.one ∧ r'.isBox = r.isBox) && (List.range r.len).all fun i => (List.range sz).all fun o => leA k (r.get i o) (r'.get i o)
 | .dead, .live .. => false
def leH (k : Nat) (H H' : List Root) : Bool := decide (H.length = H'.length) && (List.range H.length).all fun id => leRt k (rootAt H id) (rootAt H' id)
noncomputable def leT (k nt : Nat) (tm tm' : Tm) : Bool := (tm'.all fun e => decide (e.1 < nt)) && (List.range nt).all fun t => decide ((lkF tm' t).1 = (lkF tm t).1) && leR k (lkF tm t).2 (lkF tm' t).2
noncomputable def leS (k nt : Nat) (σ σ' : AS) : Bool := leH k σ.H σ'.H && leT k nt σ.tm σ'.tm
section
variable {P : Program} {ty : Ty} {E : Env} {nt n : Nat} {M : Mp} {H H' : List Root} {σ σ' : AS} {a : Act} {w : World}
theorem le_con0 {rho : Nat → Prop} : ∀ (k : Nat) {x y : AV} {v : Value}, leA k x y = true → Con0 rho w x v → Con0 rho w y v
 | k, x, y, v, h, c => by
  unfold leA at h
  cases y <;> simp only at h
  case junk => trivial
  case sl n sz g =>
   cases k with
   | zero => cases h
   | succ k =>
    cases x <;> simp only at h
    case sl n' sz' f =>
     simp only [Bool.and_eq_true, decide_eq_true_eq, List.all_eq_true, List.mem_range] at h
     obtain ⟨⟨rfl, rfl⟩, h⟩ := h
     obtain ⟨a, b, off, cc, h1, h2, h3, h4, h5⟩ := c
     refine ⟨a, b, off, cc, h1, h2, h3, h4, fun i hi j hj => ?_⟩
     obtain ⟨u, u1, u2⟩ := h5 i hi j hj
     exact ⟨u, u1, le_con0 k (h i hi j hj) u2⟩
    all_goals cases h
  case rp n g =>
   cases k with
   | zero => cases h
   | succ k =>
    cases x <;> simp only at h
    case rp n' f =>
     simp only [Bool.and_eq_true, decide_eq_true_eq, List.all_eq_true, List.mem_range] at h
     obtain ⟨rfl, h⟩ := h
     obtain ⟨b, off, h1, h2, h3⟩ := c
     refine ⟨b, off, h1, h2, fun j hj => ?_⟩
     obtain ⟨u, u1, u2⟩ := h3 j hj
     exact ⟨u, u1, le_con0 k (h j hj) u2⟩
    all_goals cases h
  all_goals first | (cases h; done) | (cases x <;> (try simp only at h) <;> first | (cases h; done) | exact c | (simp only [decide_eq_true_eq] at h; first | (subst h; exact c) | (obtain ⟨rfl, rfl⟩ := h; exact c) | exact c.elim))
def ShapeH (H H' : List Root) : Prop := H.length = H'.length ∧ ∀ id fz t sz r', rootAt H' id = .live fz t sz r' → ∃ r, rootAt H id = .live fz t sz r ∧ r.len = r'.len
theorem le_con (hs : ShapeH H H') (k : Nat) {x y : AV} {v : Value} (h : leA k x y = true) (c : Con M H w x v) : Con M H' w y v := by
 have keep : ∀ z, Con M H w z v → (∀ n sz f, z ≠ .sl n sz f) → (∀ n f, z ≠ .rp n f) → Con M H' w z v := fun z c n1 n2 => by
  cases z with
  | ptr id n i o =>
   refine ⟨⟨hs.1 ▸ c.1.1, c.1.2⟩, fun fz t sz r hr => ?_⟩
   obtain ⟨r0, k1, k2⟩ := hs.2 _ _ _ _ _ hr
   have := c.2 _ _ _ _ k1
   rw [k2] at this; exact this
  | h id st len =>
   refine ⟨⟨hs.1 ▸ c.1.1, c.1.2⟩, fun fz t sz r hr => ?_⟩
   obtain ⟨r0, k1, k2⟩ := hs.2 _ _ _ _ _ hr
   have := c.2 _ _ _ _ k1
   rw [k2] at this; exact this
  | _ => exact c
 cases y with
 | sl n sz g =>
  have c0 : Con0 M.rho w x v := by
   unfold leA at h
   try simp only at h
   cases k with
   | zero => cases h
   | succ k => cases x <;> first | exact c | cases h
  exact le_con0 k h c0
 | rp n g =>
  have c0 : Con0 M.rho w x v := by
   unfold leA at h
   try simp only at h
   cases k with
   | zero => cases h
   | succ k => cases x <;> first | exact c | cases h
  exact le_con0 k h c0
 | junk => trivial
 | ptr id n i o =>
  refine keep _ ?_ (fun _ _ _ e => by cases e) (fun _ _ e => by cases e)
  unfold leA at h; (try simp only at h)
  cases x <;> first | (cases h; done) | (simp only [decide_eq_true_eq] at h; obtain ⟨rfl, rfl, rfl, rfl⟩ := h; exact c)
 | h id st n =>
  refine keep _ ?_ (fun _ _ _ e => by cases e) (fun _ _ e => by cases e)
  unfold leA at h; (try simp only at h)
  cases x <;> first | (cases h; done) | (simp only [decide_eq_true_eq] at h; obtain ⟨rfl, rfl, rfl⟩ := h; exact c)
 | int k2 n =>
  unfold leA at h; (try simp only at h)
  cases x <;> first | (cases h; done) | (simp only [decide_eq_true_eq] at h; obtain ⟨rfl, rfl⟩ := h; exact c)
 | bool n =>
  unfold leA at h; (try simp only at h)
  cases x <;> first | (cases h; done) | (simp only [decide_eq_true_eq] at h; subst h; exact c)
 | flt n =>
  unfold leA at h; (try simp only at h)
  cases x <;> first | (cases h; done) | (simp only [decide_eq_true_eq] at h; subst h; exact c)
 | str n =>
  unfold leA at h; (try simp only at h)
  cases x <;> first | (cases h; done) | (simp only [decide_eq_true_eq] at h; subst h; exact c)
 | nilp =>
  unfold leA at h; (try simp only at h)
  cases x <;> first | exact c | cases h
 | nils =>
  unfold leA at h; (try simp only at h)
  cases x <;> first | exact c | cases h
 | _ => unfold leA at h; (try simp only at h); cases h
theorem le_conL (hs : ShapeH H H') (k : Nat) : ∀ {l m : List AV} {vs : List Value}, leL k l m = true → ConL M H w l vs → ConL M H' w m vs
 | [], [], _, _, c => c
 | _ :: _, _ :: _, _, h, ⟨v, r, e, c1, c2⟩ => by
  simp only [leL, Bool.and_eq_true] at h
  exact ⟨v, r, e, le_con hs k h.1 c1, le_conL hs k h.2 c2⟩
 | [], _ :: _, _, h, _ => by cases h
 | _ :: _, [], _, h, _ => by cases h
theorem le_conR1 (hs : ShapeH H H') (k : Nat) {x y : RV} {v : Value} (h : leR1 k x y = true) (c : ConR M H w x v) : ConR M H' w y v := by
 unfold leR1 at h
 split at h
 ·trivial
 ·exact le_con hs k h c
 ·obtain ⟨vs, e, c⟩ := c; exact ⟨vs, e, le_conL hs k h c⟩
 ·simp only [Bool.and_eq_true, decide_eq_true_eq] at h
  obtain ⟨rfl, h⟩ := h
  obtain ⟨vs, e, c⟩ := c; exact ⟨vs, e, le_conL hs k h c⟩
 ·simp only [Bool.and_eq_true, decide_eq_true_eq] at h
  obtain ⟨rfl, h⟩ := h
  obtain ⟨u, e, c⟩ := c; exact ⟨u, e, le_con hs k h c⟩
 ·simp only [Bool.and_eq_true, decide_eq_true_eq] at h
  obtain ⟨rfl, h⟩ := h
  obtain ⟨u, e, vs, e2, c⟩ := c; exact ⟨u, e, vs, e2, le_conL hs k h c⟩
 ·cases h
theorem le_conRL (hs : ShapeH H H') (k : Nat) : ∀ {l m : List RV} {vs : List Value}, leRL k l m = true → ConRL M H w l vs → ConRL M H' w m vs
 | [], [], _, _, c => c
 | _ :: _, _ :: _, _, h, ⟨v, r, e, c1, c2⟩ => by
  simp only [leRL, Bool.and_eq_true] at h
  exact ⟨v, r, e, le_conR1 hs k h.1 c1, le_conRL hs k h.2 c2⟩
 | [], _ :: _, _, h, _ => by cases h
 | _ :: _, [], _, h, _ => by cases h
theorem le_conR (hs : ShapeH H H') (k : Nat) {x y : RV} {v : Value} (h : leR k x y = true) (c : ConR M H w x v) : ConR M H' w y v := by
 unfold leR at h
 split at h
 ·split at h
  ·obtain ⟨vs, e, c⟩ := c; exact ⟨vs, e, le_conRL hs k h c⟩
  ·cases h
 ·exact le_conR1 hs k h c
theorem leH_at {k : Nat} (h : leH k H H' = true) {id : Nat} {fz : Bool} {t : TypeId} {sz : Nat} {r' : Row} (hr : rootAt H' id = .live fz t sz r') : ∃ r, rootAt H id = .live fz t sz r ∧ r'.len = r.len ∧ r'.one = r.one ∧ r'.isBox = r.isBox ∧ ∀ i, i < r.len → ∀ o, o < sz → leA k (r.get i o) (r'.get i o) = true := by
 unfold leH at h
 simp only [Bool.and_eq_true, decide_eq_true_eq, List.all_eq_true, List.mem_range] at h
 have hl := h.2 id (by rw [h.1]; exact rootAt_lt hr)
 rw [hr] at hl
 cases hh : rootAt H id with
 | dead => rw [hh] at hl; cases hl
 | live fz2 t2 sz2 r =>
  rw [hh] at hl
  simp only [leRt, Bool.and_eq_true, decide_eq_true_eq, List.all_eq_true, List.mem_range] at hl
  obtain ⟨⟨rfl, rfl, rfl, e1, e2, e3⟩, hc⟩ := hl
  exact ⟨r, rfl, e1, e2, e3, hc⟩
theorem leH_shape {k : Nat} (h : leH k H H' = true) : ShapeH H H' := by
 refine ⟨?_, fun id fz t sz r' hr => ?_⟩
 ·unfold leH at h
  simp only [Bool.and_eq_true, decide_eq_true_eq] at h
  exact h.1
 ·obtain ⟨r, h1, h2, -⟩ := leH_at h hr
  exact ⟨r, h1, h2.symm⟩
theorem Rel.le {k : Nat} (hl : leH k H H' = true) (h : Rel E M H w) : Rel E M H' w := by
 have lift : ∀ {id : Nat} {fz : Bool} {t : TypeId} {sz : Nat} {r' : Row}, rootAt H' id = .live fz t sz r' → ∃ r, rootAt H id = .live fz t sz r := fun hr => by
  obtain ⟨r, h1, -⟩ := leH_at hl hr; exact ⟨r, h1⟩
 refine ⟨h.bel, fun id fz t sz r hr => ?_, fun id fz t sz r hr => ?_, fun id t sz r hr => ?_, fun id t sz r hr => ?_, fun i j t s r t' s' r' hi hj he => ?_, h.rlt, h.src, h.tau.keep rfl (fun _ _ _ => rfl) (fun b q hq => (h.tau.new b q hq).2) fun b q j fz t s r hq hj => ?_⟩
 ·obtain ⟨r0, h0⟩ := lift hr; exact h.low _ _ _ _ _ h0
 ·obtain ⟨r0, h0, e1, e2, e3, hc⟩ := leH_at hl hr
  obtain ⟨cur, k1, k2, k3, k4, k5, k6⟩ := h.row _ _ _ _ _ h0
  refine ⟨cur, k1, k2, by rw [e1]; exact k3, k4, by rw [e2]; exact k5, fun i hi o ho => ?_⟩
  rw [e1] at hi
  obtain ⟨v, g1, g2, g3⟩ := k6 i hi o ho
  refine ⟨v, g1, g2, ?_⟩
  unfold RCon at g3 ⊢
  rw [e3]
  split
  ·rename_i hb; rw [if_pos hb] at g3; exact le_con (leH_shape hl) k (hc i hi o ho) g3
  ·rename_i hb; rw [if_neg hb] at g3; exact le_con0 k (hc i hi o ho) g3
 ·obtain ⟨r0, h0⟩ := lift hr; exact h.froz _ _ _ _ h0
 ·obtain ⟨r0, h0⟩ := lift hr; exact h.thaw _ _ _ _ h0
 ·obtain ⟨r0, h0⟩ := lift hi; obtain ⟨r1, h1⟩ := lift hj; exact h.inj _ _ _ _ _ _ _ _ h0 h1 he
 ·obtain ⟨r0, h0⟩ := lift hj; exact h.tau.row _ _ _ _ _ _ _ hq h0
theorem lk_none : ∀ (tm : Tm) (t : Nat), (∀ e ∈ tm, e.1 ≠ t) → lk tm t = (true, .c .junk)
 | [], _, _ => rfl
 | (k, v) :: l, t, h => by
  have h1 : k ≠ t := h _ (List.mem_cons_self ..)
  simp only [lk]
  rw [if_neg h1]
  exact lk_none l t fun e he => h e (List.mem_cons_of_mem _ he)
theorem Kp.le {k : Nat} (hl : leH k H H' = true) : Kp M H w M H' w := fun x v c => by
 have hs := leH_shape hl
 cases x with
 | ptr id n i o =>
  refine ⟨⟨hs.1 ▸ c.1.1, c.1.2⟩, fun fz t sz r hr => ?_⟩
  obtain ⟨r0, k1, k2⟩ := hs.2 _ _ _ _ _ hr
  have := c.2 _ _ _ _ k1
  rw [k2] at this; exact this
 | h id st len =>
  refine ⟨⟨hs.1 ▸ c.1.1, c.1.2⟩, fun fz t sz r hr => ?_⟩
  obtain ⟨r0, k1, k2⟩ := hs.2 _ _ _ _ _ hr
  have := c.2 _ _ _ _ k1
  rw [k2] at this; exact this
 | _ => exact c
theorem St.le {k : Nat} (hl : leS k nt σ σ' = true) (h : St E nt M σ a w) : St E nt M σ' a w := by
 unfold leS leT at hl
 simp only [lkF_eq, Bool.and_eq_true, decide_eq_true_eq, List.all_eq_true, List.mem_range] at hl
 obtain ⟨h1, h2, h3⟩ := hl
 refine ⟨h.rel.le h1, fun t ht => ?_, fun t ht => ?_, h.sz, h.df⟩
 ·by_cases hb : t < nt
  ·obtain ⟨e, hc⟩ := h3 t hb
   rw [e] at ht
   exact le_conR (leH_shape h1) k hc (h.tms t ht)
  ·rw [lk_none σ'.tm t fun e he hh => hb (hh ▸ h2 e he)]; trivial
 ·by_cases hb : t < nt
  ·obtain ⟨e, hc⟩ := h3 t hb
   rw [e] at ht
   exact h.off t ht
  ·rw [lk_none σ'.tm t fun e he hh => hb (hh ▸ h2 e he)] at ht; cases ht
end
def idsA : AV → List Nat
 | .ptr id .. => [id]
 | .h id .. => [id]
 | _ => []
def idsL : List AV → List Nat
 | [] => []
 | a :: l => idsA a ++ idsL l
mutual
def idsR : RV → List Nat
 | .c a => idsA a
 | .agg l => idsL l
 | .fn _ l => idsL l
 | .tup l => idsRL l
 | .ifc _ x => idsR x
def idsRL : List RV → List Nat
 | [] => []
 | a :: l => idsR a ++ idsRL l
end
def idsLL : List (List AV) → List Nat
 | [] => []
 | a :: l => idsL a ++ idsLL l
def idsRt : Root → List Nat
 | .live _ _ _ (.box l) => idsL l
 | .live _ _ _ (.own l) => idsLL l
 | _ => []
def walkI (n : Nat) (H : List Root) : Nat → List Nat → List Nat → List Nat
 | 0, _, acc => acc.reverse
 | _ + 1, [], acc => acc.reverse
 | k + 1, id :: l, acc => if Nat.blt id n || acc.contains id then walkI n H k l acc else walkI n H k (idsRt (rootAt H id) ++ l) (id :: acc)
noncomputable def idsT (tm : Tm) : List Nat → List Nat
 | [] => []
 | t :: l => idsR (lkF tm t).2 ++ idsT tm l
def idsH : List Root → List Nat
 | [] => []
 | r :: l => idsRt r ++ idsH l
noncomputable def canon (n nt : Nat) (σ : AS) : List Nat := walkI n σ.H 100000 (idsT σ.tm (List.range nt) ++ idsH (σ.H.take n)) []
noncomputable def normS (n nt : Nat) (σ : AS) : AS := renS n (canon n nt σ) ⟨fxF σ.tm (List.range nt), σ.H⟩
section
variable {E : Env} {nt n : Nat} {M : Mp} {σ : AS} {a : Act} {w : World}
theorem St.fx (h : St E nt M σ a w) (ks : List Nat) : St E nt M ⟨fxT σ.tm ks, σ.H⟩ a w := by
 refine ⟨h.rel, fun t ht => ?_, fun t ht => ?_, h.sz, h.df⟩
 ·have ht : (lk (fxT σ.tm ks) t).1 = true := ht
  show ConR M σ.H w (lk (fxT σ.tm ks) t).2 _
  rcases lk_fxT σ.tm ks t with ⟨-, e⟩ | ⟨-, e⟩
  ·rw [e] at ht ⊢; exact h.tms t ht
  ·rw [e]; trivial
 ·have ht : (lk (fxT σ.tm ks) t).1 = false := ht
  rcases lk_fxT σ.tm ks t with ⟨-, e⟩ | ⟨-, e⟩
  ·rw [e] at ht; exact h.off t ht
  ·rw [e] at ht; cases ht
theorem St.norm (h : St E nt M σ a w) (hn : n ≤ σ.H.length) (ho : okI n (canon n nt σ) = true) : St E nt (renM n (canon n nt σ) M) (normS n nt σ) a w := by
 unfold normS
 rw [fxF_eq]
 exact (h.fx (List.range nt)).ren hn ho
theorem Kp.norm {M0 : Mp} {H0 : List Root} {w0 : World} (h : Kp M0 H0 w0 M σ.H w) (hn : H0.length ≤ σ.H.length) : Kp M0 H0 w0 (renM H0.length (canon H0.length nt σ) M) (normS H0.length nt σ).H w := fun x v c => by
 have := (h x v c).ren (ids := canon H0.length nt σ) hn
 rw [ren_scp (scp_of c)] at this
 exact this
end
end Go.Proofs.YtbfbjghfcajddaaGreatDoor.Ab
