/- Texts of the proof, joined: Ops, OpA, Copy, Grow, OpE, Le, Force. -/
import Derived.Laws.CopyRow
import Derived.Lib.AppendZerosOnto
import Derived.Laws.Entries
import Derived.Test.YtabadfkikdefeaaGreatR3
set_option linter.all false
set_option maxRecDepth 100000
set_option maxHeartbeats 6400000
namespace Go.Proofs.YtabadfkikdefeaaGreat.Ab
open Go.RowKit
noncomputable def lkF (tm:Tm) (t:Nat):Bool×RV:=List.rec (motive:=fun _=>Bool×RV) (true,.c .junk) (fun e _ ih=>Bool.rec ih e.2 (Nat.beq e.1 t)) tm
theorem yp7:∀(tm:Tm) (t:Nat),lkF tm t=lk tm t
 | [],_=>rfl
 | (k,v)::l,t=>by
  have e:lkF ((k,v)::l) t=Bool.rec (lkF l t) v (Nat.beq k t):=rfl
  rw[e,yp7 l t]
  by_cases h:k=t
  ·subst h;rw[Nat.beq_refl];simp[lk]
  ·have:Nat.beq k t=false:=by rw[Bool.eq_false_iff];exact fun hh=>h (Nat.eq_of_beq_eq_true hh)
   rw[this];simp[lk,h]
noncomputable def rdF (σ:AS) (x:Operand):Bool×RV :=
 match x with
 | .tmp t=>lkF σ.tm t
 | .const v=>(true,nl7 v)
 | .func f=>(true,.fn f [])
 | .global _=>(true,.c .junk)
theorem mw7 (σ:AS):rdF σ=σ.rd:=by
 funext x
 cases x with
 | tmp t=>exact yp7 σ.tm t
 | _=>rfl
noncomputable def guardF (tm:Tm) (ops:Array Oper) (gd:Option (Nat×Bool)):Option Bool :=
 match gd with
 | none=>some true
 | some (j,want)=>match ljb7 ops.toList j with
  | some o=>match o.dst with
   | some d=>match lkF tm d with
    | (g,.c (.bool b))=>some (g&&(if want then b else !b))
    | _=>none
   | none=>none
  | none=>none
theorem xj7 (tm:Tm) (ops:Array Oper) (gd:Option (Nat×Bool)):guardF tm ops gd=guardOf tm ops gd:=by
 unfold guardF guardOf
 simp only[yp7]
 cases gd <;> rfl
noncomputable def fxF (tm:Tm):List Nat→Tm
 | []=>[]
 | t::l=>(t,lkF tm t)::fxF tm l
theorem tab7 (tm:Tm):∀l:List Nat,fxF tm l=fxT tm l
 | []=>rfl
 | t::l=>by simp only[fxF,fxT,yp7,tab7 tm l]
section
variable (P:Program) (ty:Ty)
def fqb7 (op:BinOp):RV→RV→Option RV
 | .c (.int k a),.c (.int k' b)=>match op with
  | .shl=>if 0≤b then some (.c (.int k (k.wrap (a*2 ^ min b.toNat k.bits)))) else none
  | .shr=>if 0≤b then some (.c (.int k (a.fdiv (2 ^ min b.toNat k.bits)))) else none
  | .and=>if k=k' then some (.c (.int k (k.wrap (BitVec.ofInt k.bits a &&& BitVec.ofInt k.bits b).toNat))) else none
  | .or=>if k=k' then some (.c (.int k (k.wrap (BitVec.ofInt k.bits a ||| BitVec.ofInt k.bits b).toNat))) else none
  | .andNot=>if k=k' then some (.c (.int k (k.wrap (BitVec.ofInt k.bits a &&& ~~~BitVec.ofInt k.bits b).toNat))) else none
  | .xor=>if k=k' then some (.c (.int k (k.wrap (BitVec.ofInt k.bits a ^^^ BitVec.ofInt k.bits b).toNat))) else none
  | .mul=>if k=k' then some (.c (.int k (k.wrap (a*b)))) else none
  | _=>none
 | _,_=>none
def ypb7 (H:List Root) (t:TypeId):RV→RV→Option Bool
 | .c (.ptr id n _ _),.c .nilp=>match P.underlying t,aa7 H id with
  | some (.pointer _),.live _ _ _ r=>if r.len=n then some false else none
  | _,_=>none
 | .c .nilp,.c .nilp=>match P.underlying t with
  | some (.pointer _)=>some true
  | _=>none
 | .c .nils,.c .nils=>match P.underlying t with
  | some (.slice _)=>some true
  | _=>none
 | .c (.h id st n),.c .nils=>match P.underlying t,aa7 H id with
  | some (.slice _),.live _ _ _ r=>if st+n=r.len then some false else none
  | _,_=>none
 | .c (.sl n _ _),.c .nils=>match P.underlying t with
  | some (.slice _)=>if 0<n then some false else none
  | _=>none
 | _,_=>none
def hnb7 (l m:List AV):List Field→Option Bool
 | []=>some true
 | f :: fs => match f.name == "_", P.underlying f.type, nth l f.offset, nth m f.offset with
  | false,some (.int _),.int k a,.int k' b=>if k=k' then (hnb7 l m fs).map fun r=>decide (a=b)&&r else none
  | false,some .bool,.bool a,.bool b=>(hnb7 l m fs).map fun r=>(a==b)&&r
  | _,_,_,_=>none
def nob7 (H:List Root) (t:TypeId) (p q:RV):Option Bool :=
 match p,q with
 | .agg l,.agg m=>if P.stoodInHeld t=false∧P.eqGuardType P.depth t=false then (match P.underlying t with
  | some (.struct fs)=>hnb7 P l m fs.toList
  | _=>none) else none
 | p,q=>ypb7 P H t p q
def spb7 (H:List Root) (op:BinOp) (t:TypeId) (p q:RV):Option RV :=
 match op with
 | .eql=>(nob7 P H t p q).map fun b=>.c (.bool b)
 | .neq=>(nob7 P H t p q).map fun b=>.c (.bool (!b))
 | _=>none
def jsb7 (k:TyK) (H:List Root):RV→RV→Option RV
 | .c .nils,.c (.int _ m)=>match k with
  | .sl _=>if m=0 then some (.c .nils) else none
  | _=>none
 | .c (.sl n sz f),.c (.int _ m)=>match k with
  | .sl e=>if 0≤m∧m<n∧sz=(ty e).sz then some (.c (.sl (n-m.toNat) sz fun i j=>f (i+m.toNat) j)) else none
  | _=>none
 | .c (.h id st n),.c (.int _ m)=>match k with
  | .sl e=>match aa7 H id with
   | .live _ _ sz r=>if 0≤m∧m≤n∧st+n=r.len∧sz=(ty e).sz then some (.c (.h id (st+m.toNat) (n-m.toNat))) else none
   | .dead=>none
  | _=>none
 | _,_=>none
def prb7 (k:TyK) (H:List Root):RV→RV→RV→Option RV
 | .c (.sl n sz f),.c (.int _ l),.c (.int _ m)=>match k with
  | .sl e=>if 0≤l∧l<m∧m≤n∧sz=(ty e).sz then some (.c (.sl (m.toNat-l.toNat) sz fun i j=>f (i+l.toNat) j)) else none
  | _=>none
 | .c (.h id st n),.c (.int _ l),.c (.int _ m)=>match k with
  | .sl e=>match aa7 H id with
   | .live _ _ sz r=>if 0≤l∧l≤n∧m=n∧st+n=r.len∧sz=(ty e).sz then some (.c (.h id (st+l.toNat) (n-l.toNat))) else none
   | .dead=>none
  | _=>none
 | _,_,_=>none
def pqb7 (t:TypeId):RV→RV→Option RV
 | .agg l,.c (.int _ i)=>match P.underlying t with
  | some (.array n e)=>match P.underlying e with
   | some (.struct _)=>none
   | some (.array _ _)=>none
   | some _=>if 0≤i∧i<n∧i.toNat*P.cellsOf e<l.length∧(P.info? e).isSome=true then some (.c (nth l (i.toNat*P.cellsOf e))) else none
   | none=>none
  | _=>none
 | _,_=>none
def rdO (rd:Operand→Bool×RV) (x:Operand):Option RV :=
 match x with
 | .global g=>(glV g).map .c
 | x=>match rd x with
  | (true,v)=>some v
  | _=>none
def gsb7 (t:TypeId):RV→RV→Option RV
 | .c (.str s),.c (.int _ i)=>match P.underlying t with
  | some .string=>match (if 0≤i then s[i.toNat]? else none) with
   | some b=>some (.c (.int .u8 b.toNat))
   | none=>none
  | _=>none
 | _,_=>none
def trb7 (t:TypeId):RV→RV→Option RV
 | .c (.rp m f),.c (.int _ i)=>match P.underlying t with
  | some (.array n e)=>if 0≤i∧i<n∧(i.toNat+1)*P.cellsOf e≤m∧(P.info? e).isSome=true then some (.c (.rp (P.cellsOf e) fun j=>f (i.toNat*P.cellsOf e+j))) else none
  | _=>none
 | _,_=>none
def itb7:RV→Option RV
 | .c (.int k a)=>some (.c (.int k (k.wrap (-a))))
 | _=>none
def etb7:RV→Bool
 | .c .nils=>true
 | .c (.sl 0 _ _)=>true
 | _=>false
def upb7 (H:List Root) (k k2:TyK) (p q:RV):Option RV :=
 match k,k2,etb7 q with
 | .sl _,.sl _,true=>match p with
  | .c .nils=>some (.c .nils)
  | .c (.h id st n)=>match aa7 H id with
   | .live _ _ _ r=>if st+n=r.len then some (.c (.h id st n)) else none
   | .dead=>none
  | _=>none
 | _,_,_=>none
def ckb7 (rd:Operand→Bool×RV) (H:List Root):Op→Option RV
 | .nilCheck x=>match rdO rd x with
  | some (.c (.ptr id n i o))=>match aa7 H id with
   | .live _ _ _ r=>if r.len=n then some (.c (.ptr id n i o)) else none
   | .dead=>none
  | some (.c (.rp n f))=>some (.c (.rp n f))
  | _=>none
 | .makeInterface t x=>(rdO rd x).bind fun v=>if cib7 P t then some (.ifc t v) else none
 | .typeAssert x _ tt ok=>match rdO rd x with
  | some (.ifc t v)=>if t=tt∧ok=false∧cib7 P tt=true then some v else none
  | _=>none
 | .binOp op t x y _=>(rdO rd x).bind fun p=>(rdO rd y).bind fun q=>match fqb7 op p q with
  | some r=>some r
  | none=>spb7 P H op t p q
 | .slice t x (some lo) none none=>(rdO rd x).bind fun p=>(rdO rd lo).bind fun q=>jsb7 ty (ty t).k H p q
 | .slice t x none (some hi) none=>(rdO rd x).bind fun p=>(rdO rd hi).bind fun q=>if (keb7 (ty t).k p q).1 then some (keb7 (ty t).k p q).2 else none
 | .slice t x (some lo) (some hi) none=>(rdO rd x).bind fun p=>(rdO rd lo).bind fun q=>(rdO rd hi).bind fun s=>prb7 ty (ty t).k H p q s
 | .index t x i=>(rdO rd x).bind fun p=>(rdO rd i).bind fun q=>match gsb7 P t p q with
  | some r=>some r
  | none=>pqb7 P t p q
 | .indexAddr t x i=>(rdO rd x).bind fun p=>(rdO rd i).bind fun q=>trb7 P t p q
 | .call c=>match c.callee with
  | .builtin .cap=>match c.args.toList,c.argTypes.toList with
   | [x],[t]=>match rdO rd x,(ty t).k with
    | some (.c .nils),.sl _=>some (.c (.int .i64 0))
    | _,_=>none
   | _,_=>none
  | .builtin .append=>match c.args.toList,c.argTypes.toList with
   | [s,x],[t,t2]=>(rdO rd s).bind fun p=>(rdO rd x).bind fun q=>upb7 H (ty t).k (ty t2).k p q
   | _,_=>none
  | _=>none
 | .field t x f=>(rdO rd x).bind fun p=>glb7 P t f p
 | .unOp op _ x=>match op with
  | .neg=>(rdO rd x).bind itb7
  | _=>none
 | .build t ps=>match (ty t).k with
  | .ar _ esz=>if gOk true (pgs rd ps.toList)∧(sb7 (fun i=>(i*esz,esz)) rd (ty t).zero ps.toList).1 then some (.agg (sb7 (fun i=>(i*esz,esz)) rd (ty t).zero ps.toList).2) else none
  | _=>none
 | _=>none
end
section
variable {P:Program} {ty:Ty} {E:Env} {nt:Nat} {M:Mp} {σ:AS} {a:Act} {w:World}
theorem eb7 (h:St E nt M σ a w) {x:Operand}{v:RV}(hx:rdO σ.rd x=some v):ha7 M σ.H w v (a.eval x):=by
 unfold rdO at hx
 split at hx
 ·rename_i g
  obtain⟨b,hb,rfl⟩:=Option.map_eq_some_iff.1 hx
  exact Con.of0 (gdb7 hb h.rel.glob.1 (h.rel.glob.2 g b hb))
 ·rename_i x' hng
  split at hx
  ·rename_i u e
   cases hx
   have:=h.rd (x:=x) (by rw[e])
   rw[e]at this
   exact this
  ·cases hx
theorem vnb7 (op:BinOp) (t:TypeId) {p q r:RV}{u v:Value}(hp:ha7 M σ.H w p u) (hq:ha7 M σ.H w q v) (h:fqb7 op p q=some r) (x y:Operand):∃z,ha7 M σ.H w r z∧∀w',(do eqGuard op t x y u v;binOp op t u v).run P w' = .ok z w':=by
 unfold fqb7 at h
 split at h
 ·rename_i k m k' n
  obtain rfl:=ma7 hp
  obtain rfl:=ma7 hq
  simp only[Sem.run_bind,kl7]
  split at h
  ·split at h <;> cases h
   rename_i h0
   exact⟨_,rfl,fun w'=>by simp[Result.andThen,binOp,Op.shift,Int.not_lt.2 h0]⟩
  ·split at h <;> cases h
   rename_i h0
   exact⟨_,rfl,fun w'=>by simp[Result.andThen,binOp,Op.shift,Int.not_lt.2 h0]⟩
  ·split at h <;> cases h
   rename_i h0
   subst h0
   exact⟨_,rfl,fun w'=>by simp[Result.andThen,binOp,Op.intBits]⟩
  ·split at h <;> cases h
   rename_i h0
   subst h0
   exact⟨_,rfl,fun w'=>by simp[Result.andThen,binOp,Op.intBits]⟩
  ·split at h <;> cases h
   rename_i h0
   subst h0
   exact⟨_,rfl,fun w'=>by simp[Result.andThen,binOp,Op.intBits]⟩
  ·split at h <;> cases h
   rename_i h0
   subst h0
   exact⟨_,rfl,fun w'=>by simp[Result.andThen,binOp,Op.intBits]⟩
  ·split at h <;> cases h
   rename_i h0
   subst h0
   exact⟨_,rfl,fun w'=>by simp[Result.andThen,binOp,Op.intArith]⟩
  ·cases h
 ·cases h
theorem dhb7 {t:TypeId}{u v:Value}{b:Bool}(h:(Op.equalIn Op.maxDepth t u v).run P w = .ok b w) (hu:∀k n,u ≠ .int k n) (h1:∀k n,u ≠ .float k n) (h2:∀k m n,u ≠ .complex k m n) (h3:∀s,u ≠ .string s) :
  (binOp .eql t u v).run P w = .ok (.bool b) w∧(binOp .neq t u v).run P w = .ok (.bool (!b)) w:=by
 have e1:binOp .eql t u v=(do pure (.bool (← Op.equal t u v))):=by
  cases u <;> first | rfl | (exfalso;first | exact hu _ _ rfl | exact h1 _ _ rfl | exact h2 _ _ _ rfl | exact h3 _ rfl)
 have e2:binOp .neq t u v=(do pure (.bool (!(← Op.equal t u v)))):=by
  cases u <;> first | rfl | (exfalso;first | exact hu _ _ rfl | exact h1 _ _ rfl | exact h2 _ _ _ rfl | exact h3 _ rfl)
 rw[e1,e2]
 constructor
 ·rw[Sem.run_bind,show (Op.equal t u v).run P w = .ok b w from h];rfl
 ·rw[Sem.run_bind,show (Op.equal t u v).run P w = .ok b w from h];rfl
theorem unb7 {t:TypeId}{p q:RV}{u v:Value}{b:Bool}(hp:ha7 M σ.H w p u) (hq:ha7 M σ.H w q v) (h:ypb7 P σ.H t p q=some b) (d:Nat) :
  (∀w',(Op.equalIn (d+1) t u v).run P w' = .ok b w')∧((∃x,u = .pointer x)∨∃x n c,u = .slice x n c)∧((∃x,v = .pointer x)∨∃x n c,v = .slice x n c):=by
 unfold ypb7 at h
 split at h
 ·rename_i id n i o
  have hv:v = .pointer none:=hq
  subst hv
  split at h
  ·rename_i e fz t2 sz r hu hr
   split at h <;> cases h
   rename_i hl
   have:=(hp.2 _ _ _ _ hr).2 hl
   subst this
   exact⟨fun w'=>by simp[Op.equalIn,run_underlying hu],.inl ⟨_,rfl⟩,.inl ⟨_,rfl⟩⟩
  ·cases h
 ·have hv:v = .pointer none:=hq
  have hu0:u = .pointer none:=hp
  subst hv hu0
  split at h <;> cases h
  rename_i e hu
  exact⟨fun w'=>by simp[Op.equalIn,run_underlying hu],.inl ⟨_,rfl⟩,.inl ⟨_,rfl⟩⟩
 ·have hv:v = .slice none 0 0:=hq
  have hu0:u = .slice none 0 0:=hp
  subst hv hu0
  split at h <;> cases h
  rename_i e hu
  exact⟨fun w'=>by simp[Op.equalIn,run_underlying hu],.inr ⟨_,_,_,rfl⟩,.inr ⟨_,_,_,rfl⟩⟩
 ·rename_i id st n
  have hv:v = .slice none 0 0:=hq
  subst hv
  split at h
  ·rename_i e fz t2 sz r hu hr
   split at h <;> cases h
   rename_i hl
   obtain⟨cap,cur,ad,rfl,-⟩:=(hp.2 _ _ _ _ hr).2 hl
   exact⟨fun w'=>by simp[Op.equalIn,run_underlying hu],.inr ⟨_,_,_,rfl⟩,.inr ⟨_,_,_,rfl⟩⟩
  ·cases h
 ·rename_i n sz f
  have hv:v = .slice none 0 0:=hq
  subst hv
  split at h
  ·rename_i e hu
   split at h <;> cases h
   rename_i hl
   obtain⟨a,b2,off,c,rfl,k1,k2,k3,k4⟩:=hp
   obtain⟨rfl,-⟩:=k3 hl
   exact⟨fun w'=>by simp[Op.equalIn,run_underlying hu],.inr ⟨_,_,_,rfl⟩,.inr ⟨_,_,_,rfl⟩⟩
  ·cases h
 ·cases h
theorem qn7 (t:TypeId) {d:TypeDesc}(hd:P.underlying t=some d) (hk:match d with | .struct _ | .array _ _=>False | _=>True) {xs:List Value}{o:Nat}{z:Value}(hz:xs[o]? = some z) (w':World):(part t xs.toArray o).run P w' = .ok z w':=by
 have ha:(isAgg t).run P w' = .ok false w':=by
  simp only[isAgg,Sem.run_bind,run_underlying hd,Result.andThen]
  cases d <;> first | exact hk.elim | rfl
 simp[part,ha,hz]
theorem ro7 {l:List AV}{vs:List Value}(h:mb7 M σ.H w l vs) {o:Nat}(hn:(nth l o).nj=true):∃z,vs[o]? = some z∧Con M σ.H w (nth l o) z:=by
 have hl:=h.len
 by_cases ho:o<l.length
 ·exact⟨vs[o]'(by omega),List.getElem?_eq_getElem _,h.get o _ (List.getElem?_eq_getElem _)⟩
 ·rw[ss7 (by omega)]at hn;cases hn
theorem vt7 {l m:List AV}{xs ys:List Value}(hx:mb7 M σ.H w l xs) (hy:mb7 M σ.H w m ys) (d:Nat) (w':World):∀{fs:List Field}{b:Bool},hnb7 P l m fs=some b→(Op.eqFields (d+1) xs.toArray ys.toArray fs).run P w' = .ok b w'
 | [],b,h=>by cases h;rfl
 | f::fs,b,h=>by
  unfold hnb7 at h
  split at h
  ·rename_i k0 k a k' c hnm hu h1 h2
   split at h
   case isFalse=>cases h
   rename_i hk
   subst hk
   obtain⟨r,hr,rfl⟩:=Option.map_eq_some_iff.1 h
   obtain⟨z1,z2,z3⟩:=ro7 hx (o:=f.offset) (by rw[h1];rfl)
   obtain⟨y1,y2,y3⟩:=ro7 hy (o:=f.offset) (by rw[h2];rfl)
   rw[h1]at z3
   rw[h2]at y3
   have z3:z1 = .int k a:=z3
   have y3:y1 = .int k c:=y3
   subst z3 y3
   have hn : f.name ≠ "_" := by simpa using hnm
   have ih:=vt7 hx hy d w' hr
   simp only[Op.eqFields,if_pos hn,Sem.run_bind,qn7 f.type hu trivial z2,qn7 f.type hu trivial y2,Result.andThen_ok,run_equalIn_int w' d f.type k k0 a c hu]
   by_cases hac:a=c
   ·simp[hac,ih]
   ·simp[hac]
  ·rename_i a c hnm hu h1 h2
   obtain⟨r,hr,rfl⟩:=Option.map_eq_some_iff.1 h
   obtain⟨z1,z2,z3⟩:=ro7 hx (o:=f.offset) (by rw[h1];rfl)
   obtain⟨y1,y2,y3⟩:=ro7 hy (o:=f.offset) (by rw[h2];rfl)
   rw[h1]at z3
   rw[h2]at y3
   have z3:z1 = .bool a:=z3
   have y3:y1 = .bool c:=y3
   subst z3 y3
   have hn : f.name ≠ "_" := by simpa using hnm
   have ih:=vt7 hx hy d w' hr
   simp only[Op.eqFields,if_pos hn,Sem.run_bind,qn7 f.type hu trivial z2,qn7 f.type hu trivial y2,Result.andThen_ok,run_equalIn_bool' w' d f.type a c hu]
   by_cases hac:a=c
   ·simp[hac,ih]
   ·simp[hac]
  ·cases h
theorem vlb7 (op:BinOp) (t:TypeId) {p q r:RV}{u v:Value}(hp:ha7 M σ.H w p u) (hq:ha7 M σ.H w q v) (h:spb7 P σ.H op t p q=some r) (x y:Operand):∃z,ha7 M σ.H w r z∧∀w',(do eqGuard op t x y u v;binOp op t u v).run P w' = .ok z w':=by
 unfold spb7 at h
 have key:∀b,nob7 P σ.H t p q=some b→∀op w',(eqGuard op t x y u v).run P w' = .ok () w'∧(binOp .eql t u v).run P w' = .ok (.bool b) w'∧(binOp .neq t u v).run P w' = .ok (.bool (!b)) w':=fun b hb op w'=>by
  unfold nob7 at hb
  split at hb
  ·obtain⟨xs,rfl,hx⟩:=hp
   obtain⟨ys,rfl,hy⟩:=hq
   split at hb
   case isFalse=>cases hb
   rename_i h0
   split at hb
   case h_2=>cases hb
   rename_i fs hu
   have hf:P.fieldsOf t=fs:=by simp[Program.fieldsOf,hu]
   have e1:(Op.equalIn 10000 t (.agg xs.toArray) (.agg ys.toArray)).run P w' = .ok b w':=by
    rw[run_equalIn_struct w' 9999 t _ _ (by rw[hf];exact hu) h0.1,hf]
    exact vt7 hx hy 9998 w' hb
   refine⟨run_eqGuard_agg w' op t x y _ _ h0.2, ?_, ?_⟩
   ·rw[run_eql_struct,e1];rfl
   ·rw[run_neq_struct,e1];rfl
  obtain⟨k1,k2,k3⟩:=unb7 hp hq hb 9999
  refine⟨?_, ?_⟩
  ·rcases k2 with ⟨x,rfl⟩ | ⟨x,n,c,rfl⟩ <;> rcases k3 with ⟨y,rfl⟩ | ⟨y,m,d,rfl⟩ <;> cases op <;> rfl
  ·rcases k2 with ⟨x,rfl⟩ | ⟨x,n,c,rfl⟩ <;> exact dhb7 (k1 w') (fun _ _ e=>by cases e) (fun _ _ e=>by cases e) (fun _ _ _ e=>by cases e) (fun _ e=>by cases e)
 split at h
 ·obtain⟨b,hb,rfl⟩:=Option.map_eq_some_iff.1 h
  refine⟨.bool b,rfl,fun w'=>?_⟩
  rw[Sem.run_bind,(key b hb _ w').1];exact (key b hb .eql w').2.1
 ·obtain⟨b,hb,rfl⟩:=Option.map_eq_some_iff.1 h
  refine⟨.bool (!b),rfl,fun w'=>?_⟩
  rw[Sem.run_bind,(key b hb _ w').1];exact (key b hb .neq w').2.2
 ·cases h
theorem uib7 (hT:qb7 P ty) (t:TypeId) {p q r:RV}{u v:Value}(hp:ha7 M σ.H w p u) (hq:ha7 M σ.H w q v) (h:jsb7 ty (ty t).k σ.H p q=some r):∃z,ha7 M σ.H w r z∧∀w',(Instr.sliceAt t u (some v) none none).run P w' = .ok z w':=by
 unfold jsb7 at h
 split at h
 ·rename_i k m
  obtain rfl:=ma7 hq
  split at h
  ·rename_i e hk
   split at h <;> cases h
   rename_i h0
   subst h0
   obtain⟨hu,hke⟩:P.underlying t=some (.slice e)∧_:=na7 hT hk
   have hel:P.elem t=e:=by simp[Program.elem,hu]
   have hp:u = .slice none 0 0:=hp
   subst hp
   refine⟨.slice none 0 0,rfl,fun w'=>?_⟩
   rw[run_sliceAt_slice w' t _ _ _ _ (by rw[hel];exact hu),run_slice_l w' t none 0 0 (by rw[hel];exact hu) k 0 (Int.le_refl _) (Int.le_refl _),hel,rb7 hT hke]
   rfl
  ·cases h
 ·rename_i n sz f k m
  obtain rfl:=ma7 hq
  split at h
  ·rename_i e hk
   split at h <;> cases h
   rename_i h0
   obtain⟨h1,h2,rfl⟩:=h0
   obtain⟨hu,hke⟩:P.underlying t=some (.slice e)∧_:=na7 hT hk
   have hel:P.elem t=e:=by simp[Program.elem,hu]
   obtain⟨a,b,off,c,rfl,k1,k2,k3,k4⟩:=hp
   obtain⟨rfl,hr⟩:=k3 (by omega)
   refine⟨sliced (some ⟨b,off,none⟩) m.toNat n c (ty e).sz, ?_,fun w'=>?_⟩
   ·refine⟨some ⟨b,off+m.toNat*(ty e).sz,none⟩,b,off+m.toNat*(ty e).sz,c-m.toNat, ?_,by omega,by omega,fun _=>⟨rfl,hr⟩,fun i hi j hj=>?_⟩
    ·simp only[sliced]
     rw[if_neg (by omega)]
     simp[addr_add]
    ·have:=k4 (i+m.toNat) (by omega) j hj
     rw[show off+m.toNat*(ty e).sz+i*(ty e).sz+j=off+(i+m.toNat)*(ty e).sz+j by rw[Nat.add_mul];omega]
     exact this
   ·rw[run_sliceAt_slice w' t _ _ _ _ (by rw[hel];exact hu),run_slice_l w' t _ n c (by rw[hel];exact hu) k m h1 (by omega),hel,rb7 hT hke]
    rfl
  ·cases h
 ·rename_i id st n k m
  obtain rfl:=ma7 hq
  split at h
  ·rename_i e hk
   split at h
   ·rename_i fz t2 sz r hr
    split at h <;> cases h
    rename_i h0
    obtain⟨h1,h2,h3,rfl⟩:=h0
    obtain⟨hu,hke⟩:P.underlying t=some (.slice e)∧_:=na7 hT hk
    have hel:P.elem t=e:=by simp[Program.elem,hu]
    obtain⟨cap,cur,ad,rfl,k1,k2,k3,k4,k5⟩:=(hp.2 _ _ _ _ hr).2 h3
    refine⟨sliced (some ad) m.toNat n cap (ty e).sz, ?_,fun w'=>?_⟩
    ·refine⟨⟨hp.1.1,rfl⟩,fun fz2 ty2 sz2 r2 hr2=>?_⟩
     rw[hr]at hr2
     cases hr2
     refine⟨by omega,fun _=>⟨cap-m.toNat,cur,if cap=m.toNat then ad else ad.add (m.toNat*(ty e).sz), ?_,by omega,by omega,k3, ?_,fun hc=>?_⟩⟩
     ·simp only[sliced]
      split <;> rfl
     ·rw[show st+m.toNat+(cap-m.toNat)=st+cap by omega];exact k4
     ·rw[if_neg (by omega),k5 (by omega),addr_add,Nat.add_mul,Nat.add_assoc]
    ·rw[run_sliceAt_slice w' t _ _ _ _ (by rw[hel];exact hu),run_slice_l w' t _ n cap (by rw[hel];exact hu) k m h1 (by omega),hel,rb7 hT hke]
     rfl
   ·cases h
  ·cases h
 ·cases h
theorem nhb7 (hT:qb7 P ty) (t:TypeId) {p q s r:RV}{u v y:Value}(hp:ha7 M σ.H w p u) (hq:ha7 M σ.H w q v) (hs:ha7 M σ.H w s y) (h:prb7 ty (ty t).k σ.H p q s=some r):∃z,ha7 M σ.H w r z∧∀w',(Instr.sliceAt t u (some v) (some y) none).run P w' = .ok z w':=by
 unfold prb7 at h
 split at h
 ·rename_i n sz f kl l km m
  obtain rfl:=ma7 hq
  obtain rfl:=ma7 hs
  split at h
  ·rename_i e hk
   split at h <;> cases h
   rename_i h0
   obtain⟨h1,h2,h3,rfl⟩:=h0
   obtain⟨hu,hke⟩:P.underlying t=some (.slice e)∧_:=na7 hT hk
   have hel:P.elem t=e:=by simp[Program.elem,hu]
   obtain⟨a,b,off,c,rfl,k1,k2,k3,k4⟩:=hp
   obtain⟨rfl,hr⟩:=k3 (by omega)
   refine⟨sliced (some ⟨b,off,none⟩) l.toNat m.toNat c (ty e).sz, ?_,fun w'=>?_⟩
   ·refine⟨some ⟨b,off+l.toNat*(ty e).sz,none⟩,b,off+l.toNat*(ty e).sz,c-l.toNat, ?_,by omega,by omega,fun _=>⟨rfl,hr⟩,fun i hi j hj=>?_⟩
    ·simp only[sliced]
     rw[if_neg (by omega)]
     simp[addr_add]
    ·have:=k4 (i+l.toNat) (by omega) j hj
     rw[show off+l.toNat*(ty e).sz+i*(ty e).sz+j=off+(i+l.toNat)*(ty e).sz+j by rw[Nat.add_mul];omega]
     exact this
   ·rw[run_sliceAt_slice w' t _ _ _ _ (by rw[hel];exact hu),run_slice_lh w' t _ n c (by rw[hel];exact hu) kl km l m h1 (by omega) (by omega),hel,rb7 hT hke]
    rfl
  ·cases h
 ·rename_i id st n kl l km m
  obtain rfl:=ma7 hq
  obtain rfl:=ma7 hs
  split at h
  ·rename_i e hk
   split at h
   ·rename_i fz t2 sz r hr
    split at h <;> cases h
    rename_i h0
    obtain⟨h1,h2,rfl,h3,rfl⟩:=h0
    obtain⟨hu,hke⟩:P.underlying t=some (.slice e)∧_:=na7 hT hk
    have hel:P.elem t=e:=by simp[Program.elem,hu]
    obtain⟨cap,cur,ad,rfl,k1,k2,k3,k4,k5⟩:=(hp.2 _ _ _ _ hr).2 h3
    refine⟨sliced (some ad) l.toNat n cap (ty e).sz, ?_,fun w'=>?_⟩
    ·refine⟨⟨hp.1.1,rfl⟩,fun fz2 ty2 sz2 r2 hr2=>?_⟩
     rw[hr]at hr2
     cases hr2
     refine⟨by omega,fun _=>⟨cap-l.toNat,cur,if cap=l.toNat then ad else ad.add (l.toNat*(ty e).sz), ?_,by omega,by omega,k3, ?_,fun hc=>?_⟩⟩
     ·simp only[sliced]
      split <;> rfl
     ·rw[show st+l.toNat+(cap-l.toNat)=st+cap by omega];exact k4
     ·rw[if_neg (by omega),k5 (by omega),addr_add,Nat.add_mul,Nat.add_assoc]
    ·rw[run_sliceAt_slice w' t _ _ _ _ (by rw[hel];exact hu),run_slice_lh w' t _ n cap (by rw[hel];exact hu) kl km l n h1 (by omega) (by omega),hel,rb7 hT hke]
     rfl
   ·cases h
  ·cases h
 ·cases h
theorem ikb7 (t:TypeId) {p q r:RV}{u v:Value}(hp:ha7 M σ.H w p u) (hq:ha7 M σ.H w q v) (h:pqb7 P t p q=some r):∃z,ha7 M σ.H w r z∧∀w',(Instr.index t u v).run P w' = .ok z w':=by
 unfold pqb7 at h
 split at h
 ·rename_i l k i
  obtain rfl:=ma7 hq
  obtain⟨vs,rfl,hc⟩:=hp
  split at h
  ·rename_i n e hu
   have key:∀d,P.underlying e=some d→(match d with | .struct _ | .array _ _=>False | _=>True)→(if 0≤i∧i<n∧i.toNat*P.cellsOf e<l.length∧(P.info? e).isSome=true then some (RV.c (nth l (i.toNat*P.cellsOf e))) else none)=some r→∃z,ha7 M σ.H w r z∧∀w',(Instr.index t (.agg vs.toArray) (.int k i)).run P w' = .ok z w':=fun d hd hk h=>by
    split at h <;> cases h
    rename_i h0
    obtain⟨h1,h2,h3,h4⟩:=h0
    have hl:=hc.len
    obtain⟨z,hz⟩:∃z,vs[i.toNat*P.cellsOf e]? = some z:=⟨_,List.getElem?_eq_getElem (by omega)⟩
    refine⟨z,hc.get _ _ hz,fun w'=>?_⟩
    obtain⟨inf,hinf⟩:=Option.isSome_iff_exists.1 h4
    have hs:(sizeOf e).run P w' = .ok (P.cellsOf e) w':=by simp[sizeOf,typeInfo,hinf,Program.cellsOf]
    have ha:(isAgg e).run P w' = .ok false w':=by
     simp only[isAgg,Sem.run_bind,run_underlying hd,Result.andThen]
     cases d <;> first | exact hk.elim | rfl
    simp[Instr.index,asIntOf,run_underlying hu,h1,h2,hs,part,ha,hz]
   split at h
   ·cases h
   ·cases h
   ·rename_i d n1 n2 hd
    exact key d hd (by cases d <;> first | trivial | exact n1 _ rfl | exact n2 _ _ rfl) h
   ·cases h
  ·cases h
 ·cases h
theorem onb7 (t:TypeId) {p q r:RV}{u v:Value}(hp:ha7 M σ.H w p u) (hq:ha7 M σ.H w q v) (h:gsb7 P t p q=some r):∃z,ha7 M σ.H w r z∧∀w',(Instr.index t u v).run P w' = .ok z w':=by
 unfold gsb7 at h
 split at h
 ·rename_i s k i
  obtain rfl:=ma7 hq
  have hp:u = .string s:=hp
  subst hp
  split at h
  ·rename_i hu
   split at h
   ·rename_i b hb
    cases h
    exact⟨_,rfl,fun w'=>by simp[Instr.index,asIntOf,run_underlying hu,hb]⟩
   ·cases h
  ·cases h
 ·cases h
theorem mkb7 (t:TypeId) {p q r:RV}{u v:Value}(hp:ha7 M σ.H w p u) (hq:ha7 M σ.H w q v) (h:trb7 P t p q=some r):∃z,ha7 M σ.H w r z∧∀w',(Instr.indexAt t u v).run P w' = .ok z w':=by
 unfold trb7 at h
 split at h
 ·rename_i m f k i
  obtain rfl:=ma7 hq
  obtain⟨b,off,rfl,hr,hc⟩:=hp
  split at h
  ·rename_i n e hu
   split at h <;> cases h
   rename_i h0
   obtain⟨h1,h2,h3,h4⟩:=h0
   obtain⟨inf,hinf⟩:=Option.isSome_iff_exists.1 h4
   refine⟨.pointer (some ⟨b,off+i.toNat*P.cellsOf e,none⟩),⟨b,off+i.toNat*P.cellsOf e,rfl,hr,fun j hj=>?_⟩,fun w'=>?_⟩
   ·have:=hc (i.toNat*P.cellsOf e+j) (by rw[Nat.add_mul,Nat.one_mul]at h3;omega)
    rw[Nat.add_assoc];exact this
   ·have hs:(sizeOf e).run P w' = .ok (P.cellsOf e) w':=by simp[sizeOf,typeInfo,hinf,Program.cellsOf]
    simp[Instr.indexAt,Instr.sureAddr,asIntOf,run_underlying hu,h1,h2,hs,addr_add]
  ·cases h
 ·cases h
theorem pkb7 (hT:qb7 P ty) (t t2 rt:TypeId) {p q r:RV}{u v:Value}(hp:ha7 M σ.H w p u) (hq:ha7 M σ.H w q v) (h:upb7 σ.H (ty t).k (ty t2).k p q=some r):ha7 M σ.H w r u∧∀w',(Builtin.append_ #[t,t2] rt #[u,v]).run P w' = .ok u w':=by
 unfold upb7 at h
 split at h
 case h_2=>cases h
 rename_i e e2 hk hk2 he
 obtain⟨hu,hke⟩:P.underlying t=some (.slice e)∧_:=na7 hT hk
 obtain⟨hu2,-⟩:P.underlying t2=some (.slice e2)∧_:=na7 hT hk2
 obtain⟨i,z,hi,-⟩:=ic7 (M:=M) (σ:=⟨[],σ.H⟩) (w:=w) (P:=P) hT (t:=e) hke
 obtain⟨a,c,rfl⟩:∃a c,v = .slice a 0 c:=by
  unfold etb7 at he
  split at he
  ·exact⟨none,0,hq⟩
  ·rename_i sz f
   obtain⟨a,b,off,c,rfl,-⟩:=hq
   exact⟨a,c,rfl⟩
  ·cases he
 have hs:∀w',Src P i.size t2 (.slice a 0 c) 0 [] w':=fun w'=>by
  refine⟨.inl ⟨e2,hu2⟩,fun _=>rfl, ?_, ?_,by simp,fun _ h=>by cases h⟩ <;> cases a <;> simp[Builtin.firstCells,loadCells,loadCellsFrom]
 split at h
 ·cases h
  refine⟨hp,fun w'=>?_⟩
  obtain rfl:u = .slice none 0 0:=hp
  exact sn7 w' t t2 rt e i hu hi none 0 0 (Nat.le_refl _) _ (hs w')
 ·rename_i id st n
  split at h
  ·rename_i fz ty2 sz rr hr
   split at h <;> cases h
   rename_i hl
   obtain⟨cap,cur,ad,rfl,k1,-⟩:=(hp.2 _ _ _ _ hr).2 hl
   exact⟨hp,fun w'=>sn7 w' t t2 rt e i hu hi (some ad) n cap k1 _ (hs w')⟩
  ·cases h
 ·cases h
theorem yab7 (hT:qb7 P ty) (h:St E nt M σ a w) {o:Oper}{r:RV}(ho:ckb7 P ty σ.rd σ.H o.op=some r):∃v,ha7 M σ.H w r v∧∀w',(execOp a.eval o).run P w' = .ok (.value v) w':=by
 obtain⟨dst,op,type,pos,after,guard⟩:=o
 cases op <;> simp only[ckb7]at ho
 case call c =>
  obtain⟨callee,args,ats⟩:=c
  obtain⟨args⟩:=args
  obtain⟨ats⟩:=ats
  cases callee with
  | value f=>cases ho
  | invoke r m=>cases ho
  | builtin b =>
   cases b <;> try (cases ho;done)
   case cap =>
    simp only at ho
    split at ho
    ·rename_i x t
     split at ho
     ·rename_i e hx hk
      cases ho
      have hd:P.underlying t=some (.slice e):=(na7 hT hk).1
      have hv:a.eval x = .slice none 0 0:=eb7 h hx
      exact⟨.int .i64 0,rfl,fun w'=>by
       have:=ja7 (x:=Builtin.cap_ #[t] type #[a.eval x]) (show (Builtin.cap_ #[t] type #[a.eval x]).run P w' = .ok (.int .i64 0) w' by rw[hv];simp[Builtin.cap_,run_underlying hd,goInt])
       simpa[execOp,resolve,invoke,builtin]using this⟩
     ·cases ho
    ·cases ho
   case append =>
    simp only at ho
    split at ho
    ·rename_i s x t t2
     obtain⟨p,hp,ho⟩:=Option.bind_eq_some_iff.1 ho
     obtain⟨q,hq,ho⟩:=Option.bind_eq_some_iff.1 ho
     obtain⟨h1,h2⟩:=pkb7 hT t t2 type (eb7 h hp) (eb7 h hq) ho
     exact⟨a.eval s,h1,fun w'=>by
      have:=ja7 (x:=Builtin.append_ #[t,t2] type #[a.eval s,a.eval x]) (h2 w')
      simpa[execOp,resolve,invoke,builtin]using this⟩
    ·cases ho
 case nilCheck x =>
  split at ho
  ·rename_i id n i o hx
   have hc:=eb7 h hx
   split at ho
   ·rename_i fz t sz r hr
    split at ho <;> cases ho
    rename_i hl
    have hv:=(hc.2 _ _ _ _ hr).2 hl
    exact⟨_,hc,fun w'=>by rw[hv];simp[execOp,hv]⟩
   ·cases ho
  ·rename_i n f hx
   have hc:=eb7 h hx
   cases ho
   obtain⟨b,off,hv,-⟩:=id hc
   exact⟨_,hc,fun w'=>by rw[hv];simp[execOp,hv]⟩
  ·cases ho
 case makeInterface t x =>
  obtain⟨v,hv,ho⟩:=Option.bind_eq_some_iff.1 ho
  split at ho <;> cases ho
  rename_i ht
  obtain⟨d,hd,hk⟩:=tt7 ht
  refine⟨.iface t (a.eval x),⟨_,rfl,eb7 h hv⟩,fun w'=>ja7 (x:=Instr.makeInterface t (a.eval x)) ?_⟩
  simp only[Instr.makeInterface,Sem.run_bind,run_underlying hd,Result.andThen]
  cases d <;> first | exact hk.elim | rfl
 case typeAssert x xt tt ok =>
  split at ho
  ·rename_i t v hx
   split at ho <;> cases ho
   rename_i h0
   obtain⟨rfl,rfl,ht⟩:=h0
   obtain⟨u,hu,hc⟩:=eb7 h hx
   obtain⟨d,hd,hk⟩:=tt7 ht
   refine⟨u,hc,fun w'=>ja7 (x:=Instr.typeAssert (a.eval x) xt t false) ?_⟩
   rw[hu]
   simp only[Instr.typeAssert,Sem.run_bind,run_underlying hd,Result.andThen]
   cases d <;> first | exact hk.elim | simp
  ·cases ho
 case binOp op t x y yt =>
  obtain⟨p,hp,ho⟩:=Option.bind_eq_some_iff.1 ho
  obtain⟨q,hq,ho⟩:=Option.bind_eq_some_iff.1 ho
  have hp:=eb7 h hp
  have hq:=eb7 h hq
  split at ho
  ·rename_i r' hb
   cases ho
   obtain⟨z,h1,h2⟩:=vnb7 (P:=P) op t hp hq hb x y
   exact⟨z,h1,fun w'=>ja7 (h2 w')⟩
  ·obtain⟨z,h1,h2⟩:=vlb7 op t hp hq ho x y
   exact⟨z,h1,fun w'=>ja7 (h2 w')⟩
 case slice t x lo hi mx =>
  cases lo with
  | none =>
   cases hi with
   | none=>cases ho
   | some hi =>
    cases mx with
    | some _=>cases ho
    | none =>
     simp only at ho
     obtain⟨p,hp,ho⟩:=Option.bind_eq_some_iff.1 ho
     obtain⟨q,hq,ho⟩:=Option.bind_eq_some_iff.1 ho
     split at ho
     ·rename_i hc
      cases ho
      obtain⟨z,h1,h2⟩:=ifb7 hT t (eb7 h hp) (eb7 h hq) hc
      exact⟨z,h1,fun w'=>ja7 (x:=Instr.sliceAt t (a.eval x) none (some (a.eval hi)) none) (h2 w')⟩
     ·cases ho
  | some lo =>
   cases hi with
   | some hi =>
    cases mx with
    | some _=>cases ho
    | none =>
     simp only at ho
     obtain⟨p,hp,ho⟩:=Option.bind_eq_some_iff.1 ho
     obtain⟨q,hq,ho⟩:=Option.bind_eq_some_iff.1 ho
     obtain⟨s,hs,ho⟩:=Option.bind_eq_some_iff.1 ho
     obtain⟨z,h1,h2⟩:=nhb7 hT t (eb7 h hp) (eb7 h hq) (eb7 h hs) ho
     exact⟨z,h1,fun w'=>ja7 (x:=Instr.sliceAt t (a.eval x) (some (a.eval lo)) (some (a.eval hi)) none) (h2 w')⟩
   | none =>
    cases mx with
    | some _=>cases ho
    | none =>
     simp only at ho
     obtain⟨p,hp,ho⟩:=Option.bind_eq_some_iff.1 ho
     obtain⟨q,hq,ho⟩:=Option.bind_eq_some_iff.1 ho
     obtain⟨z,h1,h2⟩:=uib7 hT t (eb7 h hp) (eb7 h hq) ho
     exact⟨z,h1,fun w'=>ja7 (x:=Instr.sliceAt t (a.eval x) (some (a.eval lo)) none none) (h2 w')⟩
 case index t x i =>
  obtain⟨p,hp,ho⟩:=Option.bind_eq_some_iff.1 ho
  obtain⟨q,hq,ho⟩:=Option.bind_eq_some_iff.1 ho
  split at ho
  ·rename_i r' hr'
   cases ho
   obtain⟨z,h1,h2⟩:=onb7 t (eb7 h hp) (eb7 h hq) hr'
   exact⟨z,h1,fun w'=>ja7 (x:=Instr.index t (a.eval x) (a.eval i)) (h2 w')⟩
  ·obtain⟨z,h1,h2⟩:=ikb7 t (eb7 h hp) (eb7 h hq) ho
   exact⟨z,h1,fun w'=>ja7 (x:=Instr.index t (a.eval x) (a.eval i)) (h2 w')⟩
 case indexAddr t x i =>
  obtain⟨p,hp,ho⟩:=Option.bind_eq_some_iff.1 ho
  obtain⟨q,hq,ho⟩:=Option.bind_eq_some_iff.1 ho
  obtain⟨z,h1,h2⟩:=mkb7 t (eb7 h hp) (eb7 h hq) ho
  exact⟨z,h1,fun w'=>ja7 (x:=Instr.indexAt t (a.eval x) (a.eval i)) (h2 w')⟩
 case field t x f =>
  obtain⟨p,hp,ho⟩:=Option.bind_eq_some_iff.1 ho
  obtain⟨z,h1,h2⟩:=xfb7 t f (eb7 h hp) ho
  exact⟨z,h1,fun w'=>ja7 (x:=Instr.field t (a.eval x) f) (h2 w')⟩
 case unOp op t x =>
  split at ho
  ·obtain⟨p,hp,ho⟩:=Option.bind_eq_some_iff.1 ho
   unfold itb7 at ho
   split at ho
   ·rename_i k n
    cases ho
    have hv:=ma7 (eb7 h hp)
    exact⟨_,rfl,fun w'=>ja7 (x:=Op.unary .neg (a.eval x)) (by rw[hv];simp[Op.unary,Op.intArith])⟩
   ·cases ho
  ·cases ho
 case build t ps =>
  split at ho
  ·rename_i n esz hk
   split at ho <;> cases ho
   rename_i h0
   obtain⟨hg,hb⟩:=h0
   obtain⟨e,hu,he,hi⟩:∃e,P.underlying t=some (.array n e)∧P.cellsOf e=esz∧(P.info? e).isSome=true:=na7 hT hk
   obtain⟨i,z,hi2,hz,-,-,-,-,hzc⟩:=ic7 (M:=M) (σ:=σ) (w:=w) (P:=P) hT (t:=t) (by rw[hk];trivial)
   obtain⟨out,h1,h2⟩:=to7 (M:=M) (σ:=σ) (w:=w) (a:=a) (fun i=>(i*esz,esz)) (fun i=>some (i*esz,esz)) (fun _ _=>rfl) ps.toList (ty t).zero z.cells (fun x _ hx=>h.rd hx) hg hzc hb
   refine⟨.agg out,⟨out.toList,by simp,h2⟩,fun w'=>ja7 (x:=Instr.build t (ps.map fun (i,x)=>(i,a.eval x))) (run_build w' t _ out ?_)⟩
   obtain⟨inf,hinf⟩:=Option.isSome_iff_exists.1 hi
   unfold Program.built
   simp only[hi2,hu,hz,hinf]
   have hsz:inf.size=esz:=by rw[← he];simp[Program.cellsOf,hinf]
   rw[← h1]
   simp[hsz]
  ·cases ho
 all_goals cases ho
end
def Row.takeR (n:Nat):Row→Row
 | .box l=>.box l
 | .ints k l=>.ints k (l.take n)
 | .bools l=>.bools (l.take n)
 | .gen l=>.gen (l.take n)
 | .own l=>.own (l.take n)
theorem abb7 {r:Row}(hb:r.one=false) {n:Nat}(hn:n≤r.len):(r.takeR n).len=n∧(r.takeR n).one=false∧(r.takeR n).isBox=r.isBox∧∀i o,i<n→(r.takeR n).get i o=r.get i o:=by
 cases r with
 | box=>cases hb
 | ints k l=>exact⟨by simp only[Row.takeR,Row.len,List.length_take]at hn ⊢; omega,rfl,rfl,fun i o hi=>by simp[Row.takeR,Row.get,hi]⟩
 | bools l=>exact⟨by simp only[Row.takeR,Row.len,List.length_take]at hn ⊢; omega,rfl,rfl,fun i o hi=>by simp[Row.takeR,Row.get,hi]⟩
 | gen l=>exact⟨by simp only[Row.takeR,Row.len,List.length_take]at hn ⊢; omega,rfl,rfl,fun i o hi=>by simp[Row.takeR,Row.get,hi]⟩
 | own l=>exact⟨by simp only[Row.takeR,Row.len,List.length_take]at hn ⊢; omega,rfl,rfl,fun i o hi=>by simp[Row.takeR,Row.get,hi]⟩
def srb7:RV→Bool
 | .c (.h _ st _)=>decide (st≠0)
 | _=>false
def qkb7 (ty:Ty) (k:TyK) (H:List Root) (s x:RV) (K:RV→List Root→Bool):Bool :=
 match k with
 | .sl e=>decide ((ta7 H x).1∧(ta7 H x).2.2=(ty e).sz∧0<(ty e).sz∧(ty e).bytes≤128) &&
  match s with
  | .c (.h id st len)=>match aa7 H id with
   | .live fz t sz r=>decide (fz=false∧st+len=r.len∧t=e∧sz=(ty e).sz∧r.one=false∧len+(ta7 H x).2.1.len≤1099511627776∧((r.drop st).app (ta7 H x).2.1).1) &&
    K (.c (.h H.length 0 (len+(ta7 H x).2.1.len))) (ca7 H id .dead++[.live false e (ty e).sz ((r.drop st).app (ta7 H x).2.1).2])
   | .dead=>false
  | _=>false
 | _=>false
section
variable {P:Program} {ty:Ty} {E:Env} {M:Mp} {H:List Root} {w:World}
theorem gg7 {id:Nat}{x:Root}{j:Nat}{fz:Bool}{t:TypeId}{sz:Nat}{r:Row}(h:aa7 (ca7 H id .dead++[x]) j = .live fz t sz r):(j=H.length∧x = .live fz t sz r)∨(j≠H.length∧j≠id∧aa7 H j = .live fz t sz r):=by
 rw[ed7,da7]at h
 split at h
 ·rename_i e;exact .inl ⟨e,h⟩
 ·rename_i e;exact .inr ⟨e,xa7 h⟩
theorem kz7 (h:Rel E M H w) {id:Nat}{t:TypeId}{sz:Nat}{r r':Row}(hr:aa7 H id = .live false t sz r) {o:Nat}(hb:r'.one=false) (hbx:r'.isBox=r.isBox) (hn:o+r'.len≤r.len) (hg:∀i j,i<r'.len→r'.get i j=r.get (o+i) j) :
  Rel E (M.upd H.length (M.phi id) (M.off id+o*sz)) (ca7 H id .dead++[.live false t sz r']) w∧Kp M H w (M.upd H.length (M.phi id) (M.off id+o*sz)) (ca7 H id .dead++[.live false t sz r']) w:=by
 have hid:=yb7 hr
 have old:∀{j:Nat},j≠H.length→(M.upd H.length (M.phi id) (M.off id+o*sz)).phi j=M.phi j:=fun h=>if_neg h
 have new:(M.upd H.length (M.phi id) (M.off id+o*sz)).phi H.length=M.phi id:=if_pos rfl
 have oldo:∀{j:Nat},j≠H.length→(M.upd H.length (M.phi id) (M.off id+o*sz)).off j=M.off j:=fun h=>if_neg h
 have newo:(M.upd H.length (M.phi id) (M.off id+o*sz)).off H.length=M.off id+o*sz:=if_pos rfl
 have kp:Kp M H w (M.upd H.length (M.phi id) (M.off id+o*sz)) (ca7 H id .dead++[.live false t sz r']) w:=fun x v c=>by
  have ne:∀{j:Nat},j<H.length→j≠H.length:=fun h e=>by omega
  cases x with
  | ptr j m i o =>
   refine⟨⟨by simp only[List.length_append,da7,List.length_singleton];have:=c.1.1;omega,c.1.2⟩,fun fz t2 sz2 r2 hr2=>?_⟩
   rcases gg7 hr2 with ⟨e,-⟩ | ⟨e1,e2,e3⟩
   ·exact absurd e (ne c.1.1)
   ·rw[old e1,oldo e1];exact c.2 _ _ _ _ e3
  | h j st len =>
   refine⟨⟨by simp only[List.length_append,da7,List.length_singleton];have:=c.1.1;omega,c.1.2⟩,fun fz t2 sz2 r2 hr2=>?_⟩
   rcases gg7 hr2 with ⟨e,-⟩ | ⟨e1,e2,e3⟩
   ·exact absurd e (ne c.1.1)
   ·rw[old e1,oldo e1];exact c.2 _ _ _ _ e3
  | _=>exact c
 refine⟨⟨h.bel,fun j fz t2 sz2 r2 hj=>?_,fun j fz t2 sz2 r2 hj=>?_,fun j t2 sz2 r2 hj=>?_,fun j t2 sz2 r2 hj=>?_,fun i j t1 s1 r1 t2 s2 r2 hi hj he=>?_,h.rlt,h.src,h.tau.keep rfl (fun _ _ _=>rfl) (fun b q hq=>(h.tau.new b q hq).2) fun b q j fz t2 s2 r2 hq hj=>?_⟩,kp⟩
 ·rcases gg7 hj with ⟨rfl,e⟩ | ⟨e1,e2,e3⟩
  ·rw[new];exact h.low _ _ _ _ _ hr
  ·rw[old e1];exact h.low _ _ _ _ _ e3
 ·rcases gg7 hj with ⟨rfl,e⟩ | ⟨e1,e2,e3⟩
  ·cases e
   rw[new,newo]
   obtain⟨cur,k1,k2,k3,⟨c0,k4⟩,k5,k6⟩:=h.row _ _ _ _ _ hr
   have hc0:r.len≤c0:=by
    rcases Nat.lt_or_ge c0 r.len with hlt | hge
    ·have:=Nat.mul_le_mul_right sz (show c0+1≤r.len from hlt)
     rw[Nat.add_mul]at this
     omega
    ·exact hge
   refine⟨cur,k1,k2, ?_,⟨c0-o, ?_⟩,fun e=>(by rw[hb]at e;cases e),fun i hi j hj=>?_⟩
   ·rw[Nat.add_assoc,← Nat.add_mul];exact Nat.le_trans (Nat.add_le_add_left (Nat.mul_le_mul_right _ hn) _) k3
   ·rw[Nat.add_assoc,← Nat.add_mul,show o+(c0-o)=c0 by omega];exact k4
   ·obtain⟨v,v1,v2,v3⟩:=k6 (o+i) (by omega) j hj
    refine⟨v,by rw[show M.off id+o*sz+i*sz+j=M.off id+(o+i)*sz+j by rw[Nat.add_mul];omega];exact v1,v2, ?_⟩
    rw[hbx,hg i j hi]
    exact v3.keep kp (fun _ _=>rfl) (fun _ h=>h)
  ·rw[old e1,oldo e1]
   exact (h.row _ _ _ _ _ e3).keep kp (fun _ _=>rfl) (fun _ h=>h) rfl
 ·rcases gg7 hj with ⟨rfl,e⟩ | ⟨e1,e2,e3⟩
  ·cases e
  ·rw[old e1];exact h.froz _ _ _ _ e3
 ·rcases gg7 hj with ⟨rfl,e⟩ | ⟨e1,e2,e3⟩
  ·rw[new];exact h.thaw _ _ _ _ hr
  ·rw[old e1];exact h.thaw _ _ _ _ e3
 ·rcases gg7 hi with ⟨rfl,e⟩ | ⟨e1,e2,e3⟩ <;> rcases gg7 hj with ⟨rfl,e'⟩ | ⟨f1,f2,f3⟩
  ·rfl
  ·rw[new,old f1]at he
   exact absurd (h.inj _ _ _ _ _ _ _ _ hr f3 he).symm f2
  ·rw[new,old e1]at he
   exact absurd (h.inj _ _ _ _ _ _ _ _ e3 hr he) e2
  ·rw[old e1,old f1]at he
   exact h.inj _ _ _ _ _ _ _ _ e3 f3 he
 ·rcases gg7 hj with ⟨rfl,e⟩ | ⟨e1,e2,e3⟩
  ·rw[new];exact h.tau.row _ _ _ _ _ _ _ hq hr
  ·rw[old e1];exact h.tau.row _ _ _ _ _ _ _ hq e3
theorem ui7 (a b:Root):∀(l:List Root),ca7 (l++[a]) l.length b=l++[b]
 | []=>rfl
 | x::l=>congrArg (x :: ·) (ui7 a b l)
theorem xhb7 (hT:qb7 P ty) (h:Rel E M H w) (t rt:TypeId) {s x:RV}{u v:Value}(hu:ha7 M H w s u) (hv:ha7 M H w x v) {K:RV→List Root→Bool}(ho:qkb7 ty (ty t).k H s x K=true) :
  ∃M' w' v' r' H',(Builtin.append_ #[t,t] rt #[u,v]).run P w = .ok v' w'∧Rel E M' H' w'∧Kp M H w M' H' w'∧ha7 M' H' w' r' v'∧H.length≤H'.length∧K r' H'=true:=by
 unfold qkb7 at ho
 split at ho
 case h_2=>cases ho
 rename_i e hk
 simp only[Bool.and_eq_true,decide_eq_true_eq]at ho
 obtain⟨⟨s1,s2,s3,s4⟩,ho⟩:=ho
 obtain⟨ad,c,news,hsrc⟩:=src_ok h hv s1
 rw[s2]at hsrc
 split at ho
 ·rename_i id st len
  split at ho
  case h_2=>cases ho
  rename_i fz t2 sz r hr
  simp only[Bool.and_eq_true,decide_eq_true_eq]at ho
  obtain⟨⟨rfl,h1,rfl,rfl,h2,h3,h4⟩,ho⟩:=ho
  obtain⟨cap,cur,aq,rfl,q1,q2,q3,q4,q5⟩:=(hu.2 _ _ _ _ hr).2 h1
  obtain⟨⟨d0,d1⟩,d2,d3⟩:=zo7 h2 st
  obtain⟨m1,m2⟩:=kz7 h hr (r':=r.drop st) (o:=st) d0 d1 (by omega) (fun i j _=>d3 i j)
  have hl:(ca7 H id .dead).length=H.length:=da7 _ _ _
  have hr2:aa7 (ca7 H id .dead++[.live false t2 (ty t2).sz (r.drop st)]) H.length = .live false t2 (ty t2).sz (r.drop st):=by
   rw[← hl,ed7,if_pos rfl]
  have n1:(M.upd H.length (M.phi id) (M.off id+st*(ty t2).sz)).phi H.length=M.phi id:=if_pos rfl
  have n2:(M.upd H.length (M.phi id) (M.off id+st*(ty t2).sz)).off H.length=M.off id+st*(ty t2).sz:=if_pos rfl
  have hq:Con (M.upd H.length (M.phi id) (M.off id+st*(ty t2).sz)) (ca7 H id .dead++[.live false t2 (ty t2).sz (r.drop st)]) w (.h H.length 0 len) (.slice (some aq) len cap):=by
   refine⟨⟨by simp[hl],rfl⟩,fun fz t3 s3 r3 e3=>?_⟩
   rw[hr2]at e3
   cases e3
   exact⟨by omega,fun _=>⟨cap,cur,aq,rfl,q1,q2,by rw[n1];exact q3,by rw[n2,Nat.zero_add,Nat.add_assoc,← Nat.add_mul];exact q4,by rw[n1,n2,Nat.zero_mul];exact q5⟩⟩
  have hs2:ucb7 (M.upd H.length (M.phi id) (M.off id+st*(ty t2).sz)) (ca7 H id .dead++[.live false t2 (ty t2).sz (r.drop st)]) w v (ta7 H x).2.1 (ty t2).sz ad c news :=
   ⟨hsrc.v,hsrc.len,hsrc.cell,hsrc.one,fun i o hi ho=>by
    obtain⟨u,u1,u2⟩:=hsrc.con i o hi ho
    exact⟨u,u1,u2.keep m2 (fun _ _=>rfl) (fun _ h=>h)⟩⟩
  obtain⟨M',w',v',r0,r1,r2,r3,-⟩:=ir7 hT m1 t t2 rt hk s3 s4 hs2 hr2 (by omega) hq h3 h4
  have e1:∀X,ca7 (ca7 H id .dead++[.live false t2 (ty t2).sz (r.drop st)]) H.length X=ca7 H id .dead++[X]:=fun X=>by
   have:=ui7 (.live false t2 (ty t2).sz (r.drop st)) X (ca7 H id .dead)
   rwa [hl]at this
  rw[e1]at r1 r2 r3
  exact⟨M',w',v',.c (.h _ 0 _),_,r0,r1,m2.trans r2,r3,by simp[hl],ho⟩
 ·cases ho
theorem bib7 {k:TyK}{s x:RV}{K:RV→List Root→Bool}(h:qkb7 ty k H s x K=true):∃r H',K r H'=true:=by
 unfold qkb7 at h
 split at h
 ·simp only[Bool.and_eq_true]at h
  obtain⟨-,h⟩:=h
  split at h
  ·split at h
   ·simp only[Bool.and_eq_true]at h;exact⟨_,_,h.2⟩
   ·cases h
  ·cases h
 ·cases h
end
def isI (k:IntKind):AV→Bool
 | .int k' _=>decide (k'=k)
 | _=>false
def fjb7:AV→Int
 | .int _ n=>n
 | _=>0
theorem cmb7 {k:IntKind}{a:AV}(h:isI k a=true):a = .int k (fjb7 a):=by
 cases a <;> simp_all [isI,fjb7]
def ry7 (ty:Ty) (k:TyK) (H:List Root) (d x:RV) (K:RV→List Root→Bool):Bool :=
 match k with
 | .sl e=>match d with
  | .c (.h id st n)=>match x with
   | .c (.sl m sz' f)=>match aa7 H id with
    | .live false t sz (.ints kk l)=>decide (st=0∧n=l.length∧m=l.length∧0<m∧sz'=1∧sz=1∧(ty e).sz=1)&&(List.range m).all (fun i=>isI kk (f i 0))&&K (.c (.int .i64 m)) (ca7 H id (.live false t sz (.ints kk ((List.range m).map fun i=>fjb7 (f i 0)))))
    | _=>false
   | _=>false
  | _=>false
 | _=>false
section
variable {P:Program} {ty:Ty} {E:Env} {M:Mp} {H:List Root} {w:World}
theorem kgb7 (hT:qb7 P ty) (h:Rel E M H w) (t rt:TypeId) {s x:RV}{u v:Value}(hu:ha7 M H w s u) (hv:ha7 M H w x v) {K:RV→List Root→Bool}(ho:ry7 ty (ty t).k H s x K=true) :
  ∃w' v' r' H',(Builtin.copy_ #[t,t] rt #[u,v]).run P w = .ok v' w'∧Rel E M H' w'∧Kp M H w M H' w'∧ha7 M H' w' r' v'∧H.length≤H'.length∧K r' H'=true:=by
 unfold ry7 at ho
 split at ho
 case h_2=>cases ho
 rename_i e hk
 split at ho
 case h_2=>cases ho
 rename_i id st n
 split at ho
 case h_2=>cases ho
 rename_i m sz' f
 split at ho
 case h_2=>cases ho
 rename_i t2 sz kk l hr
 simp only[Bool.and_eq_true,decide_eq_true_eq,List.all_eq_true,List.mem_range]at ho
 obtain⟨⟨⟨rfl,rfl,hm,hpos,rfl,rfl,hsz⟩,hall⟩,hK⟩:=ho
 obtain⟨hue,hke⟩:P.underlying t=some (.slice e)∧_:=na7 hT hk
 obtain⟨i0,z0,hi1,hi2,-⟩:=hT.info hke
 obtain⟨cap,cur,ad,rfl,q1,q2,q3,q4,q5⟩:=(hu.2 _ _ _ _ hr).2 (Nat.zero_add _)
 obtain⟨a,b,off,c,rfl,g1,g2,g3,g4⟩:lb7 M.rho w (.sl m 1 f) v:=hv
 obtain⟨rfl,-⟩:=g3 hpos
 obtain rfl:=q5 (by omega)
 obtain⟨cur2,h1,h2,h3,h4,h5,h6⟩:=h.row _ _ _ _ _ hr
 rw[q3]at h1
 cases h1
 have hlen:(Row.ints kk l).len=l.length:=rfl
 rw[hlen]at h3
 let xs:List Int:=(List.range m).map fun i=>fjb7 (f i 0)
 let vs:List Value:=xs.map (Value.int kk)
 have hxl:xs.length=l.length:=by simp[xs,hm]
 have hvl:vs.length=l.length:=by simp[vs,hxl]
 have hfit:M.off id+vs.length≤cur.size:=by omega
 have hcell:∀j,j<m→w.cell? ⟨b,off+j,none⟩=some (.int kk (fjb7 (f j 0))):=fun j hj=>by
  obtain⟨u,k1,k2⟩:=g4 j hj 0 Nat.zero_lt_one
  rw[cmb7 (hall j hj)]at k2
  have k2:u = .int kk (fjb7 (f j 0)):=k2
  rw[k2]at k1
  rw[← k1];congr 2;omega
 have hrun:=run_copy_row (P:=P) w t t rt e (M.phi id) (M.off id) l.length cap ⟨b,off,none⟩ m c cur t2 vs hue (by rw[hi1];simp[hi2,hsz]) q3 (by rw[hvl,hm];exact (Nat.min_self _).symm)
  (fun j v hj=>by
   have hjl:j<vs.length:=(List.getElem?_eq_some_iff.1 hj).1
   have e1:vs[j]? = some (.int kk (fjb7 (f j 0))):=by
    simp only[vs,xs,List.getElem?_map,List.getElem?_range (show j<m by omega),Option.map_some]
   rw[e1]at hj
   cases hj
   rw[← hcell j (by omega)]
   by_cases e0:j=0 <;> simp[Addr.add,e0]) hfit (fun v hv=>by
   obtain⟨n,-,rfl⟩:=List.mem_map.1 hv;rfl)
 have hg:w.grownBy (w.setRow (M.phi id) (spl cur (M.off id) vs)) (some (M.phi id)):=⟨rfl,rfl,rfl,by simp[World.setRow],fun k _ hne=>setRow_other w _ _ _ (fun e=>hne (by rw[e]))⟩
 have hnew:(w.setRow (M.phi id) (spl cur (M.off id) vs)).heap[M.phi id]? = some (.cells (spl cur (M.off id) vs) t2 (0,0)):=setRow_heap w _ cur _ t2 _ q3
 have hid:=yb7 hr
 have p:Put E M H (ca7 H id (.live false t2 1 (.ints kk xs))) w (w.setRow (M.phi id) (spl cur (M.off id) vs)) (some (M.phi id)) id (M.phi id) (M.off id) t2 1 (.ints kk xs) :=
  ⟨hg,fun j hj=>(by rw[jb7,if_neg (fun h=>hj h.1)]),(by rw[jb7,if_pos ⟨rfl,hid⟩]),(by rw[da7];exact Nat.le_refl _),fun e=>(by rw[hr]at e;cases e),
   fun b e=>⟨(Option.some.inj e).symm,t2,1,_,hr⟩,.inl ⟨rfl,t2,1,_,hr⟩,fun fz t2 s2 r2 e=>by
    rw[hr]at e
    cases e
    refine .inr ⟨hxl.symm,rfl,rfl,rfl,rfl,fun c hc=>⟨_,hnew, ?_⟩⟩
    rw[q3]at hc
    cases hc
    exact ub7 cur vs _ hfit⟩
 have hk:=p.kp h
 have hrel:=p.rel h ⟨spl cur (M.off id) vs,hnew,Nat.one_pos,by rw[show (Row.ints kk xs).len=l.length from hxl];unfold spl;rw[ub7 _ _ _ hfit];exact h3,by unfold spl;rw[ub7 _ _ _ hfit];exact h4,fun hb=>(by cases hb),fun i' hi' o' ho'=>?_⟩
 ·rw[kn7]at hrel hk
  refine⟨_,_,.c (.int .i64 m),_,hrun,hrel,hk, ?_,by rw[da7];exact Nat.le_refl _,hK⟩
  show goInt vs.length = .int .i64 m
  rw[hvl,hm];rfl
 ·have hi2:i'<l.length:=by rw[← hxl];exact hi'
  obtain rfl:o'=0:=by omega
  refine⟨.int kk (xs.getD i' 0), ?_,rfl,rfl⟩
  unfold spl
  rw[wd7 _ _ _ _ hfit,if_pos (by omega),show M.off id+i'*1+0-M.off id=i' by omega]
  simp only[vs,List.getElem?_map,List.getD_eq_getElem?_getD]
  rw[List.getElem?_eq_getElem (by omega)];rfl
def mob7 (ty:Ty) (k:TyK) (H:List Root) (id st n:Nat) (m m2:Int) (K:RV→List Root→Bool):Bool :=
 match k with
 | .sl e=>match aa7 H id with
  | .live fz t sz r=>decide (0<m∧m≤n∧m2=m∧st+n=r.len∧r.isBox=false∧sz=(ty e).sz)&&K (.c (.sl m.toNat sz (fun i j=>r.get (st+i) j))) (ca7 H id (aa7 H id).mark)
  | _=>false
 | _=>false
theorem bt7 {t e:TypeId}(ht:P.underlying t=some (.slice e)) (w:World) (a:Option Addr) (len cap:Nat) (kh km:IntKind) (h:Int) (h0:0≤h) (h2:h≤cap) :
  (Instr.slice t (.slice a len cap) none (some (.int kh h)) (some (.int km h))).run P w=((sizeOf e).run P w).andThen fun s w=>.ok (sliced a 0 h.toNat h.toNat s) w:=by
 have eh:(h.toNat:Int)=h:=Int.toNat_of_nonneg h0
 have hel:P.elem t=e:=by simp[Program.elem,ht]
 rw[run_slice_any (ht:=by rw[hel];exact ht),hel]
 simp[Instr.sliceBounds,run_sliceBound, *,Result.andThen]
theorem ylb7 (hT:qb7 P ty) (h:Rel E M H w) (t:TypeId) {id st n:Nat}{k k2:IntKind}{m m2:Int}{u:Value}(hu:ha7 M H w (.c (.h id st n)) u) {K:RV→List Root→Bool}(ho:mob7 ty (ty t).k H id st n m m2 K=true) :
  ∃M' v' r' H',(Instr.sliceAt t u none (some (.int k m)) (some (.int k2 m2))).run P w = .ok v' w∧Rel E M' H' w∧Kp M H w M' H' w∧ha7 M' H' w r' v'∧H.length≤H'.length∧K r' H'=true:=by
 unfold mob7 at ho
 split at ho
 case h_2=>cases ho
 rename_i e hk
 split at ho
 case h_2=>cases ho
 rename_i fz t2 sz r hr
 simp only[Bool.and_eq_true,decide_eq_true_eq]at ho
 obtain⟨⟨h1,h2,rfl,h3,h4,rfl⟩,hK⟩:=ho
 obtain⟨hue,hke⟩:P.underlying t=some (.slice e)∧_:=na7 hT hk
 have hel:P.elem t=e:=by simp[Program.elem,hue]
 obtain⟨M',f1,f2,f3,f4,f5⟩:=mh7 [.h id st n] h ⟨by unfold an7;rw[hr];exact⟨h3,h4⟩,trivial⟩
 obtain⟨_,_,e1,c1,-⟩:=f5 [u] ⟨u,[],rfl,hu,rfl⟩
 cases e1
 have hfz:frz H (.h id st n) = .sl n (ty e).sz (fun i j=>r.get (st+i) j):=by unfold frz;simp only[hr]
 rw[hfz]at c1
 obtain⟨a,b,off,c,rfl,g1,g2,g3,g4⟩:=c1
 obtain⟨rfl,g5⟩:=g3 (by omega)
 refine⟨M',.slice (some ⟨b,off,none⟩) m2.toNat m2.toNat,_,_, ?_,f3,f4, ?_,by simp[da7,frzH],hK⟩
 ·rw[run_sliceAt_slice w t _ _ _ _ (by rw[hel];exact hue),bt7 hue w _ n c k k2 m2 (by omega) (by omega),rb7 hT hke]
  simp only[Result.andThen,sliced,Nat.sub_zero,Nat.zero_mul]
  rw[if_neg (by omega)]
  simp[addr_add]
 ·exact⟨_,b,off,_,rfl,Nat.le_refl _,by omega,fun _=>⟨rfl,g5⟩,fun i hi j hj=>g4 i (by omega) j hj⟩
def yob7 (ty:Ty) (k:TyK) (H:List Root) (id st n:Nat) (m:Int) (K:RV→List Root→Bool):Bool :=
 match k with
 | .sl e=>match aa7 H id with
  | .live fz t sz r=>decide (0<n∧0≤m∧m≤n∧st+n=r.len∧r.isBox=false∧sz=(ty e).sz)&&K (.c (.sl m.toNat sz (fun i j=>r.get (st+i) j))) (ca7 H id (aa7 H id).mark)
  | _=>false
 | _=>false
theorem fmb7 (hT:qb7 P ty) (h:Rel E M H w) (t:TypeId) {id st n:Nat}{k:IntKind}{m:Int}{u:Value}(hu:ha7 M H w (.c (.h id st n)) u) {K:RV→List Root→Bool}(ho:yob7 ty (ty t).k H id st n m K=true) :
  ∃M' v' r' H',(Instr.sliceAt t u none (some (.int k m)) none).run P w = .ok v' w∧Rel E M' H' w∧Kp M H w M' H' w∧ha7 M' H' w r' v'∧H.length≤H'.length∧K r' H'=true:=by
 unfold yob7 at ho
 split at ho
 case h_2=>cases ho
 rename_i e hk
 split at ho
 case h_2=>cases ho
 rename_i fz t2 sz r hr
 simp only[Bool.and_eq_true,decide_eq_true_eq]at ho
 obtain⟨⟨h0,h1,h2,h3,h4,rfl⟩,hK⟩:=ho
 obtain⟨hue,hke⟩:P.underlying t=some (.slice e)∧_:=na7 hT hk
 have hel:P.elem t=e:=by simp[Program.elem,hue]
 obtain⟨M',f1,f2,f3,f4,f5⟩:=mh7 [.h id st n] h ⟨by unfold an7;rw[hr];exact⟨h3,h4⟩,trivial⟩
 obtain⟨_,_,e1,c1,-⟩:=f5 [u] ⟨u,[],rfl,hu,rfl⟩
 cases e1
 have hfz:frz H (.h id st n) = .sl n (ty e).sz (fun i j=>r.get (st+i) j):=by unfold frz;simp only[hr]
 rw[hfz]at c1
 obtain⟨a,b,off,c,rfl,g1,g2,g3,g4⟩:=c1
 obtain⟨rfl,g5⟩:=g3 h0
 refine⟨M',sliced (some ⟨b,off,none⟩) 0 m.toNat c (ty e).sz,_,_, ?_,f3,f4, ?_,by simp[da7,frzH],hK⟩
 ·rw[run_sliceAt_slice w t _ _ _ _ (by rw[hel];exact hue),run_slice_h w t _ n c (by rw[hel];exact hue) k m h1 (by omega),hel,rb7 hT hke]
  simp only[Result.andThen]
 ·simp only[sliced,Nat.sub_zero,Nat.zero_mul]
  rw[if_neg (by omega)]
  refine⟨_,b,off,_,rfl,by omega,g2,fun _=>⟨by simp[addr_add],g5⟩,fun i hi j hj=>g4 i (by omega) j hj⟩
end
section
variable {P:Program} {ty:Ty} {E:Env} {M:Mp} {H:List Root} {w:World}
def jeb7 (ty:Ty) (k kn:TyK) (H:List Root) (n:Int) (K:RV→List Root→Bool):Bool :=
 match kn with
 | .i _=>match k with
  | .sl e=>(decide (0<n∧n≤1099511627776∧0<(ty e).sz∧(ty e).bytes≤128)&&jnb7 (ty e).k (ty e).zero)&&K (.c (.h H.length 0 n.toNat)) (H++[.live false e (ty e).sz (jd7 (ty e).wk (ty e).k (ty e).zero n.toNat)])
  | _=>false
 | _=>false
def isZ:RV→RV→Bool
 | .c .nils,.c (.int ..)=>true
 | _,_=>false
def rab7 (ty:Ty) (k kn:TyK) (H:List Root) (s x:RV) (K:RV→List Root→Bool):Bool :=
 match s,x with
 | .c .nils,.c (.int _ n)=>jeb7 ty k kn H n K
 | _,_=>false
theorem qmb7 (z:Array Value) (n j:Nat) (h:j<n*z.size):(Builtin.zeroCells z n)[j]? = some (z[j % z.size]!):=by
 unfold Builtin.zeroCells
 simp only[Array.getElem?_map,Array.getElem?_range,h,if_true,Option.map_some]
theorem dcb7 (z:Array Value) (n:Nat):(Builtin.zeroCells z n).size=n*z.size:=by
 unfold Builtin.zeroCells
 simp
theorem ugb7 (hT:qb7 P ty) (h:Rel E M H w) (t tn rt:TypeId) (kq:IntKind) {n:Int}{K:RV→List Root→Bool}(ho:jeb7 ty (ty t).k (ty tn).k H n K=true) :
  ∃M' w' v' r' H',(Builtin.append_ #[t,tn] rt #[.slice none 0 0,.int kq n]).run P w = .ok v' w'∧Rel E M' H' w'∧Kp M H w M' H' w'∧ha7 M' H' w' r' v'∧H.length≤H'.length∧K r' H'=true:=by
 unfold jeb7 at ho
 split at ho
 case h_2=>cases ho
 rename_i kn hkn
 split at ho
 case h_2=>cases ho
 rename_i e hk
 simp only[Bool.and_eq_true,decide_eq_true_eq]at ho
 obtain⟨⟨⟨h1,h2,h0,hb⟩,hz⟩,hK⟩:=ho
 have hz:=pz7 hz
 obtain⟨hu,hke⟩:P.underlying t=some (.slice e)∧_:=na7 hT hk
 have hun:P.underlying tn=some (.int kn):=na7 hT hkn
 obtain⟨i,z,hi,hzz,hs,hby,hzs,hzl,-⟩:=ic7 (M:=M) (σ:=⟨[],H⟩) (w:=w) (P:=P) hT (t:=e) hke
 obtain⟨m,rfl⟩:∃m:Nat,n=m:=⟨n.toNat,by omega⟩
 rw[Int.toNat_natCast]at hK
 have hzn:(ty e).zero.length=(ty e).sz:=by have:=gk7 hzl;simp at this;omega
 have hmul:m*i.bytes≤281474976710656:=by rw[hby];have:=Nat.mul_le_mul (show m≤1099511627776 by omega) hb;omega
 have hr:=Lib.run_append_grow_zeros w t tn rt e i z kq kn hu hun hi hzz none 0 0 [] (by simp[Builtin.firstCells]) m (by omega) (by omega) (by omega) (by omega) hmul (by
  rw[Nat.zero_add,show Builtin.nextslicecap m 0=m from if_pos (by omega)];exact hmul)
 rw[Nat.zero_add]at hr
 have hge:=grownCap_ge w m 0 e
 have hmx:=grownCap_le_maxLen w m 0 e (by unfold maxLen;omega)
 generalize grownCap w m 0 e=g at *
 generalize hcur:(([]:List Value).toArray++Builtin.zeroCells z.cells m++Builtin.zeroCells z.cells (g-m))=cur at hr
 have hcs:g*(ty e).sz=cur.size:=by
  rw[← hcur]
  simp only[Array.size_append,dcb7,List.size_toArray,List.length_nil,Nat.zero_add]
  rw[← hzs,← Nat.add_mul];congr 1;omega
 have hg:w.grownBy (w.drew.alloc (.cells cur e)) none:=by
  have q:=World.grownBy_alloc w.drew (.cells cur e) none
  exact⟨q.os,q.tape,q.output,q.size,q.block⟩
 have hheap:(w.drew.alloc (.cells cur e)).heap[w.heap.size]? = some (.cells cur e (0,0)):=by
  show (w.heap.push _)[w.heap.size]? = _
  simp
 obtain⟨z1,z2,z3⟩:=tm7 (wk:=(ty e).wk) hz m
 obtain⟨r1,r2⟩:=be7 (r:=jd7 (ty e).wk (ty e).k (ty e).zero m) h hg hheap z2 h0 hcs (by omega) (fun i hi o ho=>by
  have hi':i<m:=by omega
  have hlt:i*(ty e).sz+o<m*z.cells.size:=by
   have:(i+1)*(ty e).sz≤m*(ty e).sz:=Nat.mul_le_mul_right _ hi'
   rw[Nat.add_mul]at this
   rw[hzs];omega
  have ho2:o<z.cells.size:=by omega
  have hzo:=tk7 hzl o z.cells[o] (by simp[ho2])
  refine⟨z.cells[o], ?_,ks7 hzo, ?_⟩
  ·have hmod:(i*(ty e).sz+o) % z.cells.size=o:=by rw[hzs,Nat.mul_comm,Nat.mul_add_mod];exact Nat.mod_eq_of_lt ho
   rw[← hcur,Array.getElem?_append_left (by simp[dcb7];exact hlt),Array.getElem?_append_right (by simp)]
   simp only[List.size_toArray,List.length_nil,Nat.sub_zero]
   rw[qmb7 _ _ _ hlt,hmod,getElem!_pos z.cells o ho2]
  ·rw[z3 i o hi' (by omega)];exact vd7.of0 (kt7 hzo))
 exact⟨_,_,_,.c (.h H.length 0 m),_,hr,r1,r2,dg7 (w:=w) z1.symm hge hmx hheap hcs,by simp,hK⟩
theorem jdb7 (hT:qb7 P ty) (h:Rel E M H w) (t tn rt:TypeId) {s x:RV}{u v:Value}(hs:ha7 M H w s u) (hx:ha7 M H w x v) {K:RV→List Root→Bool}(ho:rab7 ty (ty t).k (ty tn).k H s x K=true) :
  ∃M' w' v' r' H',(Builtin.append_ #[t,tn] rt #[u,v]).run P w = .ok v' w'∧Rel E M' H' w'∧Kp M H w M' H' w'∧ha7 M' H' w' r' v'∧H.length≤H'.length∧K r' H'=true:=by
 unfold rab7 at ho
 split at ho
 ·obtain rfl:u = .slice none 0 0:=hs
  obtain rfl:=ma7 (σ:=(⟨[],H⟩:AS)) hx
  exact ugb7 hT h t tn rt _ ho
 ·cases ho
theorem ydb7 {k kn:TyK}{s x:RV}{K:RV→List Root→Bool}(h:rab7 ty k kn H s x K=true):∃r H',K r H'=true:=by
 unfold rab7 at h
 split at h
 ·unfold jeb7 at h
  split at h
  ·split at h
   ·simp only[Bool.and_eq_true]at h
    exact⟨_,_,h.2⟩
   ·cases h
  ·cases h
 ·cases h
end
def bpb7 (P:Program) (t:TypeId) (nm:String):Option (FuncId×Option TypeId) :=
 match P.info? t with
 | some i=>match i.methods.find? (fun m=>m.name==nm) with
  | some m=>match m.path with
   | ⟨[]⟩=>match m.func,P.underlying t with
    | some (f,true),some (.pointer _)=>some (f,none)
    | some (f,false),some (.pointer e)=>some (f,some e)
    | _,_=>none
   | _=>none
  | none=>none
 | none=>none
def usb7 (P:Program) (ad:Addr) (w:World) (u:Value):Option TypeId→Prop
 | none=>u = .pointer (some ad)
 | some e=>(loadVar e ad).run P w = .ok u w
theorem ltb7 (x:Value) (y:Array Value):(#[x]++y).extract 1 (#[x]++y).size=y:=by
 obtain⟨l⟩:=y
 apply Array.toList_inj.1
 simp[List.extract_eq_drop_take]
theorem beb7 {P:Program}(ts:Array TypeId) (t:TypeId) (ad:Addr) (s m:ByteArray) (w:World):(Builtin.ssaWrapNilChk_ ts t #[.pointer (some ad),.string s,.string m]).run P w = .ok (.pointer (some ad)) w:=rfl
theorem jmb7 {P:Program}{t:TypeId}{nm:String}{f:FuncId}{e:Option TypeId}(h:bpb7 P t nm=some (f,e)) (n:Nat) (ad:Addr) (w:World) {u:Value}(hu:usb7 P ad w u e) :
  (method (n+1) t (.pointer (some ad)) nm).run P w = .ok (f,u) w:=by
 unfold bpb7 at h
 split at h
 case h_2=>cases h
 rename_i i hi
 split at h
 case h_2=>cases h
 rename_i m hm
 split at h
 case h_2=>cases h
 rename_i hp
 have hti:(typeInfo t).run P w = .ok i w:=by simp[typeInfo,hi]
 split at h
 ·rename_i f' e' hf ht
  cases h
  obtain rfl:u = .pointer (some ad):=hu
  simp[method,hti,hm,hp,hf,follow,receiverAt,run_underlying ht,Place.get]
 ·rename_i f' e' hf ht
  cases h
  have hu:(loadVar e' ad).run P w = .ok u w:=hu
  simp[method,hti,hm,hp,hf,follow,receiverAt,run_underlying ht,Place.get,beb7,strVal,asAddr,hu]
 ·cases h
section
variable {P:Program} {ty:Ty} {E:Env} {nt:Nat} {M:Mp} {H:List Root} {σ:AS} {a:Act} {w:World}
end
section
variable (P:Program) (ty:Ty) (call:eg7)
def gqb7 (k:TyK) (H:List Root) (id st n:Nat) (m:Int) (K:RV→List Root→Bool):Bool :=
 match k with
 | .sl e=>match aa7 H id with
  | .live false t sz r=>decide (0≤m∧m≤n∧st+n=r.len∧sz=(ty e).sz) && !r.one&&K (.c (.h H.length st m.toNat)) (ca7 H id .dead++[.live false t sz (r.takeR (st+m.toNat))])
  | _=>false
 | _=>false
def rnb7 (pu:Pu) (rd:Operand→Bool×RV) (H:List Root) (t:TypeId) (v:RV) (nm:String) (args:List Operand) (K:RV→List Root→Bool):Bool :=
 match bpb7 P t nm with
 | some (f,none)=>decide (gOk true (rgs rd args))&&ptrOk H v&&call pu f (v::rds rd args) H K
 | some (f,some e)=>decide (gOk true (rgs rd args))&&ptrOk H v&&decide (gl7 (ty e) H v).1&&call pu f ((gl7 (ty e) H v).2::rds rd args) H K
 | none=>false
where ptrOk (H:List Root):RV→Bool
 | .c (.ptr id n _ _)=>match aa7 H id with
  | .live _ _ _ r=>decide (r.len=n)
  | .dead=>false
 | _=>false
def wob7 (pu:Pu) (tm:Tm) (rd:Operand→Bool×RV) (H:List Root) (o:Oper) (d:Bool) (K:AS→Bool):Bool :=
 match o.op with
 | .call c=>match c.callee with
  | .invoke r nm=>match rdO rd r with
   | some (.ifc t v)=>rnb7 P ty call pu rd H t v nm c.args.toList (fun r H=>K ⟨wb7 tm true o.dst r,H⟩)
   | _=>false
  | .builtin .append=>match c.args.toList with
   | [s,x]=>if isZ (rd s).2 (rd x).2 then pu.isNone&&(decide (gOk true [(rd s).1,(rd x).1]∧c.argTypes.toList=[c.argTypes.getD 0 0,c.argTypes.getD 1 0])&&rab7 ty (ty (c.argTypes.getD 0 0)).k (ty (c.argTypes.getD 1 0)).k H (rd s).2 (rd x).2 (fun r H=>K ⟨wb7 tm true o.dst r,H⟩)) else if srb7 (rd s).2 then pu.isNone&&(decide (gOk true [(rd s).1,(rd x).1]∧c.argTypes.toList=[c.argTypes.getD 0 0,c.argTypes.getD 0 0])&&qkb7 ty (ty (c.argTypes.getD 0 0)).k H (rd s).2 (rd x).2 (fun r H=>K ⟨wb7 tm true o.dst r,H⟩)) else d
   | _=>d
  | .builtin .copy=>match c.args.toList with
   | [s,x]=>pu.isNone&&(decide (gOk true [(rd s).1,(rd x).1]∧c.argTypes.toList=[c.argTypes.getD 0 0,c.argTypes.getD 0 0])&&ry7 ty (ty (c.argTypes.getD 0 0)).k H (rd s).2 (rd x).2 (fun r H=>K ⟨wb7 tm true o.dst r,H⟩))
   | _=>d
  | _=>d
 | .slice t x none (some hi) none=>match rdO rd x,rdO rd hi with
  | some (.c (.h id st n)),some (.c (.int _ m))=>gqb7 ty (ty t).k H id st n m (fun r H=>K ⟨wb7 tm true o.dst r,H⟩) || yob7 ty (ty t).k H id st n m (fun r H=>K ⟨wb7 tm true o.dst r,H⟩)
  | _,_=>d
 | .slice t x none (some hi) (some mx)=>match rdO rd x,rdO rd hi,rdO rd mx with
  | some (.c (.h id st n)),some (.c (.int _ m)),some (.c (.int _ m2))=>mob7 ty (ty t).k H id st n m m2 (fun r H=>K ⟨wb7 tm true o.dst r,H⟩)
  | _,_,_=>d
 | _=>d
def xib7:Op→Bool
 | .nilCheck _=>true
 | .makeInterface .. => true
 | .typeAssert .. => true
 | .index .. => true
 | .build .. => true
 | .slice .. => true
 | .binOp op .. => match op with
  | .and=>true
  | .or=>true
  | .andNot=>true
  | .shl=>true
  | .shr=>true
  | .eql=>true
  | .neq=>true
  | .mul=>true
  | .xor=>true
  | _=>false
 | .indexAddr _ x _=>match x with
  | .global _=>true
  | _=>false
 | .field .. => true
 | .unOp op _ _=>match op with
  | .neg=>true
  | _=>false
 | .call c=>match c.callee with
  | .invoke .. => true
  | .builtin .cap=>true
  | .builtin .append=>true
  | .builtin .copy=>true
  | _=>false
 | _=>false
def sob7 (pu:Pu) (ops:Array Oper) (σ:AS) (o:Oper) (K:AS→Bool):Bool :=
 match xib7 o.op with
 | true=>match guardOf σ.tm ops o.guard with
  | some true=>match ckb7 P ty σ.rd σ.H o.op with
   | some r=>K ⟨wb7 σ.tm true o.dst r,σ.H⟩
   | none=>wob7 P ty call pu σ.tm σ.rd σ.H o (opB ty call pu ops σ o K) K
  | _=>opB ty call pu ops σ o K
 | false=>opB ty call pu ops σ o K
noncomputable def opBF (pu:Pu) (ops:Array Oper) (σ:AS) (o:Oper) (K:AS→Bool):Bool :=
 match guardF σ.tm ops o.guard with
 | none=>false
 | some g=>decide (gOk g (bm7 (rdF σ) o.op)) &&
  (if isV o.op then (!g || decide (opV ty g (rdF σ) σ.H o.op).1)&&K ⟨wb7 σ.tm g o.dst (opV ty g (rdF σ) σ.H o.op).2,σ.H⟩
  else if g then sab7 ty call pu σ.tm (rdF σ) σ.H o K else K ⟨wb7 σ.tm g o.dst (.c .junk),σ.H⟩)
noncomputable def opX (pu:Pu) (ops:Array Oper) (σ:AS) (o:Oper) (K:AS→Bool):Bool :=
 match xib7 o.op with
 | true=>match guardF σ.tm ops o.guard with
  | some true=>match ckb7 P ty (rdF σ) σ.H o.op with
   | some r=>K ⟨wb7 σ.tm true o.dst r,σ.H⟩
   | none=>wob7 P ty call pu σ.tm (rdF σ) σ.H o (opBF ty call pu ops σ o K) K
  | _=>opBF ty call pu ops σ o K
 | false=>opBF ty call pu ops σ o K
theorem ge7 (pu:Pu) (ops:Array Oper) (σ:AS) (o:Oper) (K:AS→Bool):opBF ty call pu ops σ o K=opB ty call pu ops σ o K:=by
 unfold opBF opB
 rw[mw7,xj7]
 all_goals rfl
theorem teb7 (pu:Pu) (ops:Array Oper) (σ:AS) (o:Oper) (K:AS→Bool):opX P ty call pu ops σ o K=sob7 P ty call pu ops σ o K:=by
 unfold opX sob7
 rw[mw7,xj7,ge7]
end
section
variable {P:Program} {ty:Ty} {call:eg7} {E:Env} {nt:Nat} {M:Mp} {σ:AS} {a:Act} {w:World} {pu:Pu} {ops:Array Oper} {o:Oper} {K:AS→Bool}
theorem mab7 (hT:qb7 P ty) (hcall:∀pu f args H K,call pu f args H K=true→ga7 P pu f args H (fun r H=>K r H=true)) (h:St E nt M σ a w) (hd:∀t,o.dst=some t→t<nt) (hw:opX P ty call pu ops σ o K=true) {next:Act→World→Prop}{Q:Exit→Act→World→Prop}
  (hn:∀M' σ' a' w',St E nt M' σ' a' w'→(∀g,pu=some g→ac7 (g.map M.phi) w w')→Stp M σ a w M' σ' a' w' (fun t=>o.dst=some t)→K σ'=true→next a' w'):if Region.wanted o (yielded ops a.tmps) then o.wp P a w next Q else next (a.put o.dst undef) w:=by
 rw[teb7]at hw
 unfold sob7 at hw
 split at hw
 case h_2=>exact ep7 hT h hd (fr7 hcall hw) hn (fun _ _ h=>(pa7 h).elim)
 rename_i hnew
 clear hnew
 split at hw
 case h_2=>exact ep7 hT h hd (fr7 hcall hw) hn (fun _ _ h=>(pa7 h).elim)
 rename_i hg
 have hwt:Region.wanted o (yielded ops a.tmps)=true:=bd7 h hg rfl
 split at hw
 ·rename_i r hr
  obtain⟨v,v1,v2⟩:=yab7 hT h hr
  rw[if_pos hwt]
  unfold Oper.wp
  rw[v2 w]
  exact hn M _ _ w (h.putV hd (fun _=>v1) (fun e=>by cases e)) (fun _ _=>ac7.refl _ _) (sf7 rfl) hw
 ·rename_i hnone
  clear hnone
  have base:opB ty call pu ops σ o K=true→if Region.wanted o (yielded ops a.tmps) then o.wp P a w next Q else next (a.put o.dst undef) w:=fun hw=>ep7 hT h hd (fr7 hcall hw) hn (fun _ _ h=>(pa7 h).elim)
  obtain⟨dst,op,type,pos,after,guard⟩:=o
  unfold wob7 at hw
  simp only at hw
  split at hw
  ·rename_i c
   obtain⟨callee,args,ats⟩:=c
   simp only at hw
   cases callee with
   | value f=>exact base hw
   | builtin b =>
    cases b with
    | append =>
     simp only at hw
     split at hw
     case h_2=>exact base hw
     rename_i s x hsx
     split at hw
     ·simp only[Bool.and_eq_true,decide_eq_true_eq]at hw
      obtain⟨hpu,⟨hgs,hats⟩,hw⟩:=hw
      obtain⟨args⟩:=args
      simp only at hsx
      subst hsx
      obtain⟨ats⟩:=ats
      simp only[gOk]at hgs
      have hs:=h.rd (hgs.1 trivial)
      have hx:=h.rd (hgs.2.1 trivial)
      obtain⟨t,tn,rfl⟩:∃t tn,ats=[t,tn]:=⟨_,_,hats⟩
      obtain⟨M',w',v',r',H',r0,r1,r2,r3,r4,r5⟩:=jdb7 hT h.rel t tn type hs hx hw
      have hex:(execOp a.eval ⟨dst,.call ⟨.builtin .append,[s,x].toArray,[t,tn].toArray⟩,type,pos,after,guard⟩).run P w = .ok (.value v') w':=by
       have:=ja7 (x:=Builtin.append_ #[t,tn] type #[a.eval s,a.eval x]) r0
       simpa[execOp,resolve,invoke,builtin]using this
      rw[if_pos hwt]
      unfold Oper.wp
      rw[hex]
      exact hn _ _ _ _ (h.put r1 r2 hd r3) (fun _ e=>by rw[e]at hpu;cases hpu) ⟨r4,r2,pb7 _ _ _⟩ r5
     split at hw
     case isFalse=>exact base hw
     simp only[Bool.and_eq_true,decide_eq_true_eq]at hw
     obtain⟨hpu,⟨hgs,hats⟩,hw⟩:=hw
     obtain⟨args⟩:=args
     simp only at hsx
     subst hsx
     obtain⟨ats⟩:=ats
     simp only[gOk]at hgs
     have hs:=h.rd (hgs.1 trivial)
     have hx:=h.rd (hgs.2.1 trivial)
     obtain⟨t,rfl⟩:∃t,ats=[t,t]:=⟨_,hats⟩
     have htt:(List.toArray [t,t]).getD 0 0=t:=rfl
     rw[htt]at hw
     obtain⟨M',w',v',r',H',r0,r1,r2,r3,r4,r5⟩:=xhb7 hT h.rel t type hs hx hw
     have hex:(execOp a.eval ⟨dst,.call ⟨.builtin .append,[s,x].toArray,[t,t].toArray⟩,type,pos,after,guard⟩).run P w = .ok (.value v') w':=by
      have:=ja7 (x:=Builtin.append_ #[t,t] type #[a.eval s,a.eval x]) r0
      simpa[execOp,resolve,invoke,builtin]using this
     rw[if_pos hwt]
     unfold Oper.wp
     rw[hex]
     exact hn _ _ _ _ (h.put r1 r2 hd r3) (fun _ e=>by rw[e]at hpu;cases hpu) ⟨r4,r2,pb7 _ _ _⟩ r5
    | copy =>
     simp only at hw
     split at hw
     case h_2=>exact base hw
     rename_i s x hsx
     simp only[Bool.and_eq_true,decide_eq_true_eq]at hw
     obtain⟨hpu,⟨hgs,hats⟩,hw⟩:=hw
     obtain⟨args⟩:=args
     simp only at hsx
     subst hsx
     obtain⟨ats⟩:=ats
     simp only[gOk]at hgs
     have hs:=h.rd (hgs.1 trivial)
     have hx:=h.rd (hgs.2.1 trivial)
     obtain⟨t,rfl⟩:∃t,ats=[t,t]:=⟨_,hats⟩
     have htt:(List.toArray [t,t]).getD 0 0=t:=rfl
     rw[htt]at hw
     obtain⟨w',v',r',H',r0,r1,r2,r3,r4,r5⟩:=kgb7 hT h.rel t type hs hx hw
     have hex:(execOp a.eval ⟨dst,.call ⟨.builtin .copy,[s,x].toArray,[t,t].toArray⟩,type,pos,after,guard⟩).run P w = .ok (.value v') w':=by
      have:=ja7 (x:=Builtin.copy_ #[t,t] type #[a.eval s,a.eval x]) r0
      simpa[execOp,resolve,invoke,builtin]using this
     rw[if_pos hwt]
     unfold Oper.wp
     rw[hex]
     exact hn _ _ _ _ (h.put r1 r2 hd r3) (fun _ e=>by rw[e]at hpu;cases hpu) ⟨r4,r2,pb7 _ _ _⟩ r5
    | _=>exact base hw
   | invoke r nm =>
    simp only at hw
    split at hw
    case h_2=>cases hw
    rename_i t v hv
    rw[if_pos hwt]
    obtain⟨u,hu,hc⟩:=eb7 h hv
    have run:∀(f:FuncId) (e:Option TypeId) (z:Value) (rz:RV) (ad:Addr),u = .pointer (some ad)→bpb7 P t nm=some (f,e)→usb7 P ad w z e→ha7 M σ.H w rz z→gOk true (rgs σ.rd args.toList)→call pu f (rz::rds σ.rd args.toList) σ.H (fun r H=>K ⟨wb7 σ.tm true dst r,H⟩)=true→Oper.wp P ⟨dst,.call ⟨.invoke r nm,args,ats⟩,type,pos,after,guard⟩ a w next Q:=fun f e z rz ad hu2 hm hz hcz hgs hk=>by
     obtain⟨henter,hcl⟩:=hcall _ _ _ _ _ hk
     have hc2:=hcl E M w (z::args.toList.map a.eval) h.rel ⟨z,_,rfl,hcz,lbb7 h args.toList hgs⟩
     have hmr:=jmb7 hm (P.types.size+99) ad w hz
     unfold Oper.wp
     have hrun:(execOp a.eval ⟨dst,.call ⟨.invoke r nm,args,ats⟩,type,pos,after,guard⟩).run P w = .ok (.enter f (z::args.toList.map a.eval).toArray) w:=by
      have e1:#[z]++args.map a.eval=(z::args.toList.map a.eval).toArray:=by
       apply Array.toList_inj.1;simp
      have e2:(#[a.eval r]++args.map a.eval).extract 1 (#[a.eval r]++args.map a.eval).size=args.map a.eval:=ltb7 _ _
      have e3:(#[a.eval r]++args.map a.eval)[0]? = some (.iface t (.pointer (some ad))):=by
       rw[hu,hu2,Array.getElem?_append_left (Nat.zero_lt_one)];rfl
      have e4:(method (P.types.size+Made.depth) t (.pointer (some ad)) nm).run P w = .ok (f,z) w:=hmr
      have e5:(callMethod (.iface t (.pointer (some ad))) nm (args.map a.eval)).run P w = .ok (.enter f (z::args.toList.map a.eval).toArray) w:=by
       have h1:(callMethod (.iface t (.pointer (some ad))) nm (args.map a.eval)).run P w=((do let (f,receiver) ← method (P.types.size+Made.depth) t (.pointer (some ad)) nm;callFunc f (#[receiver]++args.map a.eval)):Sem Next).run P w:=rfl
       rw[h1,Sem.run_bind,e4]
       show (callFunc f (#[z]++args.map a.eval)).run P w=_
       rw[e1]
       exact henter.run _ _
      have h2:(execOp a.eval ⟨dst,.call ⟨.invoke r nm,args,ats⟩,type,pos,after,guard⟩).run P w=((do
        let some recv := (#[a.eval r] ++ args.map a.eval)[0]? | stuck "call: a method without a receiver"
        callMethod recv nm ((#[a.eval r]++args.map a.eval).extract 1 (#[a.eval r]++args.map a.eval).size)):Sem Next).run P w:=rfl
      rw[h2,e3,e2]
      exact e5
     rw[hrun,Oper.upon_enter]
     refine hc2.mono ?_
     rintro e w' (⟨M',H',r',v',rfl,q1,q2,q3,q4,q5,q6⟩ | ⟨_,_,hP⟩)
     ·exact hn _ _ _ _ (h.put q1 q2 hd q3) q4 ⟨q5,q2,pb7 _ _ _⟩ q6
     ·exact (pa7 hP).elim
    unfold rnb7 at hw
    have hptr:rnb7.ptrOk σ.H v=true→∃ad,u = .pointer (some ad):=fun hp=>by
     unfold rnb7.ptrOk at hp
     split at hp
     ·rename_i id n i o
      split at hp
      ·rename_i fz t2 sz r2 hr2
       exact⟨_,(hc.2 _ _ _ _ hr2).2 (by simpa using hp)⟩
      ·cases hp
     ·cases hp
    split at hw
    ·rename_i f hm
     simp only[Bool.and_eq_true,decide_eq_true_eq]at hw
     obtain⟨⟨w1,w2⟩,w3⟩:=hw
     obtain⟨ad,had⟩:=hptr w2
     exact run f none u v ad had hm had hc w1 w3
    ·rename_i f e hm
     simp only[Bool.and_eq_true,decide_eq_true_eq]at hw
     obtain⟨⟨⟨w1,w2⟩,w4⟩,w3⟩:=hw
     obtain⟨ad,had⟩:=hptr w2
     obtain⟨z,z1,z2⟩:=yt7 hT h.rel e hc w4
     have z3:=z2 w Same.refl
     rw[had]at z3
     exact run f (some e) z _ ad had hm (show (loadVar e ad).run P w = .ok z w by simpa[Instr.loadAt,Instr.sureAddr]using z3) z1 w1 w3
    ·cases hw
  ·rename_i t x hi
   split at hw
   ·rename_i id st n k m hx hhi
    rw[if_pos hwt]
    have hxv:=eb7 h hx
    have hmv:=ma7 (eb7 h hhi)
    rw[Bool.or_eq_true]at hw
    rcases hw with hw | hw
    rotate_left
    ·obtain⟨M',v',r',H',r0,r1,r2,r3,r4,r5⟩:=fmb7 hT h.rel t (k:=k) hxv hw
     have hex:(execOp a.eval ⟨dst,.slice t x none (some hi) none,type,pos,after,guard⟩).run P w = .ok (.value v') w:=by
      refine ja7 (x:=Instr.sliceAt t (a.eval x) none (some (a.eval hi)) none) ?_
      rw[hmv];exact r0
     unfold Oper.wp
     rw[hex]
     exact hn _ _ _ _ (h.put r1 r2 hd r3) (fun _ _=>ac7.refl _ _) ⟨r4,r2,pb7 _ _ _⟩ r5
    unfold gqb7 at hw
    split at hw
    case h_2=>cases hw
    rename_i e hk
    split at hw
    case h_2=>cases hw
    rename_i t2 sz r hr
    simp only[Bool.and_eq_true,decide_eq_true_eq,Bool.not_eq_true']at hw
    obtain⟨⟨⟨w1,w2,w3,rfl⟩,w4⟩,w5⟩:=hw
    obtain⟨hu,hke⟩:P.underlying t=some (.slice e)∧_:=na7 hT hk
    have hel:P.elem t=e:=by simp[Program.elem,hu]
    obtain⟨cap,cur,ad,hv,k1,k2,k3,k4,k5⟩:=(hxv.2 _ _ _ _ hr).2 w3
    obtain⟨g1,g2,g3,g4⟩:=abb7 w4 (n:=st+m.toNat) (by omega)
    obtain⟨q1,q2⟩:=kz7 h.rel hr (r':=r.takeR (st+m.toNat)) (o:=0) g2 g3 (by omega) (fun i o hi=>by rw[Nat.zero_add];exact g4 i o (by omega))
    rw[Nat.zero_mul,Nat.add_zero]at q1 q2
    unfold Oper.wp
    have hrun:(execOp a.eval ⟨dst,.slice t x none (some hi) none,type,pos,after,guard⟩).run P w = .ok (.value (.slice (some ad) m.toNat cap)) w:=by
     refine ja7 (x:=Instr.sliceAt t (a.eval x) none (some (a.eval hi)) none) ?_
     rw[hv,hmv,run_sliceAt_slice w t _ _ _ _ (by rw[hel];exact hu),run_slice_h w t _ n cap (by rw[hel];exact hu) k m w1 (by omega),hel,rb7 hT hke]
     simp only[Result.andThen,sliced,Nat.sub_zero,Nat.zero_mul]
     split
     ·rfl
     ·rw[k5 (by omega)];simp[addr_add]
    rw[hrun]
    refine hn _ _ _ _ (h.put (r:=.c (.h σ.H.length st m.toNat)) q1 q2 hd ?_) (fun _ _=>ac7.refl _ _) ⟨by simp[da7],q2,pb7 _ _ _⟩ w5
    refine⟨⟨by simp[da7],rfl⟩,fun fz t3 s3 r3 hr3=>?_⟩
    rcases gg7 hr3 with ⟨-,e3⟩ | ⟨e1,-⟩
    ·cases e3
     have n1:(M.upd σ.H.length (M.phi id) (M.off id)).phi σ.H.length=M.phi id:=if_pos rfl
     have n2:(M.upd σ.H.length (M.phi id) (M.off id)).off σ.H.length=M.off id:=if_pos rfl
     exact⟨by rw[g1];exact Nat.le_refl _,fun _=>⟨cap,cur,ad,rfl,by omega,k2,by rw[n1];exact k3,by rw[n2];exact k4,by rw[n1,n2];exact k5⟩⟩
    ·exact absurd rfl e1
   ·exact base hw
  ·rename_i t x hi mx
   split at hw
   ·rename_i id st n k m k2 m2 hx hhi hmx
    rw[if_pos hwt]
    have hmv:=ma7 (eb7 h hhi)
    have hmv2:=ma7 (eb7 h hmx)
    obtain⟨M',v',r',H',r0,r1,r2,r3,r4,r5⟩:=ylb7 hT h.rel t (k:=k) (k2:=k2) (eb7 h hx) hw
    have hex:(execOp a.eval ⟨dst,.slice t x none (some hi) (some mx),type,pos,after,guard⟩).run P w = .ok (.value v') w:=by
     refine ja7 (x:=Instr.sliceAt t (a.eval x) none (some (a.eval hi)) (some (a.eval mx))) ?_
     rw[hmv,hmv2];exact r0
    unfold Oper.wp
    rw[hex]
    exact hn _ _ _ _ (h.put r1 r2 hd r3) (fun _ _=>ac7.refl _ _) ⟨r4,r2,pb7 _ _ _⟩ r5
   ·exact base hw
  ·exact base hw
end
def leA (k:Nat) (x y:AV):Bool :=
 match y with
 | .junk=>true
 | .int k n=>match x with
  | .int k' m=>decide (k'=k∧m=n)
  | _=>false
 | .bool b=>match x with
  | .bool a=>decide (a=b)
  | _=>false
 | .flt b=>match x with
  | .flt a=>decide (a=b)
  | _=>false
 | .str b=>match x with
  | .str a=>decide (a=b)
  | _=>false
 | .nilp=>match x with
  | .nilp=>true
  | _=>false
 | .nils=>match x with
  | .nils=>true
  | _=>false
 | .ptr id n i o=>match x with
  | .ptr id' n' i' o'=>decide (id'=id∧n'=n∧i'=i∧o'=o)
  | _=>false
 | .h id st n=>match x with
  | .h id' st' n'=>decide (id'=id∧st'=st∧n'=n)
  | _=>false
 | .sl n sz g=>match k with
  | 0=>false
  | k+1=>match x with
   | .sl n' sz' f=>decide (n'=n∧sz'=sz)&&(List.range n).all fun i=>(List.range sz).all fun j=>leA k (f i j) (g i j)
   | _=>false
 | .rp n g=>match k with
  | 0=>false
  | k+1=>match x with
   | .rp n' f=>decide (n'=n)&&(List.range n).all fun j=>leA k (f j) (g j)
   | _=>false
 | _=>false
def leL (k:Nat):List AV→List AV→Bool
 | [],[]=>true
 | a::l,b::m=>leA k a b&&leL k l m
 | _,_=>false
def mjb7 (k:Nat):RV→RV→Bool
 | _,.c .junk=>true
 | .c a,.c b=>leA k a b
 | .agg l,.agg m=>leL k l m
 | .fn f l nb,.fn g m mb=>decide (f=g∧nb=mb)&&leL k l m
 | .ifc t (.c a),.ifc t' (.c b)=>decide (t=t')&&leA k a b
 | .ifc t (.agg a),.ifc t' (.agg b)=>decide (t=t')&&leL k a b
 | _,_=>false
def fib7 (k:Nat):List RV→List RV→Bool
 | [],[]=>true
 | a::l,b::m=>mjb7 k a b&&fib7 k l m
 | _,_=>false
def leR (k:Nat) (x y:RV):Bool :=
 match y with
 | .tup m=>match x with
  | .tup l=>fib7 k l m
  | _=>false
 | y=>mjb7 k x y
def htb7 (k:Nat):Root→Root→Bool
 | _,.dead=>true
 | .live fz t sz r,.live fz' t' sz' r'=>decide (fz'=fz∧t'=t∧sz'=sz∧r'.len=r.len∧r'.one=r.one∧r'.isBox=r.isBox)&&(List.range r.len).all fun i=>(List.range sz).all fun o=>leA k (r.get i o) (r'.get i o)
 | .dead,.live .. => false
def leH (k:Nat) (H H':List Root):Bool:=decide (H.length=H'.length)&&(List.range H.length).all fun id=>htb7 k (aa7 H id) (aa7 H' id)
noncomputable def leT (k nt:Nat) (tm tm':Tm):Bool:=(tm'.all fun e=>decide (e.1<nt))&&(List.range nt).all fun t=>decide ((lkF tm' t).1=(lkF tm t).1)&&leR k (lkF tm t).2 (lkF tm' t).2
noncomputable def leS (k nt:Nat) (σ σ':AS):Bool:=leH k σ.H σ'.H&&leT k nt σ.tm σ'.tm
section
variable {P:Program} {ty:Ty} {E:Env} {nt n:Nat} {M:Mp} {H H':List Root} {σ σ':AS} {a:Act} {w:World}
theorem vg7 {rho:Nat→Prop}:∀(k:Nat) {x y:AV}{v:Value},leA k x y=true→lb7 rho w x v→lb7 rho w y v
 | k,x,y,v,h,c=>by
  unfold leA at h
  cases y <;> simp only at h
  case junk=>trivial
  case sl n sz g =>
   cases k with
   | zero=>cases h
   | succ k =>
    cases x <;> simp only at h
    case sl n' sz' f =>
     simp only[Bool.and_eq_true,decide_eq_true_eq,List.all_eq_true,List.mem_range]at h
     obtain⟨⟨rfl,rfl⟩,h⟩:=h
     obtain⟨a,b,off,cc,h1,h2,h3,h4,h5⟩:=c
     refine⟨a,b,off,cc,h1,h2,h3,h4,fun i hi j hj=>?_⟩
     obtain⟨u,u1,u2⟩:=h5 i hi j hj
     exact⟨u,u1,vg7 k (h i hi j hj) u2⟩
    all_goals cases h
  case rp n g =>
   cases k with
   | zero=>cases h
   | succ k =>
    cases x <;> simp only at h
    case rp n' f =>
     simp only[Bool.and_eq_true,decide_eq_true_eq,List.all_eq_true,List.mem_range]at h
     obtain⟨rfl,h⟩:=h
     obtain⟨b,off,h1,h2,h3⟩:=c
     refine⟨b,off,h1,h2,fun j hj=>?_⟩
     obtain⟨u,u1,u2⟩:=h3 j hj
     exact⟨u,u1,vg7 k (h j hj) u2⟩
    all_goals cases h
  all_goals first | (cases h;done) | (cases x <;> (try simp only at h) <;> first | (cases h;done) | exact c | (simp only[decide_eq_true_eq]at h;first | (subst h;exact c) | (obtain⟨rfl,rfl⟩:=h;exact c) | exact c.elim))
def ym7 (H H':List Root):Prop:=H.length=H'.length∧∀id fz t sz r',aa7 H' id = .live fz t sz r'→∃r,aa7 H id = .live fz t sz r∧r.len=r'.len
theorem sv7 (hs:ym7 H H') (k:Nat) {x y:AV}{v:Value}(h:leA k x y=true) (c:Con M H w x v):Con M H' w y v:=by
 have keep:∀z,Con M H w z v→(∀n sz f,z ≠ .sl n sz f)→(∀n f,z ≠ .rp n f)→Con M H' w z v:=fun z c n1 n2=>by
  cases z with
  | ptr id n i o =>
   refine⟨⟨hs.1 ▸ c.1.1,c.1.2⟩,fun fz t sz r hr=>?_⟩
   obtain⟨r0,k1,k2⟩:=hs.2 _ _ _ _ _ hr
   have:=c.2 _ _ _ _ k1
   rw[k2]at this;exact this
  | h id st len =>
   refine⟨⟨hs.1 ▸ c.1.1,c.1.2⟩,fun fz t sz r hr=>?_⟩
   obtain⟨r0,k1,k2⟩:=hs.2 _ _ _ _ _ hr
   have:=c.2 _ _ _ _ k1
   rw[k2]at this;exact this
  | _=>exact c
 cases y with
 | sl n sz g =>
  have c0:lb7 M.rho w x v:=by
   unfold leA at h
   try simp only at h
   cases k with
   | zero=>cases h
   | succ k=>cases x <;> first | exact c | cases h
  exact vg7 k h c0
 | rp n g =>
  have c0:lb7 M.rho w x v:=by
   unfold leA at h
   try simp only at h
   cases k with
   | zero=>cases h
   | succ k=>cases x <;> first | exact c | cases h
  exact vg7 k h c0
 | junk=>trivial
 | ptr id n i o =>
  refine keep _ ?_ (fun _ _ _ e=>by cases e) (fun _ _ e=>by cases e)
  unfold leA at h;(try simp only at h)
  cases x <;> first | (cases h;done) | (simp only[decide_eq_true_eq]at h;obtain⟨rfl,rfl,rfl,rfl⟩:=h;exact c)
 | h id st n =>
  refine keep _ ?_ (fun _ _ _ e=>by cases e) (fun _ _ e=>by cases e)
  unfold leA at h;(try simp only at h)
  cases x <;> first | (cases h;done) | (simp only[decide_eq_true_eq]at h;obtain⟨rfl,rfl,rfl⟩:=h;exact c)
 | int k2 n =>
  unfold leA at h;(try simp only at h)
  cases x <;> first | (cases h;done) | (simp only[decide_eq_true_eq]at h;obtain⟨rfl,rfl⟩:=h;exact c)
 | bool n =>
  unfold leA at h;(try simp only at h)
  cases x <;> first | (cases h;done) | (simp only[decide_eq_true_eq]at h;subst h;exact c)
 | flt n =>
  unfold leA at h;(try simp only at h)
  cases x <;> first | (cases h;done) | (simp only[decide_eq_true_eq]at h;subst h;exact c)
 | str n =>
  unfold leA at h;(try simp only at h)
  cases x <;> first | (cases h;done) | (simp only[decide_eq_true_eq]at h;subst h;exact c)
 | nilp =>
  unfold leA at h;(try simp only at h)
  cases x <;> first | exact c | cases h
 | nils =>
  unfold leA at h;(try simp only at h)
  cases x <;> first | exact c | cases h
 | _=>unfold leA at h;(try simp only at h);cases h
theorem zn7 (hs:ym7 H H') (k:Nat):∀{l m:List AV}{vs:List Value},leL k l m=true→mb7 M H w l vs→mb7 M H' w m vs
 | [],[],_,_,c=>c
 | _::_,_::_,_,h,⟨v,r,e,c1,c2⟩=>by
  simp only[leL,Bool.and_eq_true]at h
  exact⟨v,r,e,sv7 hs k h.1 c1,zn7 hs k h.2 c2⟩
 | [],_::_,_,h,_=>by cases h
 | _::_,[],_,h,_=>by cases h
theorem tv7 (hs:ym7 H H') (k:Nat) {x y:RV}{v:Value}(h:mjb7 k x y=true) (c:ha7 M H w x v):ha7 M H' w y v:=by
 unfold mjb7 at h
 split at h
 ·trivial
 ·exact sv7 hs k h c
 ·obtain⟨vs,e,c⟩:=c;exact⟨vs,e,zn7 hs k h c⟩
 ·simp only[Bool.and_eq_true,decide_eq_true_eq]at h
  obtain⟨⟨rfl,rfl⟩,h⟩:=h
  obtain⟨vs,e,c⟩:=c;exact⟨vs,e,zn7 hs k h c⟩
 ·simp only[Bool.and_eq_true,decide_eq_true_eq]at h
  obtain⟨rfl,h⟩:=h
  obtain⟨u,e,c⟩:=c;exact⟨u,e,sv7 hs k h c⟩
 ·simp only[Bool.and_eq_true,decide_eq_true_eq]at h
  obtain⟨rfl,h⟩:=h
  obtain⟨u,e,vs,e2,c⟩:=c;exact⟨u,e,vs,e2,zn7 hs k h c⟩
 ·cases h
theorem uv7 (hs:ym7 H H') (k:Nat):∀{l m:List RV}{vs:List Value},fib7 k l m=true→ab7 M H w l vs→ab7 M H' w m vs
 | [],[],_,_,c=>c
 | _::_,_::_,_,h,⟨v,r,e,c1,c2⟩=>by
  simp only[fib7,Bool.and_eq_true]at h
  exact⟨v,r,e,tv7 hs k h.1 c1,uv7 hs k h.2 c2⟩
 | [],_::_,_,h,_=>by cases h
 | _::_,[],_,h,_=>by cases h
theorem du7 (hs:ym7 H H') (k:Nat) {x y:RV}{v:Value}(h:leR k x y=true) (c:ha7 M H w x v):ha7 M H' w y v:=by
 unfold leR at h
 split at h
 ·split at h
  ·obtain⟨vs,e,c⟩:=c;exact⟨vs,e,uv7 hs k h c⟩
  ·cases h
 ·exact tv7 hs k h c
theorem cbb7 {k:Nat}(h:leH k H H'=true) {id:Nat}{fz:Bool}{t:TypeId}{sz:Nat}{r':Row}(hr:aa7 H' id = .live fz t sz r'):∃r,aa7 H id = .live fz t sz r∧r'.len=r.len∧r'.one=r.one∧r'.isBox=r.isBox∧∀i,i<r.len→∀o,o<sz→leA k (r.get i o) (r'.get i o)=true:=by
 unfold leH at h
 simp only[Bool.and_eq_true,decide_eq_true_eq,List.all_eq_true,List.mem_range]at h
 have hl:=h.2 id (by rw[h.1];exact yb7 hr)
 rw[hr]at hl
 cases hh:aa7 H id with
 | dead=>rw[hh]at hl;cases hl
 | live fz2 t2 sz2 r =>
  rw[hh]at hl
  simp only[htb7,Bool.and_eq_true,decide_eq_true_eq,List.all_eq_true,List.mem_range]at hl
  obtain⟨⟨rfl,rfl,rfl,e1,e2,e3⟩,hc⟩:=hl
  exact⟨r,rfl,e1,e2,e3,hc⟩
theorem kd7 {k:Nat}(h:leH k H H'=true):ym7 H H':=by
 refine⟨?_,fun id fz t sz r' hr=>?_⟩
 ·unfold leH at h
  simp only[Bool.and_eq_true,decide_eq_true_eq]at h
  exact h.1
 ·obtain⟨r,h1,h2,-⟩:=cbb7 h hr
  exact⟨r,h1,h2.symm⟩
theorem Rel.le {k:Nat}(hl:leH k H H'=true) (h:Rel E M H w):Rel E M H' w:=by
 have lift:∀{id:Nat} {fz:Bool} {t:TypeId} {sz:Nat} {r':Row},aa7 H' id = .live fz t sz r'→∃r,aa7 H id = .live fz t sz r:=fun hr=>by
  obtain⟨r,h1,-⟩:=cbb7 hl hr;exact⟨r,h1⟩
 refine⟨h.bel,fun id fz t sz r hr=>?_,fun id fz t sz r hr=>?_,fun id t sz r hr=>?_,fun id t sz r hr=>?_,fun i j t s r t' s' r' hi hj he=>?_,h.rlt,h.src,h.tau.keep rfl (fun _ _ _=>rfl) (fun b q hq=>(h.tau.new b q hq).2) fun b q j fz t s r hq hj=>?_⟩
 ·obtain⟨r0,h0⟩:=lift hr;exact h.low _ _ _ _ _ h0
 ·obtain⟨r0,h0,e1,e2,e3,hc⟩:=cbb7 hl hr
  obtain⟨cur,k1,k2,k3,k4,k5,k6⟩:=h.row _ _ _ _ _ h0
  refine⟨cur,k1,k2,by rw[e1];exact k3,k4,by rw[e2];exact k5,fun i hi o ho=>?_⟩
  rw[e1]at hi
  obtain⟨v,g1,g2,g3⟩:=k6 i hi o ho
  refine⟨v,g1,g2, ?_⟩
  unfold vd7 at g3 ⊢
  rw[e3]
  split
  ·rename_i hb;rw[if_pos hb]at g3;exact sv7 (kd7 hl) k (hc i hi o ho) g3
  ·rename_i hb;rw[if_neg hb]at g3;exact vg7 k (hc i hi o ho) g3
 ·obtain⟨r0,h0⟩:=lift hr;exact h.froz _ _ _ _ h0
 ·obtain⟨r0,h0⟩:=lift hr;exact h.thaw _ _ _ _ h0
 ·obtain⟨r0,h0⟩:=lift hi;obtain⟨r1,h1⟩:=lift hj;exact h.inj _ _ _ _ _ _ _ _ h0 h1 he
 ·obtain⟨r0,h0⟩:=lift hj;exact h.tau.row _ _ _ _ _ _ _ hq h0
theorem ds7:∀(tm:Tm) (t:Nat),(∀e∈tm,e.1≠t)→lk tm t=(true,.c .junk)
 | [],_,_=>rfl
 | (k,v)::l,t,h=>by
  have h1:k≠t:=h _ (List.mem_cons_self ..)
  simp only[lk]
  rw[if_neg h1]
  exact ds7 l t fun e he=>h e (List.mem_cons_of_mem _ he)
theorem Kp.le {k:Nat}(hl:leH k H H'=true):Kp M H w M H' w:=fun x v c=>by
 have hs:=kd7 hl
 cases x with
 | ptr id n i o =>
  refine⟨⟨hs.1 ▸ c.1.1,c.1.2⟩,fun fz t sz r hr=>?_⟩
  obtain⟨r0,k1,k2⟩:=hs.2 _ _ _ _ _ hr
  have:=c.2 _ _ _ _ k1
  rw[k2]at this;exact this
 | h id st len =>
  refine⟨⟨hs.1 ▸ c.1.1,c.1.2⟩,fun fz t sz r hr=>?_⟩
  obtain⟨r0,k1,k2⟩:=hs.2 _ _ _ _ _ hr
  have:=c.2 _ _ _ _ k1
  rw[k2]at this;exact this
 | _=>exact c
theorem St.le {k:Nat}(hl:leS k nt σ σ'=true) (h:St E nt M σ a w):St E nt M σ' a w:=by
 unfold leS leT at hl
 simp only[yp7,Bool.and_eq_true,decide_eq_true_eq,List.all_eq_true,List.mem_range]at hl
 obtain⟨h1,h2,h3⟩:=hl
 refine⟨h.rel.le h1,fun t ht=>?_,fun t ht=>?_,h.sz,h.df⟩
 ·by_cases hb:t<nt
  ·obtain⟨e,hc⟩:=h3 t hb
   rw[e]at ht
   exact du7 (kd7 h1) k hc (h.tms t ht)
  ·rw[ds7 σ'.tm t fun e he hh=>hb (hh ▸ h2 e he)];trivial
 ·by_cases hb:t<nt
  ·obtain⟨e,hc⟩:=h3 t hb
   rw[e]at ht
   exact h.off t ht
  ·rw[ds7 σ'.tm t fun e he hh=>hb (hh ▸ h2 e he)]at ht;cases ht
end
def dtb7:AV→List Nat
 | .ptr id .. => [id]
 | .h id .. => [id]
 | _=>[]
def tmb7:List AV→List Nat
 | []=>[]
 | a::l=>dtb7 a++tmb7 l
mutual
def xdb7:RV→List Nat
 | .c a=>dtb7 a
 | .agg l=>tmb7 l
 | .fn _ l _=>tmb7 l
 | .tup l=>lnb7 l
 | .ifc _ x=>xdb7 x
def lnb7:List RV→List Nat
 | []=>[]
 | a::l=>xdb7 a++lnb7 l
end
def rkb7:List (List AV)→List Nat
 | []=>[]
 | a::l=>tmb7 a++rkb7 l
def tkb7:Root→List Nat
 | .live _ _ _ (.box l)=>tmb7 l
 | .live _ _ _ (.own l)=>rkb7 l
 | _=>[]
def dm7 (n:Nat) (H:List Root):Nat→List Nat→List Nat→List Nat
 | 0,_,acc=>acc.reverse
 | _+1,[],acc=>acc.reverse
 | k+1,id::l,acc=>if Nat.blt id n || acc.contains id then dm7 n H k l acc else dm7 n H k (tkb7 (aa7 H id)++l) (id::acc)
noncomputable def idsT (tm:Tm):List Nat→List Nat
 | []=>[]
 | t::l=>xdb7 (lkF tm t).2++idsT tm l
def xcb7:List Root→List Nat
 | []=>[]
 | r::l=>tkb7 r++xcb7 l
noncomputable def canon (n nt:Nat) (σ:AS):List Nat:=dm7 n σ.H 100000 (idsT σ.tm (List.range nt)++xcb7 (σ.H.take n)) []
noncomputable def normS (n nt:Nat) (σ:AS):AS:=xrb7 n (canon n nt σ) ⟨fxF σ.tm (List.range nt),σ.H⟩
section
variable {E:Env} {nt n:Nat} {M:Mp} {σ:AS} {a:Act} {w:World}
theorem St.fx (h:St E nt M σ a w) (ks:List Nat):St E nt M ⟨fxT σ.tm ks,σ.H⟩ a w:=by
 refine⟨h.rel,fun t ht=>?_,fun t ht=>?_,h.sz,h.df⟩
 ·have ht:(lk (fxT σ.tm ks) t).1=true:=ht
  show ha7 M σ.H w (lk (fxT σ.tm ks) t).2 _
  rcases wk7 σ.tm ks t with ⟨-,e⟩ | ⟨-,e⟩
  ·rw[e]at ht ⊢; exact h.tms t ht
  ·rw[e];trivial
 ·have ht:(lk (fxT σ.tm ks) t).1=false:=ht
  rcases wk7 σ.tm ks t with ⟨-,e⟩ | ⟨-,e⟩
  ·rw[e]at ht;exact h.off t ht
  ·rw[e]at ht;cases ht
theorem St.norm (h:St E nt M σ a w) (hn:n≤σ.H.length) (ho:okI n (canon n nt σ)=true):St E nt (ix7 n (canon n nt σ) M) (normS n nt σ) a w:=by
 unfold normS
 rw[tab7]
 exact (h.fx (List.range nt)).ren hn ho
theorem Kp.norm {M0:Mp}{H0:List Root}{w0:World}(h:Kp M0 H0 w0 M σ.H w) (hn:H0.length≤σ.H.length):Kp M0 H0 w0 (ix7 H0.length (canon H0.length nt σ) M) (normS H0.length nt σ).H w:=fun x v c=>by
 have:=(h x v c).ren (ids:=canon H0.length nt σ) hn
 rw[yh7 (qj7 c)]at this
 exact this
end
def fcN {β:Type} (n:Nat) (k:Nat→β):β:=match n with
 | 0=>k 0
 | m+1=>k (m+1)
def fcI {β:Type} (n:Int) (k:Int→β):β:=match n with
 | .ofNat m=>fcN m fun m=>k (.ofNat m)
 | .negSucc m=>fcN m fun m=>k (.negSucc m)
def fcB {β:Type} (b:Bool) (k:Bool→β):β:=match b with
 | true=>k true
 | false=>k false
def fcL {α β:Type} (fc:α→(α→β)→β):List α→(List α→β)→β
 | [],k=>k []
 | a::l,k=>fc a fun a=>fcL fc l fun l=>k (a::l)
def fcG {α β:Type} (g:Nat→(α→β)→β):Nat→Nat→(List α→β)→β
 | _,0,k=>k []
 | i,n+1,k=>g i fun a=>fcG g (i+1) n fun l=>k (a::l)
def fcA {β:Type}:Nat→AV→(AV→β)→β
 | 0,a,k=>k a
 | d+1,a,k=>match a with
  | .int kk n=>fcI n fun n=>k (.int kk n)
  | .bool b=>fcB b fun b=>k (.bool b)
  | .flt n=>fcN n fun n=>k (.flt n)
  | .ptr id n i o=>fcN id fun id=>fcN n fun n=>fcN i fun i=>fcN o fun o=>k (.ptr id n i o)
  | .h id st n=>fcN id fun id=>fcN st fun st=>fcN n fun n=>k (.h id st n)
  | .sl n sz f=>fcN n fun n=>fcN sz fun sz=>fcG (fun i k=>fcG (fun j k=>fcA d (f i j) k) 0 sz k) 0 n fun L=>k (.sl n sz fun i j=>nth (L.getD i []) j)
  | a=>k a
def fcR {β:Type}:Nat→RV→(RV→β)→β
 | 0,x,k=>k x
 | d+1,x,k=>match x with
  | .c a=>fcA 8 a fun a=>k (.c a)
  | .agg l=>fcL (fcA 8) l fun l=>k (.agg l)
  | .fn f l nb=>fcL (fcA 8) l fun l=>fcN nb fun nb=>k (.fn f l nb)
  | .tup l=>fcL (fcR d) l fun l=>k (.tup l)
  | .ifc t x=>fcR d x fun x=>k (.ifc t x)
def fcW {β:Type} (r:Row) (k:Row→β):β:=match r with
 | .box l=>fcL (fcA 8) l fun l=>k (.box l)
 | .ints kk l=>fcL fcI l fun l=>k (.ints kk l)
 | .bools l=>fcL fcB l fun l=>k (.bools l)
 | .gen l=>fcL (fcL (fcA 8)) l fun l=>k (.gen l)
 | .own l=>fcL (fcL (fcA 8)) l fun l=>k (.own l)
def grb7 {β:Type} (r:Root) (k:Root→β):β:=match r with
 | .live fz t sz r=>fcB fz fun fz=>fcW r fun r=>k (.live fz t sz r)
 | .dead=>k .dead
def fcT {β:Type} (x:Nat×Bool×RV) (k:Nat×Bool×RV→β):β:=match x with
 | (t,g,r)=>fcN t fun t=>fcB g fun g=>fcR 8 r fun r=>k (t,g,r)
def fcS {β:Type} (σ:AS) (k:AS→β):β:=match σ with
 | ⟨tm,H⟩=>fcL fcT tm fun tm=>fcL grb7 H fun H=>k ⟨tm,H⟩
def gz7 {α:Type} (fc:α→(α→Bool)→Bool):Prop:=∀a k,fc a k=true→∃b,k b=true
theorem de7:gz7 fcN:=fun n k h=>by cases n <;> exact⟨_,h⟩
theorem xeb7:gz7 fcI:=fun n k h=>by
 unfold fcI at h
 split at h <;> (obtain⟨m,h⟩:=de7 _ _ h;exact⟨_,h⟩)
theorem pv7:gz7 fcB:=fun b k h=>by cases b <;> exact⟨_,h⟩
theorem ve7 {α:Type}{fc:α→(α→Bool)→Bool}(hf:gz7 fc):gz7 (fcL fc):=fun l=>by
 induction l with
 | nil=>intro k h;exact⟨_,h⟩
 | cons a l ih =>
  intro k h
  obtain⟨b,h⟩:=hf _ _ h
  obtain⟨m,h⟩:=ih _ h
  exact⟨_,h⟩
theorem cy7 {α:Type}{g:Nat→(α→Bool)→Bool}(hg:∀i k,g i k=true→∃a,k a=true):∀(n i:Nat) (k:List α→Bool),fcG g i n k=true→∃l,k l=true
 | 0,i,k,h=>⟨_,h⟩
 | n+1,i,k,h=>by
  obtain⟨b,h⟩:=hg _ _ h
  obtain⟨m,h⟩:=cy7 hg n (i+1) _ h
  exact⟨_,h⟩
theorem jl7:∀d,gz7 (fcA d)
 | 0,a,k,h=>⟨_,h⟩
 | d+1,a,k,h=>by
  unfold fcA at h
  split at h
  ·obtain⟨_,h⟩:=xeb7 _ _ h;exact⟨_,h⟩
  ·obtain⟨_,h⟩:=pv7 _ _ h;exact⟨_,h⟩
  ·obtain⟨_,h⟩:=de7 _ _ h;exact⟨_,h⟩
  ·obtain⟨_,h⟩:=de7 _ _ h;obtain⟨_,h⟩:=de7 _ _ h;obtain⟨_,h⟩:=de7 _ _ h;obtain⟨_,h⟩:=de7 _ _ h;exact⟨_,h⟩
  ·obtain⟨_,h⟩:=de7 _ _ h;obtain⟨_,h⟩:=de7 _ _ h;obtain⟨_,h⟩:=de7 _ _ h;exact⟨_,h⟩
  ·obtain⟨n,h⟩:=de7 _ _ h
   obtain⟨sz,h⟩:=de7 _ _ h
   obtain⟨L,h⟩:=cy7 (fun i k h=>cy7 (fun j k h=>jl7 d _ _ h) _ _ _ h) _ _ _ h
   exact⟨_,h⟩
  ·exact⟨_,h⟩
theorem mz7:∀d,gz7 (fcR d)
 | 0,a,k,h=>⟨_,h⟩
 | d+1,a,k,h=>by
  unfold fcR at h
  split at h
  ·obtain⟨_,h⟩:=jl7 _ _ _ h;exact⟨_,h⟩
  ·obtain⟨_,h⟩:=ve7 (jl7 _) _ _ h;exact⟨_,h⟩
  ·obtain⟨_,h⟩:=ve7 (jl7 _) _ _ h
   obtain⟨_,h⟩:=de7 _ _ h;exact⟨_,h⟩
  ·obtain⟨_,h⟩:=ve7 (mz7 d) _ _ h;exact⟨_,h⟩
  ·obtain⟨_,h⟩:=mz7 d _ _ h;exact⟨_,h⟩
theorem smb7:gz7 fcW:=fun r k h=>by
 unfold fcW at h
 split at h
 ·obtain⟨_,h⟩:=ve7 (jl7 _) _ _ h;exact⟨_,h⟩
 ·obtain⟨_,h⟩:=ve7 xeb7 _ _ h;exact⟨_,h⟩
 ·obtain⟨_,h⟩:=ve7 pv7 _ _ h;exact⟨_,h⟩
 ·obtain⟨_,h⟩:=ve7 (ve7 (jl7 _)) _ _ h;exact⟨_,h⟩
 ·obtain⟨_,h⟩:=ve7 (ve7 (jl7 _)) _ _ h;exact⟨_,h⟩
theorem phb7:gz7 grb7:=fun r k h=>by
 unfold grb7 at h
 split at h
 ·obtain⟨_,h⟩:=pv7 _ _ h;obtain⟨_,h⟩:=smb7 _ _ h;exact⟨_,h⟩
 ·exact⟨_,h⟩
theorem qlb7:gz7 fcT:=fun x k h=>by
 obtain⟨t,g,r⟩:=x
 unfold fcT at h
 obtain⟨_,h⟩:=de7 _ _ h
 obtain⟨_,h⟩:=pv7 _ _ h
 obtain⟨_,h⟩:=mz7 _ _ _ h
 exact⟨_,h⟩
theorem yu7:gz7 fcS:=fun σ k h=>by
 obtain⟨tm,H⟩:=σ
 unfold fcS at h
 obtain⟨_,h⟩:=ve7 qlb7 _ _ h
 obtain⟨_,h⟩:=ve7 phb7 _ _ h
 exact⟨_,h⟩
def hob7:Bool→Bool→Bool
 | true,true=>true
 | false,false=>true
 | _,_=>false
theorem ls7 {a b:Bool}(h:hob7 a b=true):a=b:=by cases a <;> cases b <;> first | rfl | cases h
noncomputable def canonK (n:Nat) (ks:List Nat) (σ:AS):List Nat:=dm7 n σ.H 100000 (idsT σ.tm ks++xcb7 (σ.H.take n)) []
noncomputable def normK (n:Nat) (ks:List Nat) (σ:AS):AS:=xrb7 n (canonK n ks σ) ⟨fxF σ.tm ks,σ.H⟩
def nnb7 (k:Nat):Tm→Tm→Bool
 | [],[]=>true
 | (t,g,x)::l,(t',g',x')::m=>Nat.beq t t'&&hob7 g g'&&leR k x x'&&nnb7 k l m
 | _,_=>false
noncomputable def leafK (n:Nat) (ks:List Nat) (c σ:AS):Bool:=decide (n≤σ.H.length)&&okI n (canonK n ks σ)&&(leH 8 (normK n ks σ).H c.H&&nnb7 8 (normK n ks σ).tm c.tm)
theorem ft7 {k:Nat}:∀{l m:Tm},nnb7 k l m=true→∀t,lk m t=(true,.c .junk)∨((lk l t).1=(lk m t).1∧leR k (lk l t).2 (lk m t).2=true)
 | [],[],_,_=>.inl rfl
 | (t',g,x)::l,(t2,g',x')::m,h,t=>by
  simp only[nnb7,Bool.and_eq_true]at h
  obtain⟨⟨⟨h1,h2⟩,h3⟩,h4⟩:=h
  obtain rfl:=Nat.eq_of_beq_eq_true h1
  obtain rfl:=ls7 h2
  simp only[lk]
  split
  ·exact .inr ⟨rfl,h3⟩
  ·exact ft7 h4 t
 | [],_::_,h,_=>by cases h
 | _::_,[],h,_=>by cases h
section
variable {E:Env} {nt n:Nat} {M:Mp} {σ c:AS} {a:Act} {w:World} {ks:List Nat}
theorem St.normK (h:St E nt M σ a w) (hn:n≤σ.H.length) (ho:okI n (canonK n ks σ)=true):St E nt (ix7 n (canonK n ks σ) M) (Ab.normK n ks σ) a w:=by
 unfold Ab.normK
 rw[tab7]
 exact (h.fx ks).ren hn ho
theorem Kp.normK {M0:Mp}{H0:List Root}{w0:World}(h:Kp M0 H0 w0 M σ.H w) (hn:H0.length≤σ.H.length):Kp M0 H0 w0 (ix7 H0.length (canonK H0.length ks σ) M) (Ab.normK H0.length ks σ).H w:=fun x v c=>by
 have:=(h x v c).ren (ids:=canonK H0.length ks σ) hn
 rw[yh7 (qj7 c)]at this
 exact this
theorem St.leK {k:Nat}(h1:leH k σ.H c.H=true) (h2:nnb7 k σ.tm c.tm=true) (h:St E nt M σ a w):St E nt M c a w:=by
 refine⟨h.rel.le h1,fun t ht=>?_,fun t ht=>?_,h.sz,h.df⟩
 ·rcases ft7 h2 t with e | ⟨e,hc⟩
  ·rw[e];trivial
  ·rw[← e]at ht
   exact du7 (kd7 h1) k hc (h.tms t ht)
 ·rcases ft7 h2 t with e | ⟨e,hc⟩
  ·rw[e]at ht;cases ht
  ·rw[← e]at ht
   exact h.off t ht
end
end Go.Proofs.YtabadfkikdefeaaGreat.Ab
