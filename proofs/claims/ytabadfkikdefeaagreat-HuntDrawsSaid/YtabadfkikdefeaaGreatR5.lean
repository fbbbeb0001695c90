/- Texts of the proof, joined: Exp, RunC, RunF, Cat, RunX, Ord, SumL, RiA, RiB, RiC, Imp26, Sums26, RhA, RhB, RhC, RhD, RhE, RhF, RhG, RhH, RhI, RhJ. -/
import Derived.Test.YtabadfkikdefeaaGreatR4
set_option linter.all false
set_option maxRecDepth 100000
set_option maxHeartbeats 6400000
namespace Go.Proofs.YtabadfkikdefeaaGreat.Ab
open Go.RowKit
section
variable {P:Program} {ty:Ty} {call:eg7} {pu:Pu} {ops:Array Oper} {tm:Tm} {rd:Operand→Bool×RV} {H:List Root} {o:Oper}
theorem ijb7 {e:TyE}{p v:RV}{K:List Root→Bool}(h:dmb7 e H p v K=true):∃H',K H'=true:=by
 unfold dmb7 at h
 repeat' split at h
 all_goals first | (cases h;done) | (simp only[Bool.and_eq_true]at h;first | exact⟨_,h.2.2⟩ | exact⟨_,h.2.2.2⟩ | exact⟨_,h.2⟩)
theorem ajb7 {e:TypeId}{n:Nat}{ok:Bool}{l:List AV}{K:RV→List Root→Bool}(h:gmb7 ty e H n ok l K=true):∃r H',K r H'=true:=by
 unfold gmb7 at h
 repeat' split at h
 all_goals first | (cases h;done) | (simp only[Bool.and_eq_true]at h;first | exact⟨_,_,h.2.2.2⟩ | exact⟨_,_,h.2.2.2.2⟩ | exact⟨_,_,h.2⟩)
theorem ceb7 {k:TyK}{n c:RV}{K:RV→List Root→Bool}(h:ny7 ty k H n c K=true):∃r H',K r H'=true:=by
 unfold ny7 at h
 repeat' split at h
 all_goals first | (cases h;done) | (simp only[Bool.and_eq_true]at h;exact⟨_,_,h.2⟩)
theorem ygb7 {k:TyK}{s x:RV}{K:RV→List Root→Bool}(h:qnb7 ty k H s x K=true):∃r H',K r H'=true:=by
 unfold qnb7 at h
 repeat' split at h
 all_goals first | (cases h;done) | (simp only[Bool.and_eq_true]at h;first | exact absurd h.2 (by decide) | exact absurd h.2.2 (by decide) | exact⟨_,_,h.2⟩ | exact⟨_,_,h.2.2⟩ | exact⟨_,_,h.2.2.2⟩ | exact⟨_,_,h.2.2.2.2⟩)
def xd7 (call:eg7):Prop:=∀pu f args H K,call pu f args H K=true→∃r H',K r H'=true
theorem bgb7 (hx:xd7 call) {K:AS→Bool}(h:sab7 ty call pu tm rd H o K=true):∃σ,K σ=true:=by
 have lift:∀{d:Option Nat},(∃r H',K ⟨wb7 tm true d r,H'⟩=true)→∃σ,K σ=true:=fun ⟨r,H',h⟩=>⟨_,h⟩
 unfold sab7 at h
 split at h
 ·simp only[Bool.and_eq_true]at h;exact⟨_,h.2⟩
 ·simp only[Bool.and_eq_true]at h;exact⟨_,h.2⟩
 ·simp only[Bool.and_eq_true]at h
  obtain⟨H',h⟩:=ijb7 h.2
  exact⟨_,h⟩
 ·split at h
  ·exact lift (ajb7 h)
  ·cases h
 ·exact lift (ceb7 h)
 ·split at h
  ·split at h
   ·simp only[Bool.and_eq_true]at h;exact lift (ygb7 h.2.2)
   ·cases h
  ·split at h
   ·exact lift (hx _ _ _ _ _ h)
   ·cases h
  ·cases h
 ·cases h
theorem md7 (hx:xd7 call) {σ:AS}{K:AS→Bool}(h:opB ty call pu ops σ o K=true):∃σ,K σ=true:=by
 unfold opB at h
 split at h
 ·cases h
 ·simp only[Bool.and_eq_true]at h
  obtain⟨-,h⟩:=h
  split at h
  ·simp only[Bool.and_eq_true]at h;exact⟨_,h.2⟩
  ·split at h
   ·exact bgb7 hx h
   ·exact⟨_,h⟩
theorem whb7 {k:TyK}{H:List Root}{s x:RV}{K:RV→List Root→Bool}(h:ry7 ty k H s x K=true):∃r H',K r H'=true:=by
 unfold ry7 at h
 repeat' split at h
 all_goals first | (cases h;done) | (simp only[Bool.and_eq_true]at h;exact⟨_,_,h.2⟩)
theorem wm7 (hx:xd7 call) {σ:AS}{K:AS→Bool}(h:opX P ty call pu ops σ o K=true):∃σ,K σ=true:=by
 rw[teb7]at h
 unfold sob7 at h
 split at h
 case h_2=>exact md7 hx h
 split at h
 ·split at h
  ·exact⟨_,h⟩
  ·unfold wob7 at h
   split at h
   ·split at h
    ·split at h
     ·unfold rnb7 at h
      split at h
      ·simp only[Bool.and_eq_true]at h
       obtain⟨r,H',h⟩:=hx _ _ _ _ _ h.2
       exact⟨_,h⟩
      ·simp only[Bool.and_eq_true]at h
       obtain⟨r,H',h⟩:=hx _ _ _ _ _ h.2
       exact⟨_,h⟩
      ·cases h
     ·cases h
    ·split at h
     ·split at h
      ·simp only[Bool.and_eq_true]at h
       obtain⟨r,H',h⟩:=ydb7 h.2.2
       exact⟨_,h⟩
      split at h
      ·simp only[Bool.and_eq_true]at h
       obtain⟨r,H',h⟩:=bib7 h.2.2
       exact⟨_,h⟩
      ·exact md7 hx h
     ·exact md7 hx h
    ·split at h
     ·simp only[Bool.and_eq_true]at h
      obtain⟨r,H',h⟩:=whb7 h.2.2
      exact⟨_,h⟩
     ·exact md7 hx h
    ·exact md7 hx h
   ·split at h
    ·rw[Bool.or_eq_true]at h
     rcases h with h | h
     ·unfold gqb7 at h
      repeat' split at h
      all_goals first | (cases h;done) | (simp only[Bool.and_eq_true]at h;exact⟨_,h.2⟩)
     ·unfold yob7 at h
      repeat' split at h
      all_goals first | (cases h;done) | (simp only[Bool.and_eq_true]at h;exact⟨_,h.2⟩)
    ·exact md7 hx h
   ·split at h
    ·unfold mob7 at h
     repeat' split at h
     all_goals first | (cases h;done) | (simp only[Bool.and_eq_true]at h;exact⟨_,h.2⟩)
    ·exact md7 hx h
   ·exact md7 hx h
 ·exact md7 hx h
end
section
variable (P:Program) (ty:Ty) (call:eg7)
def nqb7:Op→Bool
 | .slice .. => true
 | .nilCheck _=>true
 | .index .. => true
 | .binOp op .. => match op with
  | .and=>true
  | .or=>true
  | .andNot=>true
  | .shl=>true
  | .shr=>true
  | _=>false
 | _=>false
def rgb7 (ops:Array Oper) (l:Array Bool):Option Nat :=
 (Region.ready .any ops l).find? fun i=>isV (ops.getD i default).op && !kob7 (ops.getD i default).op&&Region.free .any ops l i&&decide (i<ops.size) && !nqb7 (ops.getD i default).op
def rv7 (ops:Array Oper) (fins:List Nat) (l:Array Bool):Option Nat :=
 (Region.ready .any ops l).find? fun i=>isV (ops.getD i default).op&&(qh7 .any ops fins [i] l).isSome&&kob7 (ops.getD i default).op
noncomputable def pureN (ops:Array Oper) (l:Array Bool) (σ:AS):Option (Nat×RV) :=
 (Region.ready .any ops l).findSome? fun i =>
  if xib7 (ops.getD i default).op&&Region.free .any ops l i&&decide (i<ops.size) then
   match guardF σ.tm ops (ops.getD i default).guard with
   | some true=>(ckb7 P ty (rdF σ) σ.H (ops.getD i default).op).map fun r=>(i,r)
   | _=>none
  else none
noncomputable def expB (ops:Array Oper) (fins:List Nat) (L:AS→Bool):Nat→Bool→Array Bool→AS→Bool
 | 0,_,l,σ=>(Region.ready .any ops l).isEmpty&&L σ
 | n+1,dy,l,σ=>match rgb7 ops l with
  | some i=>opBF ty call (some none) ops σ (ops.getD i default) (fun σ'=>expB ops fins L n dy (l.setIfInBounds i true) σ')
  | none=>match pureN P ty ops l σ with
  | some (i,r)=>expB ops fins L n dy (l.setIfInBounds i true) ⟨wb7 σ.tm true (ops.getD i default).dst r,σ.H⟩
  | none=>match (if dy then none else rv7 ops fins l) with
  | some i=>opBF ty call (some none) ops σ (ops.getD i default) (fun σ'=>expB ops fins L n dy (l.setIfInBounds i true) σ')
  | none => !(Region.ready .any ops l).isEmpty&&(Region.ready .any ops l).all fun i=>decide (i<ops.size)&&opX P ty call (if dy || fins.contains i then none else some none) ops σ (ops.getD i default) (fun σ'=>expB ops fins L n (dy || fins.contains i) (l.setIfInBounds i true) σ')
abbrev pm7:=List (Nat×Bool×Array Bool×AS)
def iob7:List Bool→List Bool→Bool
 | [],[]=>true
 | a::l,b::m=>hob7 a b&&iob7 l m
 | _,_=>false
def oab7:pm7→Nat→Bool→Array Bool→Option AS
 | [],_,_,_=>none
 | (n',dy',l',c)::T,n,dy,l=>if Nat.beq n' n&&hob7 dy' dy&&iob7 l'.toList l.toList then some c else oab7 T n dy l
def apb7 (step:Nat→pm7→(pm7→Bool)→Bool):List Nat→pm7→(pm7→Bool)→Bool
 | [],T,k=>k T
 | i::is,T,k=>step i T (fun T'=>apb7 step is T' k)
noncomputable def expM (ks:List Nat) (ops:Array Oper) (fins:List Nat) (n0:Nat) (L:AS→Bool):Nat→Bool→Array Bool→AS→pm7→(pm7→Bool)→Bool
 | 0,dy,l,σ,T,k=>(Region.ready .any ops l).isEmpty&&(match oab7 T 0 dy l with
  | some c=>leafK n0 ks c σ&&k T
  | none=>fcS (normK n0 ks σ) fun c=>leafK n0 ks c σ&&L c&&k ((0,dy,l,c)::T))
 | n+1,dy,l,σ,T,k=>match rgb7 ops l with
  | some i=>opBF ty call (some none) ops σ (ops.getD i default) (fun σ'=>expM ks ops fins n0 L n dy (l.setIfInBounds i true) σ' T k)
  | none=>match pureN P ty ops l σ with
  | some (i,r)=>expM ks ops fins n0 L n dy (l.setIfInBounds i true) ⟨wb7 σ.tm true (ops.getD i default).dst r,σ.H⟩ T k
  | none=>match (if dy then none else rv7 ops fins l) with
  | some i=>opBF ty call (some none) ops σ (ops.getD i default) (fun σ'=>expM ks ops fins n0 L n dy (l.setIfInBounds i true) σ' T k)
  | none=>match Region.ready .any ops l with
   | []=>false
   | [i]=>decide (i<ops.size)&&opX P ty call (if dy || fins.contains i then none else some none) ops σ (ops.getD i default) (fun σ'=>expM ks ops fins n0 L n (dy || fins.contains i) (l.setIfInBounds i true) σ' T k)
   | is=>match oab7 T (n+1) dy l with
    | some c=>leafK n0 ks c σ&&k T
    | none=>fcS (normK n0 ks σ) fun c=>leafK n0 ks c σ&&apb7 (fun i T k=>decide (i<ops.size)&&opX P ty call (if dy || fins.contains i then none else some none) ops c (ops.getD i default) (fun σ'=>expM ks ops fins n0 L n (dy || fins.contains i) (l.setIfInBounds i true) σ' T k)) is T (fun T=>k ((n+1,dy,l,c)::T))
noncomputable def regB (nt:Nat) (ops:Array Oper) (q:Bool×List Nat×List Nat) (K:AS→Bool) (σ:AS):Bool :=
 Region.noSelect ops&&(if q.1 then expM P ty call q.2.2 ops q.2.1 σ.H.length K ops.size false (Array.replicate ops.size false) σ [] (fun _=>true)
  else expB P ty call ops q.2.1 K ops.size false (Array.replicate ops.size false) σ)
end
section
variable {P:Program} {ty:Ty} {call:eg7} {E:Env} {nt:Nat} {M M0:Mp} {σ σ0:AS} {a a0:Act} {w w0:World} {ops:Array Oper} {fins:List Nat} {L K:AS→Bool} {Q:Exit→Act→World→Prop}
theorem hy7 {i:Nat}{Kn:Act→World→Prop}(hi:i<ops.size) (h:if Region.wanted (ops.getD i default) (yielded ops a.tmps) then (ops.getD i default).wp P a w Kn Q else Kn (a.put (ops.getD i default).dst undef) w):wpOp P ops Q i Kn a w:=by
 have ho:ops[i]? = some (ops.getD i default):=by simp[Array.getD,hi]
 unfold wpOp
 rw[ho]
 show if Region.wanted (ops.getD i default) (yielded ops a.tmps) then _∨_ else _
 by_cases hw:Region.wanted (ops.getD i default) (yielded ops a.tmps)=true
 ·rw[if_pos hw]at h ⊢; exact .inl h
 ·rw[if_neg hw]at h ⊢; exact h
theorem ycb7 (hT:qb7 P ty) (h:St E nt M σ a w) {o:Oper}(hv:isV o.op=true) (hl:kob7 o.op=false) (hd:∀t,o.dst=some t→t<nt) {Kp:AS→Prop}{dd:Option Nat}(hw:rr7 ty (guardOf σ.tm ops o.guard) dd σ o Kp) :
  ∃σ' v,Kp σ'∧σ'.H=σ.H∧St E nt M σ' (a.put o.dst v) w∧Yields P ops o v a:=by
 unfold rr7 at hw
 split at hw
 ·exact hw.elim
 ·rename_i g hg
  obtain⟨h1,-,h2,h3⟩:=hw
  have hwt:=bd7 h hg rfl
  cases g with
  | true =>
   obtain⟨v,v1,v2⟩:=xy7 hT h hv rfl h1 (h2 rfl)
   exact⟨_,v,h3,rfl,h.putV hd (fun _=>v1) (fun e=>by cases e),.inl ⟨hwt,fun w'=>v2 w' fun e=>by rw[hl]at e;cases e⟩⟩
  | false=>exact⟨_,undef,h3,rfl,h.putV hd (fun e=>by cases e) (fun _=>rfl),.inr ⟨hwt,rfl⟩⟩
theorem ol7 {md:Region.Mode}{S:World→Prop}{i:Nat}{oi:Oper}{v:Value}(hi:ops[i]? = some oi) (hsel:∀(j:Nat) (o:Oper) cs b,ops[j]? = some o→o.op ≠ .select cs b)
  (hQ:∀c a w,Q (.panic c) (a.put oi.dst v) w→Q (.panic c) a w) :
  ∀(fuel:Nat) (listed:Array Bool) (a:Act) (w:World),
   (∀j oj,ops[j]? = some oj→j≠i→listed.getD j true=false→(∀e∈oj.after,Region.binds md e=true→e.on≠i)→oi.apart ops oj=true) →
   i∈Region.ready md ops listed→Yields P ops oi v a→S w →
   mc7 P md ops Q S fins fuel (listed.setIfInBounds i true) (a.put oi.dst v) w→mc7 P md ops Q S fins (fuel+1) listed a w:=by
 intro fuel
 induction fuel with
 | zero =>
  intro listed a w _ hr hy hS H
  refine⟨fun h=>(by rw[h]at hr;cases hr),fun j hj=>?_⟩
  by_cases hji:j=i
  ·subst hji;exact hy.wpOp hi (.inr ⟨hS,H⟩)
  ·have:=ready_mono hj hji
   rw[H.1]at this
   cases this
 | succ fuel ih =>
  intro listed a w hfree hr hy hS H
  refine⟨fun h=>(by rw[h]at hr;cases hr),fun j hj=>?_⟩
  by_cases hji:j=i
  ·subst hji;exact hy.wpOp hi (.inr ⟨hS,H⟩)
  ·have h1:=H.2 j (ready_mono hj hji)
   obtain⟨hjun,oj,hoj,hall⟩:=mem_ready.1 hj
   have hnot:∀e∈oj.after,Region.binds md e=true→e.on≠i:=fun e he hb heq=>by
    have h1:=hall e he hb
    have h0:=(mem_ready.1 hr).1
    rw[heq]at h1
    rcases Nat.lt_or_ge i listed.size with h' | h'
    ·simp[h']at h0 h1;rw[h0]at h1;cases h1
    ·simp[Array.getElem?_eq_none h']at h1
   have h2:=wpOp_put hoj (hfree j oj hoj hji hjun hnot) (fun cs b=>hsel i oi cs b hi) (fun cs b=>hsel j oj cs b hoj) hQ hy h1
   have hfree':∀k ok,ops[k]? = some ok→k≠i→(listed.setIfInBounds j true).getD k true=false →
     (∀e∈ok.after,Region.binds md e=true→e.on≠i)→oi.apart ops ok=true:=fun k ok hk hki hun hno=>by
    refine hfree k ok hk hki ?_ hno
    by_cases hjk:j=k
    ·subst hjk;exact hjun
    ·rw[getD_set_ne true hjk]at hun;exact hun
   refine wpOp_mono (fun a' w' ⟨hy',h3⟩=>?_) h2
   rcases h3 with ⟨hf,h4⟩ | ⟨hs',h4⟩
   ·refine .inl ⟨hf,wpAny_first hi hsel hQ fuel (listed.setIfInBounds j true) a' w' hfree' (ready_mono hr (Ne.symm hji)) hy' ?_⟩
    rw[Array.setIfInBounds_comm _ _ hji]
    exact h4
   ·refine .inr ⟨hs',ih (listed.setIfInBounds j true) a' w' hfree' (ready_mono hr (Ne.symm hji)) hy' hs' ?_⟩
    rw[Array.setIfInBounds_comm _ _ hji]
    exact h4
def ij7 (P:Program) (ops:Array Oper) (Q:Exit→Act→World→Prop) (fins:List Nat) (dy:Bool) (n:Nat) (l:Array Bool) (a:Act) (w:World):Prop :=
 if dy then wpAny P .any ops Q n l a w else mc7 P .any ops Q (ac7 none w) fins n l a w
theorem fv7 (hT:qb7 P ty) (hcall:∀pu f args H K,call pu f args H K=true→ga7 P pu f args H (fun r H=>K r H=true)) (hs:Region.noSelect ops=true) (hd:qf7 nt ops=true) (hQp:∀c a w,¬Q (.panic c) a w) {n:Nat}{F:Bool→Array Bool→AS→Bool}(hF:∀(dy:Bool) (l:Array Bool) (M:Mp) (σ:AS) (a:Act) (w:World),St E nt M σ a w→Stp M0 σ0 a0 w0 M σ a w (we7 ops.toList)→Closed .any ops l→F dy l σ=true→ij7 P ops Q fins dy n l a w) {dy:Bool}{l:Array Bool}(h:St E nt M σ a w) (hst:Stp M0 σ0 a0 w0 M σ a w (we7 ops.toList)) (hcl:Closed .any ops l) {i:Nat}(hi:rgb7 ops l=some i) (he:opBF ty call (some none) ops σ (ops.getD i default) (fun σ'=>F dy (l.setIfInBounds i true) σ')=true):ij7 P ops Q fins dy (n+1) l a w:=by
 have hmem:∀{i:Nat},i<ops.size→∀t,(ops.getD i default).dst=some t→we7 ops.toList t:=fun {i} hi t ht=>⟨_,by simp[Array.getD,hi],ht⟩
 have hdi:∀{i:Nat},i<ops.size→∀t,(ops.getD i default).dst=some t→t<nt:=fun {i} hi=>fc7 hd _ (by simp[Array.getD,hi])
 have hq:=List.find?_some hi
 have hr:i∈Region.ready .any ops l:=List.mem_of_find?_eq_some hi
 simp only[Bool.and_eq_true,Bool.not_eq_true',decide_eq_true_eq]at hq
 obtain⟨⟨⟨⟨hv,hl⟩,hf⟩,e3⟩,-⟩:=hq
 have ho:ops[i]? = some (ops.getD i default):=by simp[Array.getD,e3]
 have hw':rr7 ty (guardOf σ.tm ops (ops.getD i default).guard) none σ (ops.getD i default) (fun σ'=>F dy (l.setIfInBounds i true) σ'=true):=by
  have:=fr7 hcall ((ge7 _ _ _ _ _ _ _).symm.trans he)
  unfold mk7 at this
  rw[if_pos hv]at this
  exact this
 obtain⟨σ',v,k1,k2,k3,k4⟩:=ycb7 hT h hv hl (hdi e3) hw'
 have ih:=hF _ _ _ _ _ _ k3 (hst.trans (sf7 (M:=M) (a:=a) (w:=w) (v:=v) k2) (fun _ h=>h) (hmem e3)) (hcl.set hr) k1
 unfold ij7 at ih ⊢
 cases dy with
 | true =>
  rw[if_pos rfl]at ih ⊢
  exact wpAny_first ho (Region.noSelect_spec hs) (fun c a w hh=>(hQp _ _ _ hh).elim) n l a w (Region.free_spec ho hf) hr k4 ih
 | false =>
  rw[if_neg (by simp)]at ih ⊢
  exact ol7 ho (Region.noSelect_spec hs) (fun c a w hh=>(hQp _ _ _ hh).elim) n l a w (Region.free_spec ho hf) hr k4 (ac7.refl none w) ih
theorem fu7 (hT:qb7 P ty) (hcall:∀pu f args H K,call pu f args H K=true→ga7 P pu f args H (fun r H=>K r H=true)) (hs:Region.noSelect ops=true) (hd:qf7 nt ops=true) (hQp:∀c a w,¬Q (.panic c) a w) {n:Nat}{F:Bool→Array Bool→AS→Bool}(hF:∀(dy:Bool) (l:Array Bool) (M:Mp) (σ:AS) (a:Act) (w:World),St E nt M σ a w→Stp M0 σ0 a0 w0 M σ a w (we7 ops.toList)→Closed .any ops l→F dy l σ=true→ij7 P ops Q fins dy n l a w) {dy:Bool}{l:Array Bool}(h:St E nt M σ a w) (hst:Stp M0 σ0 a0 w0 M σ a w (we7 ops.toList)) (hcl:Closed .any ops l) {i:Nat}{r:RV}(hi:pureN P ty ops l σ=some (i,r)) (he:F dy (l.setIfInBounds i true) ⟨wb7 σ.tm true (ops.getD i default).dst r,σ.H⟩=true):ij7 P ops Q fins dy (n+1) l a w:=by
 have hmem:∀{i:Nat},i<ops.size→∀t,(ops.getD i default).dst=some t→we7 ops.toList t:=fun {i} hi t ht=>⟨_,by simp[Array.getD,hi],ht⟩
 have hdi:∀{i:Nat},i<ops.size→∀t,(ops.getD i default).dst=some t→t<nt:=fun {i} hi=>fc7 hd _ (by simp[Array.getD,hi])
 unfold pureN at hi
 obtain⟨j,hr,hi⟩:=List.exists_of_findSome?_eq_some hi
 split at hi
 case isFalse=>cases hi
 rename_i hcond
 simp only[Bool.and_eq_true,decide_eq_true_eq]at hcond
 obtain⟨⟨-,hf⟩,e3⟩:=hcond
 split at hi
 case h_2=>cases hi
 rename_i hg
 rw[xj7]at hg
 rw[mw7]at hi
 obtain⟨r',hn,e⟩:=Option.map_eq_some_iff.1 hi
 simp only[Prod.mk.injEq]at e
 obtain⟨rfl,rfl⟩:=e
 have ho:ops[j]? = some (ops.getD j default):=by simp[Array.getD,e3]
 have hwt:Region.wanted (ops.getD j default) (yielded ops a.tmps)=true:=bd7 h hg rfl
 obtain⟨v,v1,v2⟩:=yab7 hT h hn
 have ih:=hF _ _ _ _ _ _ (h.putV (hdi e3) (fun _=>v1) (fun e=>by cases e)) (hst.trans (sf7 (M:=M) (a:=a) (w:=w) (v:=v) rfl) (fun _ h=>h) (hmem e3)) (hcl.set hr) he
 have k4:Yields P ops (ops.getD j default) v a:=.inl ⟨hwt,v2⟩
 unfold ij7 at ih ⊢
 cases dy with
 | true =>
  rw[if_pos rfl]at ih ⊢
  exact wpAny_first ho (Region.noSelect_spec hs) (fun c a w hh=>(hQp _ _ _ hh).elim) n l a w (Region.free_spec ho hf) hr k4 ih
 | false =>
  rw[if_neg (by simp)]at ih ⊢
  exact ol7 ho (Region.noSelect_spec hs) (fun c a w hh=>(hQp _ _ _ hh).elim) n l a w (Region.free_spec ho hf) hr k4 (ac7.refl none w) ih
theorem nu7 (hT:qb7 P ty) (hcall:∀pu f args H K,call pu f args H K=true→ga7 P pu f args H (fun r H=>K r H=true)) (hs:Region.noSelect ops=true) (hd:qf7 nt ops=true) (hQp:∀c a w,¬Q (.panic c) a w) {n:Nat}{F:Bool→Array Bool→AS→Bool}(hF:∀(dy:Bool) (l:Array Bool) (M:Mp) (σ:AS) (a:Act) (w:World),St E nt M σ a w→Stp M0 σ0 a0 w0 M σ a w (we7 ops.toList)→Closed .any ops l→F dy l σ=true→ij7 P ops Q fins dy n l a w) {dy:Bool}{l:Array Bool}(h:St E nt M σ a w) (hst:Stp M0 σ0 a0 w0 M σ a w (we7 ops.toList)) (hcl:Closed .any ops l) {i:Nat}(hi:(if dy then none else rv7 ops fins l)=some i) (he:opBF ty call (some none) ops σ (ops.getD i default) (fun σ'=>F dy (l.setIfInBounds i true) σ')=true):ij7 P ops Q fins dy (n+1) l a w:=by
 have hmem:∀{i:Nat},i<ops.size→∀t,(ops.getD i default).dst=some t→we7 ops.toList t:=fun {i} hi t ht=>⟨_,by simp[Array.getD,hi],ht⟩
 have hdi:∀{i:Nat},i<ops.size→∀t,(ops.getD i default).dst=some t→t<nt:=fun {i} hi=>fc7 hd _ (by simp[Array.getD,hi])
 cases dy with
 | true=>simp at hi
 | false =>
  have hi:rv7 ops fins l=some i:=by simpa using hi
  have hq:=List.find?_some hi
  simp only[Bool.and_eq_true]at hq
  obtain⟨⟨hv,hq⟩,-⟩:=hq
  obtain⟨l',hl'⟩:=Option.isSome_iff_exists.1 hq
  obtain⟨e2,e3⟩:l'=l.setIfInBounds i true∧i<ops.size:=by
   simp only[qh7]at hl'
   split at hl'
   ·rename_i hc
    simp only[Bool.and_eq_true,decide_eq_true_eq]at hc
    exact⟨(Option.some.inj hl').symm,hc.2⟩
   ·cases hl'
  subst e2
  have hw':rr7 ty (guardOf σ.tm ops (ops.getD i default).guard) none σ (ops.getD i default) (fun σ'=>F false (l.setIfInBounds i true) σ'=true):=by
   have:=fr7 hcall ((ge7 _ _ _ _ _ _ _).symm.trans he)
   unfold mk7 at this
   rw[if_pos hv]at this
   exact this
  obtain⟨σ',v,k1,k2,k3,k4,k5⟩:=fab7 hT h hv (hdi e3) hw'
  unfold ij7
  rw[if_neg (by simp),Nat.add_comm]
  refine of7 (lq:=[i]) (K:=fun a'=>a'=a.put (ops.getD i default).dst v) hs (fun c a d v w hh=>(hQp _ _ _ hh).elim) (ac7.refl none w) l _ a hcl hl' ?_ fun a' hcl' ha=>?_
  ·simp only[List.map_cons,List.map_nil]
   unfold wpQuiet
   by_cases hwt:Region.wanted (ops.getD i default) (yielded ops a.tmps)=true
   ·rw[if_pos hwt]
    refine⟨v, ?_,rfl⟩
    rintro w1 ⟨e,rfl⟩
    unfold Oper.quietAt
    rw[k4 hwt e.val e.ok]
    exact⟨rfl,rfl⟩
   ·rw[if_neg hwt]
    show _=_
    rw[k5 (by simpa using hwt)]
  ·subst ha
   have ih:=hF _ _ _ _ _ _ k3 (hst.trans (sf7 (M:=M) (a:=a) (w:=w) (v:=v) k2) (fun _ h=>h) (hmem e3)) hcl' k1
   unfold ij7 at ih
   rw[if_neg (by simp)]at ih
   exact ih
theorem hn7 (hT:qb7 P ty) (hcall:∀pu f args H K,call pu f args H K=true→ga7 P pu f args H (fun r H=>K r H=true)) (hs:Region.noSelect ops=true) (hd:qf7 nt ops=true) (hQp:∀c a w,¬Q (.panic c) a w) {n:Nat}{F:Nat→Bool→Array Bool→AS→Bool}(hF:∀(i:Nat) (dy:Bool) (l:Array Bool) (M:Mp) (σ:AS) (a:Act) (w:World),St E nt M σ a w→Stp M0 σ0 a0 w0 M σ a w (we7 ops.toList)→Closed .any ops l→F i dy l σ=true→ij7 P ops Q fins dy n l a w) {dy:Bool}{l:Array Bool}(h:St E nt M σ a w) (hst:Stp M0 σ0 a0 w0 M σ a w (we7 ops.toList)) (hcl:Closed .any ops l) (hne:Region.ready .any ops l≠[]) (h2:∀i∈Region.ready .any ops l,i<ops.size∧opX P ty call (if dy || fins.contains i then none else some none) ops σ (ops.getD i default) (fun σ'=>F i (dy || fins.contains i) (l.setIfInBounds i true) σ')=true):ij7 P ops Q fins dy (n+1) l a w:=by
 have hmem:∀{i:Nat},i<ops.size→∀t,(ops.getD i default).dst=some t→we7 ops.toList t:=fun {i} hi t ht=>⟨_,by simp[Array.getD,hi],ht⟩
 have hdi:∀{i:Nat},i<ops.size→∀t,(ops.getD i default).dst=some t→t<nt:=fun {i} hi=>fc7 hd _ (by simp[Array.getD,hi])
 unfold ij7
 cases dy with
 | true =>
  rw[if_pos rfl]
  refine⟨fun h0=>absurd h0 hne,fun i hi=>?_⟩
  obtain⟨e1,e2⟩:=h2 i hi
  refine hy7 e1 (mab7 hT hcall h (hdi e1) e2 fun M' σ' a' w' q1 q2 q3 q4=>?_)
  have ih:=hF _ _ _ _ _ _ _ q1 (hst.trans q3 (fun _ h=>h) (hmem e1)) (hcl.set hi) q4
  unfold ij7 at ih
  simpa using ih
 | false =>
  rw[if_neg (by simp)]
  refine⟨fun h0=>absurd h0 hne,fun i hi=>?_⟩
  obtain⟨e1,e2⟩:=h2 i hi
  refine hy7 e1 (mab7 hT hcall h (hdi e1) e2 fun M' σ' a' w' q1 q2 q3 q4=>?_)
  have ih:=hF _ _ _ _ _ _ _ q1 (hst.trans q3 (fun _ h=>h) (hmem e1)) (hcl.set hi) q4
  unfold ij7 at ih
  by_cases hf:fins.contains i=true
  ·rw[hf]at ih
   exact .inl ⟨by simpa using hf,by simpa using ih⟩
  ·have hf:fins.contains i=false:=by simpa using hf
   rw[hf]at ih q2
   have ho:ac7 none w w':=q2 none (by simp)
   refine .inr ⟨ho,wg7 (fun w3 h3=>ac7.step ho h3) _ _ _ _ ?_⟩
   simpa using ih
theorem efb7 (hT:qb7 P ty) (hcall:∀pu f args H K,call pu f args H K=true→ga7 P pu f args H (fun r H=>K r H=true)) (hs:Region.noSelect ops=true) (hd:qf7 nt ops=true) (hQp:∀c a w,¬Q (.panic c) a w)
  (hQ:∀M' σ' a' w',St E nt M' σ' a' w'→Stp M0 σ0 a0 w0 M' σ' a' w' (we7 ops.toList)→L σ'=true→Q .normal a' w'):∀(n:Nat) {dy:Bool} {l:Array Bool} {M:Mp} {σ:AS} {a:Act} {w:World},St E nt M σ a w→Stp M0 σ0 a0 w0 M σ a w (we7 ops.toList)→Closed .any ops l→expB P ty call ops fins L n dy l σ=true→ij7 P ops Q fins dy n l a w
 | 0,dy,l,M,σ,a,w,h,hst,hcl,he=>by
  simp only[expB,Bool.and_eq_true]at he
  have e1:Region.ready .any ops l=[]:=by simpa using he.1
  unfold ij7
  split
  ·exact⟨e1,hQ _ _ _ _ h hst he.2⟩
  ·exact⟨e1,hQ _ _ _ _ h hst he.2⟩
 | n+1,dy,l,M,σ,a,w,h,hst,hcl,he=>by
  have ih:=fun (dy:Bool) (l:Array Bool) (M:Mp) (σ:AS) (a:Act) (w:World) h1 h2 h3 h4=>efb7 hT hcall hs hd hQp hQ n (dy:=dy) (l:=l) (M:=M) (σ:=σ) (a:=a) (w:=w) h1 h2 h3 h4
  unfold expB at he
  split at he
  ·rename_i i hi;exact fv7 hT hcall hs hd hQp ih h hst hcl hi he
  split at he
  ·rename_i i r hi;exact fu7 hT hcall hs hd hQp ih h hst hcl hi he
  split at he
  ·rename_i i hi;exact nu7 hT hcall hs hd hQp ih h hst hcl hi he
  ·simp only[Bool.and_eq_true,List.all_eq_true,decide_eq_true_eq,Bool.not_eq_true']at he
   obtain⟨h1,h2⟩:=he
   exact hn7 hT hcall hs hd hQp (fun _=>ih) h hst hcl (fun e=>by rw[e]at h1;cases h1) h2
theorem nbb7:∀{l m:List Bool},iob7 l m=true→l=m
 | [],[],_=>rfl
 | a::l,b::m,h=>by
  simp only[iob7,Bool.and_eq_true]at h
  rw[nbb7 h.2,ls7 h.1]
 | [],_::_,h=>by cases h
 | _::_,[],h=>by cases h
theorem ye7:∀{T:pm7}{n:Nat}{dy:Bool}{l:Array Bool}{c:AS},oab7 T n dy l=some c→(n,dy,l,c)∈T
 | (n',dy',l',c')::T,n,dy,l,c,h=>by
  unfold oab7 at h
  split at h
  ·rename_i hc
   simp only[Bool.and_eq_true]at hc
   obtain⟨⟨h1,h2⟩,h3⟩:=hc
   obtain rfl:=Nat.eq_of_beq_eq_true h1
   obtain rfl:=Array.toList_inj.1 (nbb7 h3)
   cases h
   obtain rfl:=ls7 h2
   exact List.mem_cons_self ..
  ·exact List.mem_cons_of_mem _ (ye7 h)
def dab7 (P:Program) (ops:Array Oper) (Q:Exit→Act→World→Prop) (fins:List Nat) (E:Env) (nt:Nat) (ks:List Nat) (M0:Mp) (σ0:AS) (a0:Act) (w0:World) (T:pm7):Prop :=
 ∀e∈T,∀M σ a w,St E nt M σ a w→Stp M0 σ0 a0 w0 M σ a w (we7 ops.toList)→Closed .any ops e.2.2.1→leafK σ0.H.length ks e.2.2.2 σ=true→ij7 P ops Q fins e.2.1 e.1 e.2.2.1 a w
theorem fcb7 {ks:List Nat}{c:AS}{ds:Nat→Prop}(h:St E nt M σ a w) (hst:Stp M0 σ0 a0 w0 M σ a w ds) (hl:leafK σ0.H.length ks c σ=true):∃M',St E nt M' c a w∧Stp M0 σ0 a0 w0 M' c a w ds:=by
 unfold leafK at hl
 simp only[Bool.and_eq_true,decide_eq_true_eq]at hl
 obtain⟨⟨g1,g2⟩,g3,g4⟩:=hl
 refine⟨_,(h.normK g1 g2).leK g3 g4, ?_,(hst.kp.normK hst.len).trans (Kp.le g3),hst.tm⟩
 rw[← (kd7 g3).1]
 show σ0.H.length≤(hp7 σ0.H.length (canonK σ0.H.length ks σ) σ.H).length
 rw[ne7 g1];omega
theorem xz7 {step:Nat→pm7→(pm7→Bool)→Bool}{G:pm7→Prop}(hstep:∀i T k,step i T k=true→G T→∃T',G T'∧k T'=true):∀(is:List Nat) {T:pm7}{k:pm7→Bool},apb7 step is T k=true→G T→(∃T',G T'∧k T'=true)∧∀i∈is,∃T1 k1,G T1∧step i T1 k1=true
 | [],T,k,h,hg=>⟨⟨T,hg,h⟩,fun i hi=>by cases hi⟩
 | i::is,T,k,h,hg=>by
  have h:step i T (fun T'=>apb7 step is T' k)=true:=h
  obtain⟨T1,g1,k1⟩:=hstep _ _ _ h hg
  obtain⟨q1,q2⟩:=xz7 hstep is k1 g1
  refine⟨q1,fun j hj=>?_⟩
  rcases List.mem_cons.1 hj with rfl | hj
  ·exact⟨_,_,hg,h⟩
  ·exact q2 j hj
theorem ng7 (hT:qb7 P ty) (hcall:∀pu f args H K,call pu f args H K=true→ga7 P pu f args H (fun r H=>K r H=true)) (hx:xd7 call) (hs:Region.noSelect ops=true) (hd:qf7 nt ops=true) {ks:List Nat}(hQp:∀c a w,¬Q (.panic c) a w)
  (hQ:∀M' σ' a' w',St E nt M' σ' a' w'→Stp M0 σ0 a0 w0 M' σ' a' w' (we7 ops.toList)→L σ'=true→Q .normal a' w'):∀(n:Nat) {dy:Bool} {l:Array Bool} {σ:AS} {T:pm7} {k:pm7→Bool},expM P ty call ks ops fins σ0.H.length L n dy l σ T k=true→dab7 P ops Q fins E nt ks M0 σ0 a0 w0 T →
   (∃T',dab7 P ops Q fins E nt ks M0 σ0 a0 w0 T'∧k T'=true)∧∀M a w,St E nt M σ a w→Stp M0 σ0 a0 w0 M σ a w (we7 ops.toList)→Closed .any ops l→ij7 P ops Q fins dy n l a w
 | 0,dy,l,σ,T,k,he,hg=>by
  unfold expM at he
  simp only[Bool.and_eq_true]at he
  obtain⟨e1,he⟩:=he
  have e1:Region.ready .any ops l=[]:=by simpa using e1
  split at he
  ·rename_i c hc
   simp only[Bool.and_eq_true]at he
   exact⟨⟨T,hg,he.2⟩,fun M a w h hst hcl=>hg _ (ye7 hc) M σ a w h hst hcl he.1⟩
  ·obtain⟨c,he⟩:=yu7 _ _ he
   simp only[Bool.and_eq_true]at he
   obtain⟨⟨h1,h2⟩,h3⟩:=he
   have key:∀M σ a w,St E nt M σ a w→Stp M0 σ0 a0 w0 M σ a w (we7 ops.toList)→Closed .any ops l→leafK σ0.H.length ks c σ=true→ij7 P ops Q fins dy 0 l a w:=fun M σ a w h hst _ hl=>by
    obtain⟨M',q1,q2⟩:=fcb7 h hst hl
    unfold ij7
    split
    ·exact⟨e1,hQ _ _ _ _ q1 q2 h2⟩
    ·exact⟨e1,hQ _ _ _ _ q1 q2 h2⟩
   refine⟨⟨_,fun e hm=>?_,h3⟩,fun M a w h hst hcl=>key M σ a w h hst hcl h1⟩
   rcases List.mem_cons.1 hm with rfl | hm
   ·exact key
   ·exact hg e hm
 | n+1,dy,l,σ,T,k,he,hg=>by
  have ih:=fun (dy:Bool) (l:Array Bool) (T:pm7) (k:pm7→Bool) (hg:dab7 P ops Q fins E nt ks M0 σ0 a0 w0 T) (M:Mp) (σ:AS) (a:Act) (w:World) h1 h2 h3 h4=>(ng7 hT hcall hx hs hd hQp hQ n (dy:=dy) (l:=l) (σ:=σ) (T:=T) (k:=k) h4 hg).2 M a w h1 h2 h3
  unfold expM at he
  split at he
  ·rename_i i hi
   obtain⟨σ',h'⟩:=md7 hx ((ge7 _ _ _ _ _ _ _).symm.trans he)
   exact⟨(ng7 hT hcall hx hs hd hQp hQ n h' hg).1,fun M a w h hst hcl=>fv7 hT hcall hs hd hQp (F:=fun dy l σ=>expM P ty call ks ops fins σ0.H.length L n dy l σ T k) (ih · · T k hg) h hst hcl hi he⟩
  split at he
  ·rename_i i r hi
   exact⟨(ng7 hT hcall hx hs hd hQp hQ n he hg).1,fun M a w h hst hcl=>fu7 hT hcall hs hd hQp (F:=fun dy l σ=>expM P ty call ks ops fins σ0.H.length L n dy l σ T k) (ih · · T k hg) h hst hcl hi he⟩
  split at he
  ·rename_i i hi
   obtain⟨σ',h'⟩:=md7 hx ((ge7 _ _ _ _ _ _ _).symm.trans he)
   exact⟨(ng7 hT hcall hx hs hd hQp hQ n h' hg).1,fun M a w h hst hcl=>nu7 hT hcall hs hd hQp (F:=fun dy l σ=>expM P ty call ks ops fins σ0.H.length L n dy l σ T k) (ih · · T k hg) h hst hcl hi he⟩
  split at he
  ·cases he
  ·rename_i i hr
   simp only[Bool.and_eq_true,decide_eq_true_eq]at he
   obtain⟨σ',h'⟩:=wm7 hx he.2
   refine⟨(ng7 hT hcall hx hs hd hQp hQ n h' hg).1,fun M a w h hst hcl=>hn7 hT hcall hs hd hQp (F:=fun _ dy l σ=>expM P ty call ks ops fins σ0.H.length L n dy l σ T k) (fun _=>(ih · · T k hg)) h hst hcl (by rw[hr];simp) fun j hj=>?_⟩
   rw[hr]at hj
   obtain rfl:=List.mem_singleton.1 hj
   exact he
  ·rename_i is hn1 hn2
   split at he
   ·rename_i c hc
    simp only[Bool.and_eq_true]at he
    exact⟨⟨T,hg,he.2⟩,fun M a w h hst hcl=>hg _ (ye7 hc) M σ a w h hst hcl he.1⟩
   ·obtain⟨c,he⟩:=yu7 _ _ he
    simp only[Bool.and_eq_true]at he
    obtain⟨h1,he⟩:=he
    obtain⟨⟨T',g1,g2⟩,g3⟩:=xz7 (G:=dab7 P ops Q fins E nt ks M0 σ0 a0 w0) (fun i T k h hg=>by
     simp only[Bool.and_eq_true,decide_eq_true_eq]at h
     obtain⟨σ',h'⟩:=wm7 hx h.2
     exact (ng7 hT hcall hx hs hd hQp hQ n h' hg).1) _ he hg
    have hne:Region.ready .any ops l≠[]:=fun e=>hn1 e
    have g3':∀i,∃T1 k1,i∈Region.ready .any ops l→dab7 P ops Q fins E nt ks M0 σ0 a0 w0 T1∧i<ops.size∧opX P ty call (if dy || fins.contains i then none else some none) ops c (ops.getD i default) (fun σ'=>expM P ty call ks ops fins σ0.H.length L n (dy || fins.contains i) (l.setIfInBounds i true) σ' T1 k1)=true:=fun i=>by
     by_cases hi:i∈Region.ready .any ops l
     ·obtain⟨T1,k1,q1,q2⟩:=g3 i hi
      simp only[Bool.and_eq_true,decide_eq_true_eq]at q2
      exact⟨T1,k1,fun _=>⟨q1,q2⟩⟩
     ·exact⟨[],fun _=>true,fun h=>absurd h hi⟩
    obtain⟨Tf,g3'⟩:=Classical.axiomOfChoice g3'
    obtain⟨kf,g3'⟩:=Classical.axiomOfChoice g3'
    have key:∀M σ a w,St E nt M σ a w→Stp M0 σ0 a0 w0 M σ a w (we7 ops.toList)→Closed .any ops l→leafK σ0.H.length ks c σ=true→ij7 P ops Q fins dy (n+1) l a w:=fun M σ a w h hst hcl hl=>by
     obtain⟨M',q1,q2⟩:=fcb7 h hst hl
     generalize hR:Region.ready .any ops l=R at *
     refine hn7 hT hcall hs hd hQp (F:=fun i dy' l' σ=>if i∈R then expM P ty call ks ops fins σ0.H.length L n dy' l' σ (Tf i) (kf i) else false) (fun i dy' l' M σ a w h1 h2 h3 h4=>?_) q1 q2 hcl (by rw[hR];exact hne) (fun i hi=>?_)
     ·split at h4
      ·rename_i hi
       exact ih _ _ _ _ (g3' i hi).1 _ _ _ _ h1 h2 h3 h4
      ·cases h4
     ·rw[hR]at hi
      simp only[if_pos hi]
      exact (g3' i hi).2
    refine⟨⟨_,fun e hm=>?_,g2⟩,fun M a w h hst hcl=>key M σ a w h hst hcl h1⟩
    rcases List.mem_cons.1 hm with rfl | hm
    ·exact key
    ·exact g1 e hm
theorem ii7 (hx:xd7 call) {ks:List Nat}{n0:Nat}:∀(n:Nat) {dy:Bool}{l:Array Bool}{σ:AS}{T:pm7}{k:pm7→Bool},expM P ty call ks ops fins n0 L n dy l σ T k=true→(∃σ,L σ=true)∨∃e,e∈T
 | 0,dy,l,σ,T,k,h=>by
  unfold expM at h
  simp only[Bool.and_eq_true]at h
  obtain⟨-,h⟩:=h
  split at h
  ·rename_i c hc;exact .inr ⟨_,ye7 hc⟩
  ·obtain⟨c,h⟩:=yu7 _ _ h
   simp only[Bool.and_eq_true]at h
   exact .inl ⟨_,h.1.2⟩
 | n+1,dy,l,σ,T,k,h=>by
  unfold expM at h
  split at h
  ·obtain⟨σ',h⟩:=md7 hx ((ge7 _ _ _ _ _ _ _).symm.trans h)
   exact ii7 hx n h
  split at h
  ·exact ii7 hx n h
  split at h
  ·obtain⟨σ',h⟩:=md7 hx ((ge7 _ _ _ _ _ _ _).symm.trans h)
   exact ii7 hx n h
  split at h
  ·cases h
  ·simp only[Bool.and_eq_true]at h
   obtain⟨σ',h⟩:=wm7 hx h.2
   exact ii7 hx n h
  ·rename_i is hn1 hn2
   split at h
   ·rename_i c hc;exact .inr ⟨_,ye7 hc⟩
   ·obtain⟨c,h⟩:=yu7 _ _ h
    simp only[Bool.and_eq_true]at h
    obtain⟨-,h⟩:=h
    cases hr:Region.ready .any ops l with
    | nil=>exact absurd hr hn1
    | cons i r =>
     rw[hr]at h
     have h:(decide (i<ops.size)&&opX P ty call (if dy || fins.contains i then none else some none) ops c (ops.getD i default) _)=true:=h
     simp only[Bool.and_eq_true]at h
     obtain⟨σ',h⟩:=wm7 hx h.2
     exact ii7 hx n h
theorem sgb7 (hT:qb7 P ty) (hm:P.follows .mixedOrders=true) (hcall:∀pu f args H K,call pu f args H K=true→ga7 P pu f args H (fun r H=>K r H=true)) (hx:xd7 call) {id:Nat}{q:Bool×List Nat×List Nat}(hd:qf7 nt ops=true) (h:St E nt M σ a w) (hw:regB P ty call nt ops q K σ=true)
  (hQ:∀a' w',After E nt M σ a w (we7 ops.toList) (fun σ=>K σ=true) a' w'→Q .normal a' w') (hQp:∀c a w,¬Q (.panic c) a w):(Code.region id ops true).wp P Q a w:=by
 unfold regB at hw
 simp only[Bool.and_eq_true]at hw
 obtain⟨hs,hw⟩:=hw
 have hb:Below w.heap.size w w.drew:=(Below.refl _ _).drew
 have h2:St E nt M σ a w.drew:=⟨h.rel.below hb,fun t ht=>(Kp.below h.rel hb).R (h.tms t ht),h.off,h.sz,h.df⟩
 have hst:Stp M σ a w M σ a w.drew (we7 ops.toList):=⟨Nat.le_refl _,Kp.below h.rel hb,fun _ _=>rfl⟩
 have hcl:Closed .any ops (Array.replicate ops.size false):=fun j oj _ hl=>by rw[getD_replicate_false]at hl;cases hl
 have fin:∀L:AS→Bool,expB P ty call ops q.2.1 L ops.size false (Array.replicate ops.size false) σ=true→(∀M' σ' a' w',St E nt M' σ' a' w'→Stp M σ a w M' σ' a' w' (we7 ops.toList)→L σ'=true→Q .normal a' w')→(Code.region id ops true).wp P Q a w:=fun L he hL=>by
  refine wp_region_any hm (fd7 (S:=ac7 none w.drew) (fins:=q.2.1) _ _ _ _ ?_)
  have:=efb7 hT hcall hs hd hQp hL ops.size h2 hst hcl he
  unfold ij7 at this
  rw[if_neg (by simp)]at this
  exact this
 split at hw
 ·refine wp_region_any hm (fd7 (S:=ac7 none w.drew) (fins:=q.2.1) _ _ _ _ ?_)
  have:=(ng7 hT hcall hx hs hd hQp (L:=K) (fun M' σ' a' w' q1 q2 q3=>hQ a' w' ⟨M',σ',q1,q2,q3⟩) ops.size hw (fun e he=>by cases he)).2 M a w.drew h2 hst hcl
  unfold ij7 at this
  rw[if_neg (by simp)]at this
  exact this
 ·exact fin K hw fun M' σ' a' w' q1 q2 q3=>hQ a' w' ⟨M',σ',q1,q2,q3⟩
end
def tx7 (n:AS→Bool) (Q:Exit→AS→Bool):Exit→AS→Bool
 | .normal,σ=>n σ
 | e,σ=>Q e σ
def alb7 (id:Nat) (Q:Exit→AS→Bool):Exit→AS→Bool
 | .exit j,σ=>if j=id then Q .normal σ else Q (.exit j) σ
 | e,σ=>Q e σ
section
variable {P:Program} {ty:Ty} {call:eg7} {ord:Nat→List Nat×Nat×Option DD} {n:Nat}
end
instance (ty:Ty) (σ:AS) (r:ResultVar):Decidable (oib7 ty σ r).1:=by
 unfold oib7;split <;> infer_instance
instance decRes (ty:Ty) (σ:AS):∀l:List ResultVar,Decidable (xh7 ty σ l).1
 | []=>isTrue trivial
 | r::l => @instDecidableAnd _ _ inferInstance (decRes ty σ l)
def rjb7 (ty:Ty) (rs:List ResultVar) (K:RV→List Root→Bool):Exit→AS→Bool
 | .ret,σ=>decide (xh7 ty σ rs).1&&K (one (xh7 ty σ rs).2) σ.H
 | .normal,σ=>decide (xh7 ty σ rs).1&&K (one (xh7 ty σ rs).2) σ.H
 | _,_=>false
theorem fm7 (H:List Root) (k:Nat):∀l:List RV,(qi7 H k l).length=l.length
 | []=>rfl
 | _::l=>by simp[qi7,fm7 H k l]
def AV.mfr:AV→Bool
 | .sl .. => false
 | .rp .. => false
 | .ws .. => false
 | .wu .. => false
 | .wp .. => false
 | _=>true
def shA (n:Nat):AV→AV
 | .ptr id m i o=>.ptr (id+n) m i o
 | .h id st len=>.h (id+n) st len
 | a=>a
def shL (n:Nat):List AV→List AV
 | []=>[]
 | a::l=>shA n a::shL n l
def kab7 (n:Nat):List (List AV)→List (List AV)
 | []=>[]
 | a::l=>shL n a::kab7 n l
def am7 (n:Nat):Row→Row
 | .box l=>.box (shL n l)
 | .own l=>.own (kab7 n l)
 | r=>r
def lgb7 (n:Nat):Root→Root
 | .live fz t sz r=>.live fz t sz (am7 n r)
 | .dead=>.dead
def shH (n:Nat):List Root→List Root
 | []=>[]
 | r::l=>lgb7 n r::shH n l
def ofb7 (n:Nat):RV→RV
 | .c a=>.c (shA n a)
 | .agg l=>.agg (shL n l)
 | x=>x
def yeb7 (n:Nat):List RV→List RV
 | []=>[]
 | a::l=>ofb7 n a::yeb7 n l
def shR (n:Nat):RV→RV
 | .tup l=>.tup (yeb7 n l)
 | x=>ofb7 n x
def zjb7:Row→Bool
 | .box l=>l.all AV.mfr
 | .own l=>l.all fun l=>l.all AV.mfr
 | .gen l=>l.all fun l=>l.all AV.mfr
 | _=>true
def pjb7:Root→Bool
 | .live _ _ _ r=>zjb7 r
 | .dead=>true
def pob7:RV→Bool
 | .c a=>a.mfr
 | .agg l=>l.all AV.mfr
 | _=>false
def plR:RV→Bool
 | .tup l=>l.all pob7
 | x=>pob7 x
def sx7 (n s:Nat) (M M':Mp):Mp:=⟨fun id=>if id<n then M.phi id else M'.phi (id-n),fun id=>if id<n then M.off id else M'.off (id-n),fun b=>M.rho b∨(M'.rho b∧s≤b),M.tau⟩
section
variable {P:Program} {E:Env} {M M':Mp} {H G:List Root} {w w':World} {s n:Nat}
theorem pbb7 (n:Nat):∀l:List Root,(shH n l).length=l.length
 | []=>rfl
 | _::l=>by simp[shH,pbb7 n l]
theorem web7 (n:Nat):∀(l:List Root) (j:Nat),aa7 (shH n l) j=lgb7 n (aa7 l j)
 | [],_=>rfl
 | _::_,0=>rfl
 | _::l,j+1=>web7 n l j
theorem eu7 (n:Nat):∀l:List (List AV),(kab7 n l).length=l.length
 | []=>rfl
 | _::l=>by simp[kab7,eu7 n l]
theorem fw7 (n:Nat):∀(l:List (List AV)) (i:Nat),(kab7 n l).getD i []=shL n (l.getD i [])
 | [],_=>rfl
 | _::_,0=>rfl
 | _::l,i+1=>fw7 n l i
theorem kbb7 (n:Nat):∀(l:List AV) (o:Nat),nth (shL n l) o=shA n (nth l o)
 | [],_=>rfl
 | _::_,0=>rfl
 | _::l,o+1=>kbb7 n l o
theorem ah7 (r:Row):(am7 n r).len=r.len:=by
 cases r <;> first | rfl | exact eu7 _ _
theorem vab7 (r:Row):(am7 n r).one=r.one:=by cases r <;> rfl
theorem tbb7 (r:Row):(am7 n r).isBox=r.isBox:=by cases r <;> rfl
theorem ze7 {j:Nat}{fz:Bool}{t:TypeId}{sz:Nat}{r:Row}(h:aa7 (H++shH H.length G) j = .live fz t sz r):(j<H.length∧aa7 H j = .live fz t sz r)∨(H.length≤j∧∃r0,aa7 G (j-H.length) = .live fz t sz r0∧r=am7 H.length r0):=by
 rw[zc7]at h
 split at h
 ·rename_i hj;exact .inl ⟨hj,h⟩
 ·rename_i hj
  rw[web7]at h
  cases hg:aa7 G (j-H.length) with
  | dead=>rw[hg]at h;cases h
  | live fz' t' sz' r0=>rw[hg]at h;cases h;exact .inr ⟨by omega,r0,rfl,rfl⟩
theorem af7 {j:Nat}(h:j<H.length):(sx7 H.length s M M').phi j=M.phi j:=if_pos h
theorem df7 {j:Nat}(h:H.length≤j):(sx7 H.length s M M').phi j=M'.phi (j-H.length):=if_neg (by omega)
theorem gcb7 {j:Nat}(h:j<H.length):(sx7 H.length s M M').off j=M.off j:=if_pos h
theorem wbb7 {j:Nat}(h:H.length≤j):(sx7 H.length s M M').off j=M'.off (j-H.length):=if_neg (by omega)
theorem Con.catL {x:AV}{v:Value}(c:Con M H w x v):Con (sx7 H.length s M M') (H++shH H.length G) w x v:=by
 have len:∀{id:Nat},id<H.length→id<(H++shH H.length G).length:=fun h=>by rw[List.length_append];omega
 cases x with
 | ptr id m i o =>
  refine⟨⟨len c.1.1,c.1.2⟩,fun fz t sz r hr=>?_⟩
  rcases ze7 hr with ⟨h1,h2⟩ | ⟨h1,-⟩
  ·rw[af7 h1,gcb7 h1];exact c.2 _ _ _ _ h2
  ·have:=c.1.1;omega
 | h id st l =>
  refine⟨⟨len c.1.1,c.1.2⟩,fun fz t sz r hr=>?_⟩
  rcases ze7 hr with ⟨h1,h2⟩ | ⟨h1,-⟩
  ·rw[af7 h1,gcb7 h1];exact c.2 _ _ _ _ h2
  ·have:=c.1.1;omega
 | sl n sz f=>exact lb7.keep (fun _ _=>rfl) (fun _=>.inl) (show lb7 M.rho w (.sl n sz f) v from c)
 | rp n f=>exact lb7.keep (fun _ _=>rfl) (fun _=>.inl) (show lb7 M.rho w (.rp n f) v from c)
 | _=>exact c
theorem Con.catR {x:AV}{v:Value}(hm:x.mfr=true) (c:Con M' G w x v):Con (sx7 H.length s M M') (H++shH H.length G) w (shA H.length x) v:=by
 have len:∀{id:Nat},id<G.length→id+H.length<(H++shH H.length G).length:=fun h=>by rw[List.length_append,pbb7];omega
 cases x with
 | ptr id m i o =>
  refine⟨⟨len c.1.1,c.1.2⟩,fun fz t sz r hr=>?_⟩
  rcases ze7 hr with ⟨h1,-⟩ | ⟨h1,r0,h2,rfl⟩
  ·omega
  ·rw[df7 h1,wbb7 h1,ah7]
   rw[Nat.add_sub_cancel]at h2 ⊢
   exact c.2 _ _ _ _ h2
 | h id st l =>
  refine⟨⟨len c.1.1,c.1.2⟩,fun fz t sz r hr=>?_⟩
  rcases ze7 hr with ⟨h1,-⟩ | ⟨h1,r0,h2,rfl⟩
  ·omega
  ·rw[df7 h1,wbb7 h1,ah7]
   rw[Nat.add_sub_cancel]at h2 ⊢
   exact c.2 _ _ _ _ h2
 | _=>first | exact c | cases hm
theorem mb7.catR:∀{l:List AV}{vs:List Value},l.all AV.mfr=true→mb7 M' G w l vs→mb7 (sx7 H.length s M M') (H++shH H.length G) w (shL H.length l) vs
 | [],_,_,h=>h
 | _::_,_,hm,⟨v,r,e,h1,h2⟩=>by
  simp only[List.all_cons,Bool.and_eq_true]at hm
  exact⟨v,r,e,h1.catR hm.1,mb7.catR hm.2 h2⟩
theorem ConR1.catR {x:RV}{v:Value}(hm:pob7 x=true) (c:ha7 M' G w x v):ha7 (sx7 H.length s M M') (H++shH H.length G) w (ofb7 H.length x) v:=by
 cases x with
 | c a=>exact Con.catR hm c
 | agg l=>obtain⟨vs,e,c⟩:=c;exact⟨vs,e,mb7.catR hm c⟩
 | _=>cases hm
theorem ab7.catR:∀{l:List RV}{vs:List Value},l.all pob7=true→ab7 M' G w l vs→ab7 (sx7 H.length s M M') (H++shH H.length G) w (yeb7 H.length l) vs
 | [],_,_,h=>h
 | _::_,_,hm,⟨v,r,e,h1,h2⟩=>by
  simp only[List.all_cons,Bool.and_eq_true]at hm
  exact⟨v,r,e,ConR1.catR hm.1 h1,ab7.catR hm.2 h2⟩
theorem ha7.catR {x:RV}{v:Value}(hm:plR x=true) (c:ha7 M' G w x v):ha7 (sx7 H.length s M M') (H++shH H.length G) w (shR H.length x) v:=by
 cases x with
 | tup l=>obtain⟨vs,e,c⟩:=c;exact⟨vs,e,ab7.catR hm c⟩
 | c a=>exact ConR1.catR (x:=.c a) hm c
 | agg l=>exact ConR1.catR (x:=.agg l) hm c
 | fn f l nb=>cases hm
 | ifc t y=>cases hm
theorem vn7 {p:AV→Bool}(hj:p .junk=true):∀{l:List AV},l.all p=true→∀o,p (nth l o)=true
 | [],_,_=>hj
 | _::_,h,0=>by simp only[List.all_cons,Bool.and_eq_true]at h;exact h.1
 | _::_,h,o+1=>by simp only[List.all_cons,Bool.and_eq_true]at h;exact vn7 hj h.2 o
theorem ou7 {l:List (List AV)}(h:(l.all fun l=>l.all AV.mfr)=true) (i:Nat):(l.getD i []).all AV.mfr=true:=by
 rw[List.getD_eq_getElem?_getD]
 cases hi:l[i]? with
 | none=>rfl
 | some x=>exact List.all_eq_true.1 h x (List.mem_of_getElem? hi)
theorem lb7.mfr {rho rho':Nat→Prop}{x:AV}{v:Value}(hm:x.mfr=true) (c:lb7 rho w x v):lb7 rho' w x v:=by
 cases x <;> first | exact c | cases hm
theorem Rel.cat (h:Rel E M H w') (hl:∀b,M.rho b→b<w.heap.size) (hp:∀id fz t sz r,aa7 H id = .live fz t sz r→M.phi id<w.heap.size) (ht:∀b q,M.tau b=some q→b<w.heap.size) (hE:E.W0.heap.size≤w.heap.size) {rho:Nat→Prop}
  (k:Rel (Env.of w rho) M' G w') (pl:G.all pjb7=true):Rel E (sx7 H.length w.heap.size M M') (H++shH H.length G) w':=by
 have plg:∀{j:Nat} {fz:Bool} {t:TypeId} {sz:Nat} {r:Row},aa7 G j = .live fz t sz r→zjb7 r=true:=fun {j fz t sz r} hr=>by
  have go:∀(G:List Root) (j:Nat),G.all pjb7=true→pjb7 (aa7 G j)=true:=by
   intro G
   induction G with
   | nil=>intro j _;rfl
   | cons a l ih =>
    intro j h
    simp only[List.all_cons,Bool.and_eq_true]at h
    cases j with
    | zero=>exact h.1
    | succ j=>exact ih j h.2
  have:=go G j pl
  rw[hr]at this;exact this
 refine⟨h.bel,fun id fz t sz r hr=>?_,fun id fz t sz r hr=>?_,fun id t sz r hr=>?_,fun id t sz r hr=>?_,fun i j t s r t' s' r' hi hj he=>?_,fun b hb=>?_,⟨fun b hb=>?_,h.src.2.mono fun _=>.inl⟩,h.tau.keep rfl (fun _ _ _=>rfl) (fun b q hq hb=>?_) fun b q j fz t s r hq hj=>?_⟩
 ·rcases ze7 hr with ⟨h1,h2⟩ | ⟨h1,r0,h2,rfl⟩
  ·rw[af7 h1];exact h.low _ _ _ _ _ h2
  ·rw[df7 h1];exact .inl (Nat.le_trans hE (k.lowN _ _ _ _ _ h2))
 ·rcases ze7 hr with ⟨h1,h2⟩ | ⟨h1,r0,h2,rfl⟩
  ·rw[af7 h1,gcb7 h1]
   exact (h.row _ _ _ _ _ h2).keep (fun x v c=>c.catL) (fun _ _=>rfl) (fun _=>.inl) rfl
  ·rw[df7 h1,wbb7 h1]
   obtain⟨cur,k1,k2,k3,k4,k5,k6⟩:=k.row _ _ _ _ _ h2
   refine⟨cur,k1,k2,by rw[ah7];exact k3,k4,by rw[vab7];exact k5,fun i hi o ho=>?_⟩
   rw[ah7]at hi
   obtain⟨v,v1,v2,v3⟩:=k6 i hi o ho
   refine⟨v,v1,v2, ?_⟩
   have hpl:=plg h2
   unfold vd7 at v3 ⊢
   rw[tbb7]
   cases r0 with
   | box l =>
    simp only[Row.isBox,if_true]at v3 ⊢
    show Con _ _ w' (nth (shL H.length l) o) v
    rw[kbb7]
    exact Con.catR (vn7 (p:=AV.mfr) rfl hpl o) v3
   | own l =>
    simp only[Row.isBox,if_true]at v3 ⊢
    show Con _ _ w' (nth ((kab7 H.length l).getD i []) o) v
    rw[fw7,kbb7]
    exact Con.catR (vn7 (p:=AV.mfr) rfl (ou7 hpl i) o) v3
   | gen l=>exact lb7.mfr (vn7 (p:=AV.mfr) rfl (ou7 hpl i) o) v3
   | ints=>exact v3
   | bools=>exact v3
 ·rcases ze7 hr with ⟨h1,h2⟩ | ⟨h1,r0,h2,rfl⟩
  ·rw[af7 h1];exact .inl (h.froz _ _ _ _ h2)
  ·rw[df7 h1];exact .inr ⟨k.froz _ _ _ _ h2,k.lowN _ _ _ _ _ h2⟩
 ·rcases ze7 hr with ⟨h1,h2⟩ | ⟨h1,r0,h2,rfl⟩
  ·rw[af7 h1]
   rintro (hb | ⟨-,hb⟩)
   ·exact h.thaw _ _ _ _ h2 hb
   ·have:=hp _ _ _ _ _ h2;omega
  ·rw[df7 h1]
   rintro (hb | ⟨hb,-⟩)
   ·have:=hl _ hb
    have:=k.lowN _ _ _ _ _ h2
    omega
   ·exact k.thaw _ _ _ _ h2 hb
 ·rcases ze7 hi with ⟨h1,h2⟩ | ⟨h1,r0,h2,rfl⟩ <;> rcases ze7 hj with ⟨g1,g2⟩ | ⟨g1,r1,g2,rfl⟩
  ·rw[af7 h1,af7 g1]at he;exact h.inj _ _ _ _ _ _ _ _ h2 g2 he
  ·rw[af7 h1,df7 g1]at he
   have:=hp _ _ _ _ _ h2
   have:=k.lowN _ _ _ _ _ g2
   omega
  ·rw[df7 h1,af7 g1]at he
   have:=hp _ _ _ _ _ g2
   have:=k.lowN _ _ _ _ _ h2
   omega
  ·rw[df7 h1,df7 g1]at he
   have:=k.inj _ _ _ _ _ _ _ _ h2 g2 he
   omega
 ·rcases hb with hb | ⟨hb,-⟩
  ·exact h.rlt b hb
  ·exact k.rlt b hb
 ·rcases hb with hb | ⟨-,hb⟩
  ·exact h.src.1 b hb
  ·exact .inr (.inl (Nat.le_trans hE hb))
 ·rcases hb with hb | ⟨-,hb⟩
  ·exact (h.tau.new b q hq).2 hb
  ·have:=ht b q hq;omega
 ·rcases ze7 hj with ⟨h1,h2⟩ | ⟨h1,r0,h2,rfl⟩
  ·rw[af7 h1];exact h.tau.row _ _ _ _ _ _ _ hq h2
  ·rw[df7 h1]
   have:=k.lowN _ _ _ _ _ h2
   have:=ht b q hq
   omega
theorem sy7 {pu:Pu}{f:FuncId}{args:List RV}{K:RV→List Root→Prop}(d:Nat) (ho:args.all (el7 H d)=true) (hp:ga7 P none f (qi7 H d args) [] (fun r G=>(io7 r=true∧K r H)∨((plR r=true∧G.all pjb7=true)∧K (shR H.length r) (H++shH H.length G)))):ga7 P pu f args H K:=by
 refine⟨hp.1,fun E M w vs h hc=>?_⟩
 have e5:=uj7 h d ho hc
 have hrho:∀b,jp7 M H b→b<w.heap.size:=fun b hb=>by
  rcases hb with hb | ⟨id,fz,t,sz,r,hr,rfl⟩
  ·exact h.rlt b hb
  ·exact h.lt hr
 have hgl:uh7 (jp7 M H) w:=h.glob.mono fun _=>.inl
 have hrel:Rel (Env.of w (jp7 M H)) ⟨fun _=>0,fun _=>0,jp7 M H,fun _=>none⟩ [] w:=⟨Bel.of _ _,fun _ _ _ _ _ h=>(by cases h),fun _ _ _ _ _ h=>(by cases h),fun _ _ _ _ h=>(by cases h),fun _ _ _ _ h=>(by cases h),fun _ _ _ _ _ _ _ _ h=>(by cases h),hrho,⟨fun b hb=>.inl hb,hgl⟩,⟨fun _ _ h=>(by cases h),fun _ _ _ _ _ _ _ h=>(by cases h),fun _ _ _ h=>(by cases h)⟩⟩
 refine (hp.2 _ _ w vs hrel (kb7.up e5)).mono ?_
 rintro e w' (⟨M',G,r,v,rfl,h1,h2,h3,h4,h5,h6⟩ | ⟨_,_,hP⟩)
 case inr=>exact (pa7 hP).elim
 have hb:Below w.heap.size w w':=h1.belN
 rcases h6 with ⟨h6,h8⟩ | ⟨⟨h6,h7⟩,h8⟩
 ·exact .inl ⟨M,H,r,v,rfl,h.below hb,Kp.below h hb,uc7.up (bg7 h6 h3),fun _ _=>ac7.below hb,Nat.le_refl _,h8⟩
 refine .inl ⟨sx7 H.length w.heap.size M M',H++shH H.length G,_,v,rfl, ?_,fun x u c=>(Kp.below h hb x u c).catL,ha7.catR h6 h3,fun _ _=>ac7.below hb,by simp,h8⟩
 exact (h.below hb).cat h.rlt (fun _ _ _ _ _ hr=>h.lt hr) (fun b q hq=>h.tau.lt hq) (by have:=h.bel.size;exact this) h1 h7
def gcB (n:Nat) (K:RV→List Root→Bool) (r:RV) (H:List Root):Bool :=
 decide (n≤H.length)&&okI n (dm7 n H 100000 (xdb7 r++xcb7 (H.take n)) [])&&K (zfb7 n (dm7 n H 100000 (xdb7 r++xcb7 (H.take n)) []) r) (hp7 n (dm7 n H 100000 (xdb7 r++xcb7 (H.take n)) []) H)
theorem ru7 {pu:Pu}{f:FuncId}{args:List RV}{K:RV→List Root→Bool}(hp:ga7 P pu f args H (fun r H'=>gcB H.length K r H'=true)):ga7 P pu f args H (fun r H'=>K r H'=true):=by
 refine⟨hp.1,fun E M w vs h hc=>(hp.2 E M w vs h hc).mono ?_⟩
 rintro e w' (⟨M',H',r,v,rfl,h1,h2,h3,h4,h5,h6⟩ | ⟨_,_,hP⟩)
 case inr=>exact (pa7 hP).elim
 unfold gcB at h6
 simp only[Bool.and_eq_true,decide_eq_true_eq]at h6
 obtain⟨⟨g1,g2⟩,g3⟩:=h6
 refine .inl ⟨_,_,_,v,rfl,h1.ren g1 g2,fun x u c=>?_,h3.ren g1,h4,by rw[ne7 g1];omega,g3⟩
 have:=(h2 x u c).ren (ids:=dm7 H.length H' 100000 (xdb7 r++xcb7 (H'.take H.length)) []) g1
 rw[yh7 (qj7 c)]at this
 exact this
def gcX (n:Nat) (K:RV→List Root→Bool) (r:RV) (H:List Root):Bool :=
 match Nat.ble H.length (n+16) with
 | true=>K r H
 | false=>gcB n K r H
theorem vy7 {pu:Pu}{f:FuncId}{args:List RV}{K:RV→List Root→Bool}(hp:ga7 P pu f args H (fun r H'=>gcX H.length K r H'=true)):ga7 P pu f args H (fun r H'=>K r H'=true):=by
 refine⟨hp.1,fun E M w vs h hc=>(hp.2 E M w vs h hc).mono ?_⟩
 rintro e w' (⟨M',H',r,v,rfl,h1,h2,h3,h4,h5,h6⟩ | ⟨_,_,hP⟩)
 case inr=>exact (pa7 hP).elim
 unfold gcX at h6
 split at h6
 ·exact .inl ⟨_,_,_,v,rfl,h1,h2,h3,h4,h5,h6⟩
 ·unfold gcB at h6
  simp only[Bool.and_eq_true,decide_eq_true_eq]at h6
  obtain⟨⟨g1,g2⟩,g3⟩:=h6
  refine .inl ⟨_,_,_,v,rfl,h1.ren g1 g2,fun x u c=>?_,h3.ren g1,h4,by rw[ne7 g1];omega,g3⟩
  have:=(h2 x u c).ren (ids:=dm7 H.length H' 100000 (xdb7 r++xcb7 (H'.take H.length)) []) g1
  rw[yh7 (qj7 c)]at this
  exact this
theorem hkb7 {K:RV→List Root→Bool}{r:RV}(h:gcX n K r H=true):∃r H',K r H'=true:=by
 unfold gcX at h
 split at h
 ·exact⟨_,_,h⟩
 ·unfold gcB at h
  simp only[Bool.and_eq_true]at h
  exact⟨_,_,h.2⟩
theorem ap7 {rho:Nat→Prop}(k:Nat):∀{l m:List AV}{vs:List Value},leL k l m=true→hc7 rho w l vs→hc7 rho w m vs
 | [],[],_,_,c=>c
 | _::_,_::_,_,h,⟨v,r,e,c1,c2⟩=>by
  simp only[leL,Bool.and_eq_true]at h
  exact⟨v,r,e,vg7 k h.1 c1,ap7 k h.2 c2⟩
 | [],_::_,_,h,_=>by cases h
 | _::_,[],_,h,_=>by cases h
theorem vcb7 {rho:Nat→Prop}(k:Nat) {x y:RV}{v:Value}(h:mjb7 k x y=true) (c:vc7 rho w x v):vc7 rho w y v:=by
 unfold mjb7 at h
 split at h
 ·trivial
 ·exact vg7 k h c
 ·obtain⟨vs,e,c⟩:=c;exact⟨vs,e,ap7 k h c⟩
 ·simp only[Bool.and_eq_true,decide_eq_true_eq]at h
  obtain⟨⟨rfl,rfl⟩,h⟩:=h
  obtain⟨vs,e,c⟩:=c;exact⟨vs,e,ap7 k h c⟩
 ·exact c.elim
 ·exact c.elim
 ·cases h
theorem qq7 {rho:Nat→Prop}(k:Nat):∀{l m:List RV}{vs:List Value},fib7 k l m=true→kb7 rho w l vs→kb7 rho w m vs
 | [],[],_,_,c=>c
 | _::_,_::_,_,h,⟨v,r,e,c1,c2⟩=>by
  simp only[fib7,Bool.and_eq_true]at h
  exact⟨v,r,e,vcb7 k h.1 c1,qq7 k h.2 c2⟩
 | [],_::_,_,h,_=>by cases h
 | _::_,[],_,h,_=>by cases h
structure Sum where
 f:FuncId
 args:List RV
 r:RV
 G:List Root
def ya7 (P:Program) (s:Sum):Prop:=ga7 P none s.f s.args [] (fun r G=>r=s.r∧G=s.G)
theorem yfb7 {s:Sum}(h:ga7 P none s.f s.args [] (fun r G=>(leR 8 r s.r&&leH 8 G s.G)=true)):ya7 P s:=by
 refine⟨h.1,fun E M w vs hr hc=>(h.2 E M w vs hr hc).mono ?_⟩
 rintro e w' (⟨M',H',r,v,rfl,h1,h2,h3,h4,h5,h6⟩ | ⟨_,_,hP⟩)
 case inr=>exact (pa7 hP).elim
 simp only[Bool.and_eq_true]at h6
 exact .inl ⟨M',s.G,s.r,v,rfl,h1.le h6.2,h2.trans (Kp.le h6.2),du7 (kd7 h6.2) 8 h6.1 h3,h4,by rw[← (kd7 h6.2).1];exact h5,rfl,rfl⟩
def msb7 (H:List Root) (d:Nat) (f:FuncId) (args:List RV) (s:Sum):Bool:=Nat.beq s.f f&&args.all (el7 H d)&&fib7 8 (qi7 H d args) s.args&&plR s.r&&s.G.all pjb7
theorem ce7 {pu:Pu}{f:FuncId}{args:List RV}{K:RV→List Root→Prop}{d:Nat}{s:Sum}(hs:ya7 P s) (h:msb7 H d f args s=true) (hK:K (shR H.length s.r) (H++shH H.length s.G)):ga7 P pu f args H K:=by
 unfold msb7 at h
 simp only[Bool.and_eq_true]at h
 obtain⟨⟨⟨⟨h1,h2⟩,h3⟩,h4⟩,h5⟩:=h
 obtain rfl:=Nat.eq_of_beq_eq_true h1
 refine⟨hs.1,fun E M w vs hr hc=>?_⟩
 have e5:=qq7 8 h3 (uj7 hr d h2 hc)
 have hrho:∀b,jp7 M H b→b<w.heap.size:=fun b hb=>by
  rcases hb with hb | ⟨id,fz,t,sz,r,hr2,rfl⟩
  ·exact hr.rlt b hb
  ·exact hr.lt hr2
 have hgl:uh7 (jp7 M H) w:=hr.glob.mono fun _=>.inl
 have hrel:Rel (Env.of w (jp7 M H)) ⟨fun _=>0,fun _=>0,jp7 M H,fun _=>none⟩ [] w:=⟨Bel.of _ _,fun _ _ _ _ _ h=>(by cases h),fun _ _ _ _ _ h=>(by cases h),fun _ _ _ _ h=>(by cases h),fun _ _ _ _ h=>(by cases h),fun _ _ _ _ _ _ _ _ h=>(by cases h),hrho,⟨fun b hb=>.inl hb,hgl⟩,⟨fun _ _ h=>(by cases h),fun _ _ _ _ _ _ _ h=>(by cases h),fun _ _ _ h=>(by cases h)⟩⟩
 refine (hs.2 _ _ w vs hrel (kb7.up e5)).mono ?_
 rintro e w' (⟨M',G,r,v,rfl,g1,g2,g3,g4,g5,rfl,rfl⟩ | ⟨_,_,hP⟩)
 case inr=>exact (pa7 hP).elim
 have hb:Below w.heap.size w w':=g1.belN
 refine .inl ⟨sx7 H.length w.heap.size M M',H++shH H.length s.G,_,v,rfl, ?_,fun x u c=>(Kp.below hr hb x u c).catL,ha7.catR h4 g3,fun _ _=>ac7.below hb,by simp,hK⟩
 exact (hr.below hb).cat hr.rlt (fun _ _ _ _ _ h=>hr.lt h) (fun b q hq=>hr.tau.lt hq) (by have:=hr.bel.size;exact this) g1 h5
theorem fnb7 {K:RV→List Root→Bool}{r:RV}(h:gcB n K r H=true):∃r H',K r H'=true:=by
 unfold gcB at h
 simp only[Bool.and_eq_true]at h
 exact⟨_,_,h.2⟩
end
noncomputable def roundsX (n0 nt:Nat) (body:(Exit→AS→Bool)→AS→Bool):Nat→(Exit→AS→Bool)→AS→Bool
 | 0,_,_=>false
 | m+1,Q,σ=>body (tx7 (fun σ'=>match Nat.ble σ'.H.length (n0+16) with
   | true=>roundsX n0 nt body m Q σ'
   | false=>decide (n0≤σ'.H.length)&&okI n0 (canon n0 nt σ')&&roundsX n0 nt body m Q (normS n0 nt σ')) Q) σ
section
variable (P:Program) (ty:Ty) (call:eg7)
noncomputable def listX (ops:Array Oper):List Oper→(AS→Bool)→AS→Bool
 | [],K,σ=>K σ
 | o::l,K,σ=>opX P ty call none ops σ o (listX ops l K)
noncomputable def codeX (ord:Nat→Bool×List Nat×List Nat) (n nt:Nat):Code→(Exit→AS→Bool)→AS→Bool
 | .skip,Q,σ=>Q .normal σ
 | .region id ops dr,Q,σ=>if dr then regB P ty call nt ops (ord id) (Q .normal) σ else listX P ty call ops ops.toList (Q .normal) σ
 | .seq a b,Q,σ=>codeX ord n nt a (tx7 (codeX ord n nt b Q) Q) σ
 | .cond c a b,Q,σ=>match rdF σ c with
  | (true,.c (.bool t))=>if t then codeX ord n nt a Q σ else codeX ord n nt b Q σ
  | _=>false
 | .block id a,Q,σ=>codeX ord n nt a (alb7 id Q) σ
 | .exit id,Q,σ=>Q (.exit id) σ
 | .ret,Q,σ=>Q .ret σ
 | .loop c,Q,σ=>roundsX σ.H.length nt (codeX ord n nt c) n Q σ
 | _,_,_=>false
end
def okX (nt:Nat):Code→Bool
 | .region _ ops _=>qf7 nt ops
 | .seq a b=>okX nt a&&okX nt b
 | .cond _ a b=>okX nt a&&okX nt b
 | .block _ a=>okX nt a
 | .loop a=>okX nt a
 | _=>true
section
variable {P:Program} {ty:Ty} {call:eg7} {E:Env} {nt n:Nat} {M:Mp} {σ:AS} {a:Act} {w:World} {ops:Array Oper} {ord:Nat→Bool×List Nat×List Nat}
theorem jw7 (hT:qb7 P ty) (hcall:∀pu f args H K,call pu f args H K=true→ga7 P pu f args H (fun r H=>K r H=true)) {K:AS→Bool}{Q:Exit→Act→World→Prop}:∀(l:List Oper) {M:Mp}{σ:AS}{a:Act}{w:World},St E nt M σ a w→(∀o∈l,∀t,o.dst=some t→t<nt)→listX P ty call ops l K σ=true →
  (∀a' w',After E nt M σ a w (we7 l) (fun σ=>K σ=true) a' w'→Q .normal a' w')→wpList P ops Q l a w
 | [],M,σ,a,w,h,_,hw,hQ=>hQ a w ⟨M,σ,h,Stp.refl _ _ _ _ _,hw⟩
 | o::l,M,σ,a,w,h,hd,hw,hQ=>by
  have:=mab7 (Q:=Q) (next:=wpList P ops Q l) hT hcall h (hd o (List.mem_cons_self ..)) hw fun M' σ' a' w' q1 _ q3 q4 =>
   jw7 hT hcall l q1 (fun o ho=>hd o (List.mem_cons_of_mem _ ho)) q4 fun a2 w2 hA=>hQ a2 w2 (by
    obtain⟨M2,σ2,r1,r2,r3⟩:=hA
    exact⟨M2,σ2,r1,q3.trans r2 (fun t ht=>⟨o,List.mem_cons_self ..,ht⟩) (fun t ⟨o2,ho,ht⟩=>⟨o2,List.mem_cons_of_mem _ ho,ht⟩),r3⟩)
  unfold wpList
  split
  ·rename_i hwt;rw[if_pos hwt]at this;exact .inl this
  ·rename_i hwt;rw[if_neg hwt]at this;exact this
theorem le7 (hT:qb7 P ty) (hm:P.follows .mixedOrders=true) (hcall:∀pu f args H K,call pu f args H K=true→ga7 P pu f args H (fun r H=>K r H=true)) (hx:xd7 call):∀(c:Code),okX nt c=true→∀{K:Exit→AS→Bool}{M:Mp}{σ:AS}{a:Act}{w:World},St E nt M σ a w→codeX P ty call ord n nt c K σ=true →
  c.wp P (fun e a' w'=>(∀ch,e ≠ .panic ch)∧After E nt M σ a w (at7 c) (fun σ=>K e σ=true) a' w') a w
 | .skip,_,K,M,σ,a,w,h,hw=>wp_skip ⟨fun _ e=>(by cases e),M,σ,h,Stp.refl _ _ _ _ _,hw⟩
 | .exit id,_,K,M,σ,a,w,h,hw=>wp_exit ⟨fun _ e=>(by cases e),M,σ,h,Stp.refl _ _ _ _ _,hw⟩
 | .ret,_,K,M,σ,a,w,h,hw=>wp_ret ⟨fun _ e=>(by cases e),M,σ,h,Stp.refl _ _ _ _ _,hw⟩
 | .region id ops dr,hc,K,M,σ,a,w,h,hw=>by
  have hc:qf7 nt ops=true:=hc
  have hds:∀t,we7 ops.toList t→at7 (.region id ops dr) t:=fun t ⟨o,ho,e⟩=>List.mem_filterMap.2 ⟨o,ho,e⟩
  cases dr with
  | true =>
   have hw:regB P ty call nt ops (ord id) (K .normal) σ=true:=hw
   exact sgb7 hT hm hcall hx hc h hw (fun a' w' ⟨M2,σ2,r1,r2,r3⟩=>⟨fun _ e=>(by cases e),M2,σ2,r1,r2.mono hds,r3⟩) fun c a w hh=>hh.1 c rfl
  | false =>
   have hw:listX P ty call ops ops.toList (K .normal) σ=true:=hw
   exact wp_region_list (jw7 hT hcall ops.toList h (fc7 hc) hw fun a' w' ⟨M2,σ2,r1,r2,r3⟩=>⟨fun _ e=>(by cases e),M2,σ2,r1,r2.mono hds,r3⟩)
 | .seq x y,hc,K,M,σ,a,w,h,hw=>by
  simp only[okX,Bool.and_eq_true]at hc
  refine wp_seq (wp_mono (le7 hT hm hcall hx x hc.1 h (K:=tx7 (codeX P ty call ord n nt y K) K) hw) fun e a1 w1 ⟨hp,M1,σ1,q1,q2,q3⟩=>?_)
  cases e with
  | normal =>
   refine wp_mono (le7 hT hm hcall hx y hc.2 q1 q3) fun e a2 w2 ⟨hp2,M2,σ2,r1,r2,r3⟩=>⟨hp2,M2,σ2,r1,q2.trans r2 (fun t ht=>List.mem_append_left _ ht) (fun t ht=>List.mem_append_right _ ht),r3⟩
  | panic ch=>exact absurd rfl (hp ch)
  | exit id=>exact⟨hp,M1,σ1,q1,q2.mono fun t ht=>List.mem_append_left _ ht,q3⟩
  | goto l=>exact⟨hp,M1,σ1,q1,q2.mono fun t ht=>List.mem_append_left _ ht,q3⟩
  | ret=>exact⟨hp,M1,σ1,q1,q2.mono fun t ht=>List.mem_append_left _ ht,q3⟩
  | outgrown=>exact⟨hp,M1,σ1,q1,q2.mono fun t ht=>List.mem_append_left _ ht,q3⟩
 | .cond x y z,hc,K,M,σ,a,w,h,hw=>by
  simp only[okX,Bool.and_eq_true]at hc
  unfold codeX at hw
  split at hw
  ·rename_i b hb
   rw[mw7]at hb
   have hv:=h.rd (x:=x) (by rw[hb])
   rw[hb]at hv
   have hv':a.eval x = .bool b:=hv
   refine wp_cond hv' ?_
   cases b with
   | true=>exact wp_mono (le7 hT hm hcall hx y hc.1 h (by simpa using hw)) fun e a1 w1 ⟨hp,M1,σ1,q1,q2,q3⟩=>⟨hp,M1,σ1,q1,q2.mono fun t ht=>List.mem_append_left _ ht,q3⟩
   | false=>exact wp_mono (le7 hT hm hcall hx z hc.2 h (by simpa using hw)) fun e a1 w1 ⟨hp,M1,σ1,q1,q2,q3⟩=>⟨hp,M1,σ1,q1,q2.mono fun t ht=>List.mem_append_right _ ht,q3⟩
  ·cases hw
 | .block id x,hc,K,M,σ,a,w,h,hw=>by
  refine wp_block (wp_mono (le7 hT hm hcall hx x hc h (K:=alb7 id K) hw) fun e a1 w1 ⟨hp,M1,σ1,q1,q2,q3⟩=>?_)
  cases e with
  | exit j =>
   simp only[Exit.inBlock]
   simp only[alb7]at q3
   split
   ·rename_i e;rw[if_pos e]at q3;exact⟨fun _ e=>(by cases e),M1,σ1,q1,q2,q3⟩
   ·rename_i e;rw[if_neg e]at q3;exact⟨hp,M1,σ1,q1,q2,q3⟩
  | normal=>exact⟨hp,M1,σ1,q1,q2,q3⟩
  | panic ch=>exact absurd rfl (hp ch)
  | goto l=>exact⟨hp,M1,σ1,q1,q2,q3⟩
  | ret=>exact⟨hp,M1,σ1,q1,q2,q3⟩
  | outgrown=>exact⟨hp,M1,σ1,q1,q2,q3⟩
 | .loop x,hc,K,M,σ,a,w,h,hw=>by
  have hw:roundsX σ.H.length nt (codeX P ty call ord n nt x) n K σ=true:=hw
  have hc:okX nt x=true:=hc
  have go:∀(m:Nat) {M1:Mp} {σ1:AS} {a1:Act} {w1:World},St E nt M1 σ1 a1 w1→Stp M σ a w M1 σ1 a1 w1 (at7 x)→roundsX σ.H.length nt (codeX P ty call ord n nt x) m K σ1=true→Code.rounds P x (fun e a' w'=>(∀ch,e ≠ .panic ch)∧After E nt M σ a w (at7 x) (fun σ=>K e σ=true) a' w') m a1 w1:=by
   intro m
   induction m with
   | zero=>intro M1 σ1 a1 w1 _ _ h;cases h
   | succ m ih =>
    intro M1 σ1 a1 w1 h1 hst hw
    rw[rounds_succ]
    refine wp_mono (le7 hT hm hcall hx x hc h1 hw) fun e a2 w2 ⟨hp,M2,σ2,q1,q2,q3⟩=>?_
    have q4:=hst.trans q2 (fun _ h=>h) (fun _ h=>h)
    cases e with
    | normal =>
     simp only[tx7]at q3
     split at q3
     ·exact ih q1 q4 q3
     simp only[Bool.and_eq_true,decide_eq_true_eq]at q3
     obtain⟨⟨g1,g2⟩,g3⟩:=q3
     refine ih (q1.norm g1 g2) ⟨?_,q4.kp.norm q4.len,q4.tm⟩ g3
     show σ.H.length≤(hp7 σ.H.length (canon σ.H.length nt σ2) σ2.H).length
     rw[ne7 g1];omega
    | panic ch=>exact absurd rfl (hp ch)
    | exit id=>exact⟨hp,M2,σ2,q1,q4,q3⟩
    | goto l=>exact⟨hp,M2,σ2,q1,q4,q3⟩
    | ret=>exact⟨hp,M2,σ2,q1,q4,q3⟩
    | outgrown=>exact⟨hp,M2,σ2,q1,q4,q3⟩
  exact wp_loop_rounds _ (go n h (Stp.refl _ _ _ _ _) hw)
 | .label l,_,_,_,_,_,_,_,h=>by cases h
 | .goto l,_,_,_,_,_,_,_,h=>by cases h
 | .scope b,_,_,_,_,_,_,_,h=>by cases h
 | .rangeFunc ..,_,_,_,_,_,_,_,h=>by cases h
 | .refuse y,_,_,_,_,_,_,_,h=>by cases h
theorem ov7 (hx:xd7 call) {K:AS→Bool}:∀(l:List Oper) {σ:AS},listX P ty call ops l K σ=true→∃σ,K σ=true
 | [],_,h=>⟨_,h⟩
 | o::l,_,h=>by
  obtain⟨σ',h⟩:=wm7 hx h
  exact ov7 hx l h
theorem jk7 (hx:xd7 call) {fins:List Nat}{L:AS→Bool}:∀(m:Nat) {dy:Bool}{l:Array Bool}{σ:AS},expB P ty call ops fins L m dy l σ=true→∃σ,L σ=true
 | 0,_,_,_,h=>by
  simp only[expB,Bool.and_eq_true]at h
  exact⟨_,h.2⟩
 | m+1,dy,l,σ,h=>by
  unfold expB at h
  split at h
  ·obtain⟨σ',h⟩:=md7 hx ((ge7 _ _ _ _ _ _ _).symm.trans h)
   exact jk7 hx m h
  split at h
  ·exact jk7 hx m h
  split at h
  ·obtain⟨σ',h⟩:=md7 hx ((ge7 _ _ _ _ _ _ _).symm.trans h)
   exact jk7 hx m h
  ·simp only[Bool.and_eq_true,List.all_eq_true,Bool.not_eq_true']at h
   obtain⟨h1,h2⟩:=h
   cases hr:Region.ready .any ops l with
   | nil=>rw[hr]at h1;cases h1
   | cons i r =>
    obtain⟨σ',h⟩:=wm7 hx (h2 i (by rw[hr];exact List.mem_cons_self ..)).2
    exact jk7 hx m h
theorem ogb7 (hx:xd7 call) {q:Bool×List Nat×List Nat}{K:AS→Bool}(h:regB P ty call nt ops q K σ=true):∃σ,K σ=true:=by
 unfold regB at h
 simp only[Bool.and_eq_true]at h
 obtain⟨-,h⟩:=h
 split at h
 ·exact (ii7 hx _ h).elim id fun ⟨e,he⟩=>by cases he
 ·exact jk7 hx _ h
theorem rd7 (hx:xd7 call):∀(c:Code) {K:Exit→AS→Bool}{σ:AS},codeX P ty call ord n nt c K σ=true→∃e σ,K e σ=true
 | .skip,_,_,h=>⟨_,_,h⟩
 | .exit _,_,_,h=>⟨_,_,h⟩
 | .ret,_,_,h=>⟨_,_,h⟩
 | .region id ops dr,K,σ,h=>by
  cases dr with
  | true =>
   obtain⟨σ',h⟩:=ogb7 hx (show regB P ty call nt ops (ord id) (K .normal) σ=true from h)
   exact⟨_,_,h⟩
  | false =>
   obtain⟨σ',h⟩:=ov7 hx _ (show listX P ty call ops ops.toList (K .normal) σ=true from h)
   exact⟨_,_,h⟩
 | .seq x y,K,σ,h=>by
  obtain⟨e,σ',h⟩:=rd7 hx x (K:=tx7 (codeX P ty call ord n nt y K) K) h
  cases e with
  | normal=>exact rd7 hx y h
  | _=>exact⟨_,_,h⟩
 | .cond x y z,K,σ,h=>by
  unfold codeX at h
  split at h
  ·split at h
   ·exact rd7 hx y h
   ·exact rd7 hx z h
  ·cases h
 | .block id x,K,σ,h=>by
  obtain⟨e,σ',h⟩:=rd7 hx x (K:=alb7 id K) h
  cases e with
  | exit j =>
   simp only[alb7]at h
   split at h <;> exact⟨_,_,h⟩
  | _=>exact⟨_,_,h⟩
 | .loop x,K,σ,h=>by
  have go:∀(n0 m:Nat) {σ:AS},roundsX n0 nt (codeX P ty call ord n nt x) m K σ=true→∃e σ,K e σ=true:=by
   intro n0 m
   induction m with
   | zero=>intro σ h;cases h
   | succ m ih =>
    intro σ h
    obtain⟨e,σ',h⟩:=rd7 hx x h
    cases e with
    | normal =>
     simp only[tx7]at h
     split at h
     ·exact ih h
     ·simp only[Bool.and_eq_true]at h
      exact ih h.2
    | _=>exact⟨_,_,h⟩
  exact go _ _ h
 | .label l,_,_,h=>by cases h
 | .goto l,_,_,h=>by cases h
 | .scope b,_,_,h=>by cases h
 | .rangeFunc ..,_,_,h=>by cases h
 | .refuse y,_,_,h=>by cases h
end
structure FnX where
 code:Code
 res:List ResultVar
 nt:Nat
 ord:Nat→Bool×List Nat×List Nat
def mgb7 (P : Program) (f : FuncId) (t : FnX) : Prop := ∃ fn, P.funcs[f]? = some fn ∧ fn.body = some t.code ∧ (fn.name == "runtime.NumGoroutine") = false ∧ fn.ntmps = t.nt ∧ fn.results.toList = t.res ∧ okX t.nt t.code = true
def brb7 (P:Program) (f:FuncId):Bool :=
 match P.funcs[f]? with
 | some fn=>match fn.body with
  | some c => !(fn.name == "runtime.NumGoroutine") && okX fn.ntmps c
  | none=>false
 | none=>false
def kqb7 (P:Program) (ord:FuncId→Nat→Bool×List Nat×List Nat) (fs:List FuncId) (f:FuncId):Option FnX :=
 if fs.contains f then
  match P.funcs[f]? with
  | some fn=>match fn.body with
   | some c=>some ⟨c,fn.results.toList,fn.ntmps,ord f⟩
   | none=>none
  | none=>none
 else none
theorem qib7 {P:Program}{ord:FuncId→Nat→Bool×List Nat×List Nat}{fs:List FuncId}(h:fs.all (brb7 P)=true) (f:FuncId) (t:FnX) (ht:kqb7 P ord fs f=some t):mgb7 P f t:=by
 unfold kqb7 at ht
 split at ht
 ·rename_i hm
  have hb:=List.all_eq_true.1 h f (by simpa using hm)
  unfold brb7 at hb
  split at ht
  ·rename_i fn hf
   rw[hf]at hb
   simp only at hb
   split at ht
   ·rename_i c hc
    rw[hc]at hb
    simp only[Bool.and_eq_true,Bool.not_eq_true']at hb
    cases ht
    exact⟨fn,hf,hc,hb.1,rfl,rfl,hb.2⟩
   ·cases ht
  ·cases ht
 ·cases ht
noncomputable def callX (P:Program) (ty:Ty) (T:FuncId→Option FnX) (S:List Sum) (n d:Nat):Nat→eg7
 | 0,_,_,_,_,_=>false
 | k+1,pu,f,args,H,K=>match S.find? (msb7 H d f args) with
  | some s=>K (shR H.length s.r) (H++shH H.length s.G)
  | none=>match T f with
   | some t=>decide (args.length≤t.nt)&&(if pu.isNone then codeX P ty (callX P ty T S n d k) t.ord n t.nt t.code (rjb7 ty t.res (gcX H.length K)) ⟨dv7 0 args,H⟩
    else args.all (el7 H d)&&codeX P ty (callX P ty T S n d k) t.ord n t.nt t.code (rjb7 ty t.res (fun r G=>match io7 r with
     | true=>K r H
     | false=>gcB 0 (fun r G=>plR r&&G.all pjb7&&K (shR H.length r) (H++shH H.length G)) r G)) ⟨dv7 0 (qi7 H d args),[]⟩)
   | none=>false
section
variable {P:Program} {ty:Ty}
theorem gm7 (hT:qb7 P ty) (hm:P.follows .mixedOrders=true) {call:eg7}(hcall:∀pu f args H K,call pu f args H K=true→ga7 P pu f args H (fun r H=>K r H=true)) (hx:xd7 call) {f:FuncId}{t:FnX}(hf:mgb7 P f t) {n:Nat}{args:List RV}(hn:args.length≤t.nt) {H:List Root}{K:RV→List Root→Bool}
  (h:codeX P ty call t.ord n t.nt t.code (rjb7 ty t.res K) ⟨dv7 0 args,H⟩=true):ga7 P none f args H (fun r H=>K r H=true):=by
 obtain⟨fn,h1,h2,h3,h4,h5,h6⟩:=hf
 refine⟨⟨fn,t.code,h1,h3,h2⟩,fun E M w vs hrel hc=>calls_of_wp h1 h2 ?_⟩
 have hst:=St.enter (hrel.env []) rfl hc (n:=t.nt) hn
 rw[h4]
 refine wp_mono (le7 hT hm hcall hx t.code h6 hst h) fun e a' w' ⟨hp,M',σ',q1,q2,q3⟩=>?_
 have fin:(decide (xh7 ty σ' t.res).1&&K (one (xh7 ty σ' t.res).2) σ'.H)=true→a'.defers=[]∧∃v,(results fn a'.tmps).run P w' = .ok v w'∧((∃M' H' r v',Ending.returned v = .returned v'∧Rel E M' H' w'∧Kp M H w M' H' w'∧ha7 M' H' w' r v'∧(∀g,(none:Pu)=some g→ac7 (g.map M.phi) w w')∧H.length≤H'.length∧K r H'=true)∨∃ch,Ending.returned v = .panicked ch∧bl7 E M H w ch w'):=by
  intro hr
  simp only[Bool.and_eq_true,decide_eq_true_eq]at hr
  obtain⟨g1,g2⟩:=hr
  obtain⟨v,k1,k2⟩:=wf7 hT q1 h5 g1
  exact⟨q1.df,v,k2,.inl ⟨M',σ'.H,_,v,rfl,q1.rel.env2,q2.kp,k1,fun g e=>(by cases e),q2.len,g2⟩⟩
 cases e with
 | normal=>exact fin q3
 | ret=>exact fin q3
 | panic ch=>exact absurd rfl (hp ch)
 | exit id=>cases q3
 | goto l=>cases q3
 | outgrown=>cases q3
theorem iab7 {rs:List ResultVar}{K:RV→List Root→Bool}{e:Exit}{σ:AS}(h:rjb7 ty rs K e σ=true):∃r H,K r H=true:=by
 cases e with
 | ret=>simp only[rjb7,Bool.and_eq_true]at h;exact⟨_,_,h.2⟩
 | normal=>simp only[rjb7,Bool.and_eq_true]at h;exact⟨_,_,h.2⟩
 | _=>cases h
theorem aw7 (hT:qb7 P ty) (hm:P.follows .mixedOrders=true) {T:FuncId→Option FnX}{S:List Sum}{n d:Nat}(hF:∀f t,T f=some t→mgb7 P f t) (hS:∀s∈S,ya7 P s):∀k:Nat,(∀(pu:Pu) (f:FuncId) (args:List RV) (H:List Root) (K:RV→List Root→Bool),callX P ty T S n d k pu f args H K=true→ga7 P pu f args H (fun r H=>K r H=true))∧xd7 (callX P ty T S n d k)
 | 0=>⟨fun _ _ _ _ _ h=>(by cases h),fun _ _ _ _ _ h=>(by cases h)⟩
 | k+1=>by
  obtain⟨ih1,ih2⟩:=aw7 hT hm hF hS k
  refine⟨fun pu f args H K h=>?_,fun pu f args H K h=>?_⟩
  ·simp only[callX]at h
   split at h
   ·rename_i s hs
    exact ce7 (hS s (List.mem_of_find?_eq_some hs)) (List.find?_some hs) h
   split at h
   ·rename_i t ht
    simp only[Bool.and_eq_true,decide_eq_true_eq]at h
    obtain⟨h7,h⟩:=h
    split at h
    ·rename_i hpu
     obtain rfl:pu=none:=by cases pu <;> first | rfl | cases hpu
     exact vy7 (gm7 hT hm ih1 ih2 (hF f t ht) h7 h)
    ·simp only[Bool.and_eq_true]at h
     obtain⟨h8,h⟩:=h
     have hk:=gm7 hT hm ih1 ih2 (hF f t ht) (args:=qi7 H d args) (by rw[fm7];exact h7) h
     refine sy7 d h8 ⟨hk.1,fun E M w vs hr hc=>(hk.2 E M w vs hr hc).mono ?_⟩
     rintro e w' (⟨M',G,r,v,rfl,g1,g2,g3,g4,g5,g6⟩ | ⟨_,_,hP⟩)
     case inr=>exact (pa7 hP).elim
     split at g6
     ·rename_i hs
      exact .inl ⟨M',G,r,v,rfl,g1,g2,g3,g4,g5,.inl ⟨hs,g6⟩⟩
     ·unfold gcB at g6
      simp only[Bool.and_eq_true,decide_eq_true_eq]at g6
      obtain⟨⟨q1,q2⟩,q3⟩:=g6
      refine .inl ⟨_,_,_,v,rfl,g1.ren q1 q2,fun x u c=>?_,g3.ren q1,g4,Nat.zero_le _,.inr q3⟩
      have:=(g2 x u c).ren (ids:=dm7 0 G 100000 (xdb7 r++xcb7 (G.take 0)) []) q1
      rw[yh7 (n:=0) (qj7 c)]at this
      exact this
   ·cases h
  ·simp only[callX]at h
   split at h
   ·exact⟨_,_,h⟩
   split at h
   ·rename_i t ht
    simp only[Bool.and_eq_true]at h
    obtain⟨-,h⟩:=h
    split at h
    ·obtain⟨e,σ,h⟩:=rd7 ih2 _ h
     obtain⟨r,H',h⟩:=iab7 h
     exact hkb7 h
    ·simp only[Bool.and_eq_true]at h
     obtain⟨e,σ,h⟩:=rd7 ih2 _ h.2
     obtain⟨r,H',h⟩:=iab7 h
     split at h
     ·exact⟨_,_,h⟩
     ·obtain⟨r,H',h⟩:=fnb7 h
      simp only[Bool.and_eq_true]at h
      exact⟨_,_,h.2⟩
   ·cases h
end
def rsb7:List AV→Bool
 | []=>false
 | .nils::_=>true
 | .nilp::_=>true
 | _::l=>rsb7 l
def cpb7 (ty:Ty):Ty:=fun t=>⟨(ty t).sz,(ty t).bytes,(ty t).k,(ty t).zero,if rsb7 (ty t).zero then some [] else none⟩
theorem fgb7 {P:Program}{ty:Ty}(h:qb7 P ty):qb7 P (cpb7 ty):=fun t=>by
 refine⟨?_,(h t).i⟩
 have hk:=(h t).k
 show kOk P (cpb7 ty) t (ty t).k
 cases hh:(ty t).k <;> rw[hh]at hk <;> exact hk
def mtb7:FuncId→Nat→Bool×List Nat×List Nat
 | 20,n=>match n with | 25=>(false,[11,13],[]) | _=>(false,[],[])
 | 27,n=>match n with | 6=>(false,[],[]) | 12=>(false,[],[]) | _=>(false,[],[])
 | 28,n=>match n with | 6=>(false,[],[]) | 12=>(false,[],[]) | _=>(false,[],[])
 | 29,n=>match n with | 5=>(false,[5],[]) | _=>(false,[],[])
 | 31,n=>match n with | 4=>(true,[7],[1,2,3,4,5,6,7,8,9,11,12,13,17,19,20,21,22,23,24,26,27,28,29,46,47,48,49,54,55,56,91,95]) | 18=>(false,[],[]) | 23=>(false,[17,19],[]) | _=>(false,[],[])
 | 33,n=>match n with | 6=>(false,[],[]) | _=>(false,[],[])
 | 35,n=>match n with | 3=>(false,[],[]) | 10=>(false,[],[]) | 13=>(false,[],[]) | 15=>(false,[],[]) | _=>(false,[],[])
 | 37,n=>match n with | 11=>(true,[13],[1,2,4,5,6,7,8,10,11,12,16,28,34,35,36,37,40,41,42,43,44,45,46,47,48,49,50,51,53,58]) | 16=>(true,[13,16],[1,2,4,5,6,7,8,10,11,12,16,28,34,35,36,37,53,58,67,68,69,70,71,72,73,74,75,76,77,78,79,80,81,82]) | _=>(false,[],[])
 | 38,n=>match n with | 9=>(false,[13],[]) | _=>(false,[],[])
 | 43,n=>match n with | 4=>(false,[],[]) | _=>(false,[],[])
 | 45,n=>match n with | 14=>(true,[8,9],[3,4,5,6,7,8,9,10,11,12,16,23,31,67,68,69,70,71,72,73,74]) | _=>(false,[],[])
 | 48,n=>match n with | 11=>(false,[14,16],[]) | _=>(false,[],[])
 | 71,n=>match n with | 2=>(true,[13,15,18,21],[0,1,2,3,4,6,7,8,9,10,11,12,13,14,15,16,17,18,19,20,21,22,23]) | _=>(false,[],[])
 | 74,n=>match n with | 11=>(false,[],[]) | 15=>(false,[],[]) | _=>(false,[],[])
 | 77,n=>match n with | 6=>(false,[],[]) | _=>(false,[],[])
 | 79,n=>match n with | 5=>(false,[7,9],[]) | 10=>(false,[9,11],[]) | _=>(false,[],[])
 | 80,n=>match n with | 5=>(false,[6],[]) | _=>(false,[],[])
 | 84,n=>match n with | 6=>(false,[],[]) | _=>(false,[],[])
 | 85,n=>match n with | 21=>(false,[15,17],[]) | _=>(false,[],[])
 | 86,n=>match n with | 8=>(false,[],[]) | 13=>(false,[],[]) | _=>(false,[],[])
 | 87,n=>match n with | 2=>(false,[9,11],[]) | _=>(false,[],[])
 | 88,n=>match n with | 9=>(false,[],[]) | 13=>(false,[],[]) | 14=>(false,[],[]) | _=>(false,[],[])
 | 90,n=>match n with | 1=>(false,[],[]) | _=>(false,[],[])
 | 96,n=>match n with | 1=>(false,[],[]) | _=>(false,[],[])
 | 106,n=>match n with | 11=>(false,[14,16],[]) | 19=>(false,[11],[]) | _=>(false,[],[])
 | 107,n=>match n with | 1=>(false,[],[]) | _=>(false,[],[])
 | 108,n=>match n with | 15=>(true,[2],[2,5,6,8,9,10,11,12,13,14,15,16,17,20,21,22,23,30,31,32,37,50,57,58]) | _=>(false,[],[])
 | 109,n=>match n with | 2=>(false,[9,11],[]) | _=>(false,[],[])
 | 116,n=>match n with | 10=>(false,[8],[]) | 16=>(false,[],[]) | _=>(false,[],[])
 | 118,n=>match n with | 5=>(true,[4,6,8],[1,2,3,5,7,9,10,11,12,15,16,17,18,19,20,21,22,25,26,27,28]) | 10=>(true,[7,12,14],[1,2,3,5,7,9,10,11,12,25,26,27,28,31,32,33,34,35,36,37,38,39,40,41,42,43,44]) | _=>(false,[],[])
 | 119,n=>match n with | 3=>(false,[13],[]) | _=>(false,[],[])
 | 146,n=>match n with | 12=>(false,[16],[]) | 13=>(false,[14],[]) | 15=>(true,[10,12],[2,3,4,5,6,7,9,10,11,13,14,16,17,18,19,21,23,24,32,33,34,35,39,40,41,42,48,85,86,87,88,89,90,91,92,93,94,95,96,100,101,102,103,116,117,118,119,135,136,137,138]) | 21=>(true,[1],[2,3,4,5,6,7,9,10,11,13,14,16,17,18,19,21,23,24,32,33,34,35,39,40,41,42,48,100,101,102,103,106,107,108,109,110,111,116,117,118,119,135,136,137,138]) | 31=>(false,[15],[]) | 32=>(false,[],[]) | 34=>(true,[3,17],[2,3,4,5,6,7,9,10,11,13,14,16,17,18,19,21,23,24,32,33,34,35,39,40,41,42,48,100,101,102,103,116,117,118,119,135,136,137,138,176,177,178,179,180,181,182,183,184,185,186,187,188,189,190,191,192,193]) | 36=>(true,[8],[2,3,4,5,6,7,9,10,11,13,14,16,17,18,19,21,23,24,32,33,34,35,39,40,41,42,48,100,101,102,103,116,117,118,119,135,136,137,138,195,196,197,198,199,200,201,202]) | _=>(false,[],[])
 | 147,n=>match n with | 20=>(false,[17],[]) | _=>(false,[],[])
 | 148,n=>match n with | 1=>(false,[],[]) | _=>(false,[],[])
 | 153,n=>match n with | 3=>(true,[11],[1,2,4,5,6,10,11,12,13,14,15,16,17,18,19,20]) | 4=>(false,[],[]) | _=>(false,[],[])
 | 154,n=>match n with | 3=>(true,[12],[1,2,4,5,6,10,11,12,13,14,15,16,17,18,19,20,21]) | 4=>(false,[],[]) | _=>(false,[],[])
 | 162,n=>match n with | 6=>(true,[8],[1,2,4,5,6,7,8,9,10,11,13,14,15,20,25,27,28,29,30,31,32,33,44,54,62,63,64,65,85,105]) | 20=>(true,[11,13],[1,2,4,5,6,7,8,9,10,11,13,14,15,20,25,44,54,62,63,64,65,85,86,87,88,89,90,91,92,93,94,95,96,97,105]) | _=>(false,[],[])
 | 163,n=>match n with | 1=>(true,[7,10],[2,3,4,5,6,7,10,12,13,14,15,16,17,18,19,20,21,22,31,52]) | 2=>(false,[],[]) | 4=>(false,[],[]) | _=>(false,[],[])
 | 164,n=>match n with | 19=>(false,[],[]) | _=>(false,[],[])
 | 165,n=>match n with | 6=>(false,[],[]) | _=>(false,[],[])
 | 167,n=>match n with | 0=>(false,[9,10],[]) | _=>(false,[],[])
 | 168,n=>match n with | 1=>(false,[],[]) | 4=>(false,[],[]) | _=>(false,[],[])
 | 172,n=>match n with | 5=>(false,[],[]) | 10=>(false,[],[]) | _=>(false,[],[])
 | 173,n=>match n with | 5=>(false,[],[]) | 7=>(false,[],[]) | 8=>(false,[19],[]) | 10=>(false,[],[]) | _=>(false,[],[])
 | 174,n=>match n with | 1=>(false,[],[]) | 3=>(false,[],[]) | 8=>(false,[],[]) | 10=>(false,[],[]) | 12=>(false,[],[]) | _=>(false,[],[])
 | 175,n=>match n with | 1=>(true,[15],[0,1,4,5,6,7,8,9,10,20,21,22,23,24,25,26,27,28,29,30,31,32,33,54,65,76,100,121]) | 3=>(false,[],[]) | 7=>(true,[10],[0,1,4,5,6,7,8,9,10,54,65,66,67,68,69,70,71,72,73,74,76,100,121]) | 10=>(false,[],[]) | 13=>(false,[],[]) | _=>(false,[],[])
 | 183,n=>match n with | 19=>(false,[],[]) | _=>(false,[],[])
 | 184,n=>match n with | 8=>(false,[9],[]) | _=>(false,[],[])
 | 193,n=>match n with | 10=>(false,[18,20],[]) | _=>(false,[],[])
 | 199,n=>match n with | 1=>(true,[6],[0,4,5,6,7,8,9,10,11,12,13,14]) | 5=>(true,[7,9],[0,4,5,6,12,13,14,16,17,18,19,20,21,22,23]) | _=>(false,[],[])
 | 201,n=>match n with | 2=>(false,[6],[]) | _=>(false,[],[])
 | 204,n=>match n with | 11=>(false,[],[]) | 12=>(false,[19],[]) | 13=>(false,[10],[]) | 17=>(false,[12],[]) | _=>(false,[],[])
 | 207,n=>match n with | 4=>(false,[],[]) | _=>(false,[],[])
 | 209,n=>match n with | 3=>(false,[13,15],[]) | _=>(false,[],[])
 | 215,n=>match n with | 4=>(false,[],[]) | 6=>(false,[15,17],[]) | _=>(false,[],[])
 | 216,n=>match n with | 5=>(false,[],[]) | 11=>(false,[15,17],[]) | 17=>(false,[],[]) | 23=>(false,[15,17],[]) | 35=>(false,[],[]) | _=>(false,[],[])
 | 221,n=>match n with | 1=>(false,[],[]) | 5=>(false,[],[]) | 6=>(true,[15,18],[0,2,4,6,7,8,41,46,71,72,73,74,75,76,77,78,79,80,81,82,83,84,85,86,87,88,95]) | 9=>(true,[12,15],[0,2,4,6,7,8,41,46,95,96,97,98,99,100,101,102,103,104,105,106,107,108,109,110]) | _=>(false,[],[])
 | 223,n=>match n with | 3=>(false,[],[]) | 4=>(false,[15],[]) | 5=>(false,[15],[]) | _=>(false,[],[])
 | 226,n=>match n with | 22=>(true,[3],[1,2,4,5,6,7,8,9,10,12,13,14,15,19,26,27,28,29,30,45,49,50,51,52,60,62,74,75,76,77,78,79,80,81]) | _=>(false,[],[])
 | 235,n=>match n with | 9=>(true,[5,19],[1,2,4,5,6,7,8,19,23,24,25,26,31,32,33,34,35,36,37,38,39,40,41,42,43,44,45,46,47,48,49]) | _=>(false,[],[])
 | 238,n=>match n with | 3=>(false,[21,23],[]) | _=>(false,[],[])
 | 242,n=>match n with | 1=>(false,[],[]) | 3=>(false,[],[]) | _=>(false,[],[])
 | 271,n=>match n with | 1=>(false,[],[]) | 2=>(false,[],[]) | 3=>(false,[],[]) | _=>(false,[],[])
 | 272,n=>match n with | 0=>(false,[13,15],[]) | _=>(false,[],[])
 | 274,n=>match n with | 0=>(false,[7,9],[]) | _=>(false,[],[])
 | _,_=>(false,[],[])
def atb7:List FuncId:=[18,19,20,27,28,29,30,31,33,35,37,38,39,43,44,45,46,48,70,71,72,73,74,77,79,80,84,85,86,87,88,89,90,91,92,93,94,95,96,102,103,104,105,106,107,108,109,110,112,113,114,115,116,117,118,119,120,121,122,135,136,137,145,146,147,148,149,150,151,152,153,154,155,156,157,158,159,161,162,163,164,165,166,167,168,169,170,171,172,173,174,175,176,181,182,183,184,185,186,187,188,189,190,191,192,193,194,195,196,197,198,199,200,201,202,203,204,205,206,207,208,209,210,211,212,213,214,215,216,217,218,219,220,221,222,223,224,225,226,227,228,229,230,231,232,233,234,235,236,237,238,239,240,241,242,243,244,270,271,272,273,274]
def slL (sz:Nat) (l:List (List AV)):AV:=.sl l.length sz (fun i j=>nth (l.getD i []) j)
def tyX:Ty:=cpb7 ty
theorem tlb7:qb7 Tryz.prog tyX:=fgb7 bc7
theorem jlb7:atb7.all (brb7 Tryz.prog)=true:=by decide +kernel
noncomputable def runX (S:List Sum):eg7:=callX Tryz.prog tyX (kqb7 Tryz.prog mtb7 atb7) S 80 8 40
theorem ecb7 {S:List Sum}(hS:∀s∈S,ya7 Tryz.prog s) {pu:Pu}{f:FuncId}{args:List RV}{H:List Root}{K:RV→List Root→Bool}(h:runX S pu f args H K=true):ga7 Tryz.prog pu f args H (fun r H=>K r H=true) :=
 (aw7 tlb7 (by kernel_rfl) (qib7 jlb7) hS 40).1 _ _ _ _ _ h
theorem la7 {S:List Sum}(hS:∀s∈S,ya7 Tryz.prog s) (s:Sum) (h:runX S none s.f s.args [] (gcB 0 fun r G=>leR 8 r s.r&&leH 8 G s.G)=true):ya7 Tryz.prog s:=yfb7 (ru7 (H:=[]) (K:=fun r G=>leR 8 r s.r&&leH 8 G s.G) (ecb7 hS h))
theorem ka7:∀s∈([]:List Sum),ya7 Tryz.prog s:=fun _ h=>by cases h
theorem ba7 {s:Sum}{S:List Sum}(h:ya7 Tryz.prog s) (hS:∀s∈S,ya7 Tryz.prog s):∀x∈s::S,ya7 Tryz.prog x:=fun x hx=>by
 rcases List.mem_cons.1 hx with rfl | hx
 ·exact h
 ·exact hS x hx
def i6 (n:Int):AV:=.int .i64 n
def no7 (l:List Int):AV:=slL 1 (l.map fun n=>[i6 n])
def wl7 (l:List (List Int)):AV:=slL 1 (l.map fun r=>[no7 r])
def kmb7:RV:=.agg [slL 1 [[slL 2 [[i6 0,i6 2]]]],slL 2 [[i6 0,no7 [0]]]]
def dfb7:RV:=.agg [i6 40,i6 1,i6 5,i6 1,i6 3,slL 2 [[i6 60,i6 2]],slL 4 [[i6 2,i6 5,i6 90,i6 1]],wl7 [[0,0,0],[0,0,0],[0,0,0]],wl7 [[0,0,0],[0,0,0],[0,0,0]]]
def zob7:RV:=.agg [slL 1 [[slL 2 [[i6 0,i6 2]]]],slL 2 [[i6 0,no7 [0]]],wl7 [[0]],slL 3 [[i6 2,no7 [5],i6 6]],i6 0]
def ej7:Sum:=⟨172,[kmb7,.agg [wl7 [[0]],slL 3 [[i6 2,no7 [5],i6 6]]]],.c (.bool true),[]⟩
def wh7:Sum:=⟨43,[dfb7],.c (i6 0),[]⟩
def kf7:Sum:=⟨145,[dfb7,kmb7],.c (i6 0),[]⟩
def fh7:Sum:=⟨116,[dfb7,kmb7,.agg [wl7 [[0]],slL 3 [[i6 2,no7 [5],i6 6]]]],.c (i6 0),[]⟩
def cj7:Sum:=⟨86,[dfb7,kmb7],.tup [.c (i6 0),.c (i6 0)],[]⟩
def un7:Sum:=⟨44,[dfb7,zob7],.c (i6 0),[]⟩
def ml7:Sum:=⟨117,[.agg [.nils,i6 1,.flt 0,.flt 0]],.c (i6 0),[]⟩
def so7:Sum:=⟨79,[kmb7],.agg [.h 0 0 1,.h 2 0 1],[.live false 124 1 (.own [[.h 1 0 1]]),.live false 121 2 (.gen [[i6 0,i6 2]]),.live false 70 2 (.own [[i6 0,.h 3 0 1]]),.live false 3 1 (.ints .i64 [0])]⟩
def hk7:Sum:=⟨118,[.agg [wl7 [[0]],slL 3 [[i6 2,no7 [5],i6 6]]]],.agg [.h 0 0 1,.h 2 0 1],[.live false 78 1 (.own [[.h 1 0 1]]),.live false 2 1 (.ints .i64 [0]),.live false 136 3 (.own [[i6 2,.h 3 0 1,i6 6]]),.live false 2 1 (.ints .i64 [5])]⟩
theorem vk7:ya7 Tryz.prog ej7:=la7 (S:=[]) ka7 ej7 (by decide +kernel)
theorem tg7:ya7 Tryz.prog wh7:=la7 (S:=[]) ka7 wh7 (by decide +kernel)
theorem bf7:ya7 Tryz.prog kf7:=la7 (S:=[wh7]) (ba7 tg7 ka7) kf7 (by decide +kernel)
theorem ni7:ya7 Tryz.prog fh7:=la7 (S:=[kf7,ej7]) (ba7 bf7 (ba7 vk7 ka7)) fh7 (by decide +kernel)
theorem rj7:ya7 Tryz.prog cj7:=la7 (S:=[kf7,wh7]) (ba7 bf7 (ba7 tg7 ka7)) cj7 (by decide +kernel)
theorem es7:ya7 Tryz.prog un7:=la7 (S:=[fh7,cj7]) (ba7 ni7 (ba7 rj7 ka7)) un7 (by decide +kernel)
theorem oq7:ya7 Tryz.prog ml7:=la7 (S:=[]) ka7 ml7 (by decide +kernel)
theorem dt7:ya7 Tryz.prog so7:=la7 (S:=[]) ka7 so7 (by decide +kernel)
theorem sp7:ya7 Tryz.prog hk7:=la7 (S:=[]) ka7 hk7 (by decide +kernel)
theorem rk7 [Pan] {P:Program}{pu:Pu}{f:FuncId}{args:List RV}{H:List Root}{K:RV→List Root→Prop}(h:ga7 P none f args H (fun _ _=>False)):ga7 P pu f args H K :=
 ⟨h.1,fun E M w vs hr hc=>(h.2 E M w vs hr hc).mono fun e w' hh=>hh.imp (fun ⟨_,_,_,_,_,_,_,_,_,_,hf⟩=>hf.elim) id⟩
def hhb7:Tw:=.br 0 5 (.br 0 6 (.br 0 7 (.br 0 8 (.br 0 9 (.br 0 10 (.d) .no) .no) (.br 0 9 (.br 0 8 (.br 0 10 (.d) .no) (.br 0 10 (.br 0 8 (.d) .no) .no)) .no)) (.br 0 8 (.br 0 7 (.br 0 9 (.br 0 10 (.d) .no) .no) (.br 0 9 (.br 0 7 (.br 0 10 (.d) .no) .no) .no)) (.br 0 9 (.br 0 7 (.br 0 8 (.br 0 10 (.d) .no) (.br 0 10 (.br 0 8 (.d) .no) .no)) (.br 0 8 (.br 0 7 (.br 0 10 (.d) .no) .no) .no)) .no))) (.br 0 9 (.br 0 6 (.br 0 7 (.br 0 8 (.br 0 10 (.d) .no) (.br 0 10 (.br 0 8 (.d) .no) .no)) (.br 0 8 (.br 0 7 (.br 0 10 (.d) .no) .no) .no)) .no) .no)) (.br 0 9 (.br 0 5 (.br 0 6 (.br 0 7 (.br 0 8 (.br 0 10 (.d) .no) (.br 0 10 (.br 0 8 (.d) .no) .no)) (.br 0 8 (.br 0 7 (.br 0 10 (.d) .no) .no) .no)) .no) .no) .no)
def rlb7:Tw:=.br 0 4 (.br 0 5 (.br 0 10 (.br 0 11 (.br 0 12 (.br 0 13 (.br 0 14 (.d) .no) .no) (.br 0 13 (.br 0 12 (.br 0 14 (.d) .no) .no) .no)) (.br 0 13 (.br 0 11 (.br 0 12 (.br 0 14 (.d) .no) .no) .no) .no)) (.br 0 13 (.br 0 10 (.br 0 11 (.br 0 12 (.br 0 14 (.d) .no) .no) .no) .no) .no)) .no) .no
section
variable [Pan] {H:List Root} {k:Nat}
theorem clb7 {K:RV→List Root→Prop}(hk:aa7 H k=dcX .nils 0) (hP:Pan.px nc7 H):ga7 Tryz.prog none 168 [.c (.ptr k 1 0 0)] H K:=by
 refine db7 bc7 (by kernel_rfl) (fun n=>match n with | 1=>([0,4,1,2,3,5,6,7,8,9],0,none) | 4=>([0,4,1,2,3,5,6,7,8,9,10,11],0,none) | _=>([],0,none)) Tryz.func168 rfl (by kernel_rfl) Tryz.ntmps168 (congrArg Array.toList Tryz.results168) (by kernel_rfl) (by simp) ?_
 simp -implicitDefEqProofs only [go_sem,dcX,hk,np7]
 exact⟨fun _=>hP,fun h=>absurd (by decide) h⟩
theorem umb7 {n:Int}{K:RV→List Root→Prop}(hn:1≤n) (hk:aa7 H k=dcX .nils 0) (hP:Pan.px nc7 H):ga7 Tryz.prog none 121 [.c (.ptr k 1 0 0),.c (I6 n)] H K:=by
 refine db7 bc7 (by kernel_rfl) (fun _=>([],0,none)) Tryz.func121 rfl (by kernel_rfl) Tryz.ntmps121 (congrArg Array.toList Tryz.results121) (by kernel_rfl) (by simp) ?_
 simp -implicitDefEqProofs only [go_sem]
 exact⟨fun h=>by omega,fun _=>clb7 hk hP⟩
theorem dkb7 [Pan] {P:Program}{pu:Pu}{f:FuncId}{args:List RV}{H:List Root}{K:RV→List Root→Prop}(h:∀K,ga7 P none f args H K):ga7 P pu f args H K:=rk7 (h _)
def njA:AV→Bool
 | .junk=>false
 | _=>true
abbrev bxR (b:AV):Root:=.live false 35 1 (.box [b])
abbrev mvR:Root:=.live false 110 5 (.box [I6 0,I6 0,I6 0,I6 0,I6 0])
theorem qfb7 {s:Int}{b:AV}{K:RV→List Root→Prop}(hb:njA b=true) (hk:aa7 H k=dcX .nils 0) (hl:k<H.length) (hP:Pan.px nc7 (H++[.live false 35 1 (.box [b]),.live false 110 5 (.box [I6 0,I6 0,I6 0,I6 0,I6 0])])):ga7 Tryz.prog none 48 [.c (.ptr k 1 0 0),.c (I6 s),.c b] H K:=by
 refine db7 bc7 (by kernel_rfl) (fun n=>match n with | 11=>([0,1,2,3,6,7,8,9],0,some (.t [] rlb7 [15,16] [15,16])) | _=>([],0,none)) Tryz.func48 rfl (by kernel_rfl) Tryz.ntmps48 (congrArg Array.toList Tryz.results48) (by kernel_rfl) (by simp) ?_
 simp -implicitDefEqProofs only [go_sem]
 refine⟨by (cases b <;> first | rfl | (cases hb)),dkb7 fun K=>?_⟩
 rw[List.append_assoc]
 refine umb7 (by decide) ?_ hP
 rw[cr7 _ _ _ hl];exact hk
variable {A0 A1 A2 A3 A4 A5 A6 A7 A8 A9 A10 A11 A12:Root} {x0 x1 x2 x3 x4 x6 x7 x8 x9 x11 x12 x13 x14 x15 x16 x17 x18 x19 x20 x22 x23 x25 x26 x27 x28:AV} {n5 z5 i10 s10 l10:Nat} {f5:Nat→Nat→AV}
theorem egb7 {K:RV→List Root→Prop}(hP:∀S,S=[bxR (.h i10 s10 l10),mvR]∨S=[mvR,bxR (.h i10 s10 l10),mvR]→Pan.px nc7 (A0::A1::A2::A3::A4::A5::A6::A7::A8::A9::A10::A11::A12 :: .live false 212 29 (.box [x0,x1,x2,x3,x4,.sl n5 z5 f5,x6,x7,x8,x9,.h i10 s10 l10,x11,x12,x13,x14,x15,x16,x17,x18,x19,x20,.int .i64 1,x22,x23,.int .i64 1,x25,x26,x27,x28])::ux7 0::nx7 false::dcX .nils 0::vx7 16::S)) :
  ga7 Tryz.prog none 175 [.c (.ptr 13 1 0 0),.c (.ptr 16 1 0 0)] (A0::A1::A2::A3::A4::A5::A6::A7::A8::A9::A10::A11::A12 :: .live false 212 29 (.box [x0,x1,x2,x3,x4,.sl n5 z5 f5,x6,x7,x8,x9,.h i10 s10 l10,x11,x12,x13,x14,x15,x16,x17,x18,x19,x20,.int .i64 1,x22,x23,.int .i64 0,x25,x26,x27,x28])::ux7 0::nx7 false::dcX .nils 0::vx7 16::[]) K:=by
 refine db7 bc7 (by kernel_rfl) (fun n=>match n with | 1=>([0,1,2,3,4,5,6,7,8,9,10,11,12],0,some (.t [] (.br 0 13 (.br 0 14 .d .no) (.br 0 14 (.br 0 13 .d .no) .no)) [15] [15])) | 3=>([],0,none) | 7=>([0,1,2,3,4],0,some (.t [] hhb7 [11] [11])) | 10=>([],0,none) | 13=>([],0,none) | _=>([],0,none)) Tryz.func175 rfl (by kernel_rfl) Tryz.ntmps175 (congrArg Array.toList Tryz.results175) (by kernel_rfl) (by simp) ?_
 simp -implicitDefEqProofs only [go_sem]
 exact⟨by decide,rk7 (qfb7 rfl rfl (by simp) (hP _ (.inl rfl))),rk7 (qfb7 rfl rfl (by simp) (hP _ (.inr rfl)))⟩
theorem mdb7 {K:RV→List Root→Prop}(hP:∀S,S=[bxR (.h i10 s10 l10),mvR]∨S=[mvR,bxR (.h i10 s10 l10),mvR]→Pan.px nc7 (A0::A1::A2::A3::A4::A5::A6::A7::A8::A9::A10::A11::A12 :: .live false 212 29 (.box [x0,x1,x2,x3,x4,.sl n5 z5 f5,x6,x7,x8,x9,.h i10 s10 l10,x11,x12,x13,x14,x15,x16,x17,x18,x19,x20,.int .i64 1,x22,x23,.int .i64 1,x25,x26,x27,x28])::ux7 0::nx7 false::dcX .nils 0::vx7 16::S)) :
  ga7 Tryz.prog none 119 [.c (.ptr 13 1 0 0),.c (.ptr 16 1 0 0)] (A0::A1::A2::A3::A4::A5::A6::A7::A8::A9::A10::A11::A12 :: .live false 212 29 (.box [x0,x1,x2,x3,x4,.sl n5 z5 f5,x6,x7,x8,x9,.h i10 s10 l10,x11,x12,x13,x14,x15,x16,x17,x18,x19,x20,.int .i64 1,x22,x23,.int .i64 0,x25,x26,x27,x28])::ux7 0::nx7 false::dcX .nils 0::vx7 16::[]) K:=by
 refine db7 bc7 (by kernel_rfl) (fun n=>match n with | 3=>([],1,none) | _=>([],0,none)) Tryz.func119 rfl (by kernel_rfl) Tryz.ntmps119 (congrArg Array.toList Tryz.results119) (by kernel_rfl) (by simp) ?_
 simp -implicitDefEqProofs only [go_sem]
 refine jx7 [()] ?_
 simp -implicitDefEqProofs only [go_sem]
 refine⟨fun _=>egb7 hP,fun h=>absurd (by decide) h⟩
end
def kdb7:Sum:=⟨45,[dfb7,zob7,.agg [.nils,i6 1,.flt 0,.flt 0]],
 .tup [.agg [.h 0 0 1,.h 2 0 1,.h 4 0 1,.h 6 0 1,i6 0],.agg [i6 1,i6 0,i6 0,i6 0,.bool false],.c (i6 0)],
 [.live false 124 1 (.own [[.h 1 0 1]]),.live false 121 2 (.gen [[i6 0,i6 2]]),.live false 70 2 (.own [[i6 0,.h 3 0 1]]),.live false 3 1 (.ints .i64 [0]),.live false 78 1 (.own [[.h 5 0 1]]),.live false 2 1 (.ints .i64 [0]),.live false 136 3 (.own [[i6 2,.h 7 0 1,i6 6]]),.live false 2 1 (.ints .i64 [5])]⟩
theorem reb7:ya7 Tryz.prog kdb7:=by
 refine yfb7 (ru7 (H:=[]) (K:=fun r G=>leR 8 r kdb7.r&&leH 8 G kdb7.G) ?_)
 show ga7 Tryz.prog none 45 [dfb7,zob7,.agg [.nils,i6 1,.flt 0,.flt 0]] [] _
 refine db7 bc7 (by kernel_rfl) (fun n=>match n with | 14=>([0,1,2,3,4,5,6,7],0,some (.t [3] (.br 5 8 .d .no) [9,10] [9,10])) | _=>([],0,none)) Tryz.func45 rfl (by kernel_rfl) Tryz.ntmps45 (congrArg Array.toList Tryz.results45) (by kernel_rfl) (by simp) ?_
 simp -implicitDefEqProofs only [go_sem,dfb7,zob7,i6,slL,no7,wl7]
 refine ce7 (d:=8) tg7 (by decide +kernel) ?_
 simp -implicitDefEqProofs only [go_sem,wh7,i6,shR,ofb7,yeb7,shA,shL,kab7,am7,lgb7,shH,List.append_nil,List.length_cons,List.length_nil,List.cons_append,List.nil_append,Nat.zero_add,Nat.reduceAdd]
 refine⟨fun h=>absurd trivial h, ?_⟩
 refine ce7 (d:=8) oq7 (by decide +kernel) ?_
 simp -implicitDefEqProofs only [go_sem,ml7,i6,shR,ofb7,yeb7,shA,shL,kab7,am7,lgb7,shH,List.append_nil,List.length_cons,List.length_nil,List.cons_append,List.nil_append,Nat.zero_add,Nat.reduceAdd]
 refine⟨fun h=>absurd trivial h, ?_⟩
 refine ce7 (d:=8) es7 (by decide +kernel) ?_
 simp -implicitDefEqProofs only [go_sem,un7,i6,shR,ofb7,yeb7,shA,shL,kab7,am7,lgb7,shH,List.append_nil,List.length_cons,List.length_nil,List.cons_append,List.nil_append,Nat.zero_add,Nat.reduceAdd]
 refine⟨fun h=>absurd trivial h, ?_⟩
 refine ce7 (d:=8) dt7 (by decide +kernel) ?_
 simp -implicitDefEqProofs only [go_sem,so7,i6,shR,ofb7,yeb7,shA,shL,kab7,am7,lgb7,shH,List.append_nil,List.length_cons,List.length_nil,List.cons_append,List.nil_append,Nat.zero_add,Nat.reduceAdd]
 refine ce7 (d:=8) sp7 (by decide +kernel) ?_
 simp -implicitDefEqProofs only [go_sem,hk7,i6,shR,ofb7,yeb7,shA,shL,kab7,am7,lgb7,shH,List.append_nil,List.length_cons,List.length_nil,List.cons_append,List.nil_append,Nat.zero_add,Nat.reduceAdd]
 refine bfb7 (cs:=[.ptr 13 1 0 0]) (nb:=1) rfl ?_
 refine @mdb7 (veb7 _ _ _) _ _ _ _ _ _ _ _ _ _ _ _ _ _ _ _ _ _ _ _ _ _ _ _ _ _ _ _ _ _ _ _ _ _ _ _ _ _ _ _ _ _ _ _ _ fun S hS=>?_
 refine⟨[_,_,_,_,_,_,_,_,_,_,_,_,_,_],S,0,rfl, ?_,rfl, ?_⟩
 ·rfl
 simp -implicitDefEqProofs only [go_sem,mj7,dcX]
 rcases hS with rfl | rfl
 ·decide +kernel
 ·decide +kernel
def vsb7:Sum:=⟨110,[],.c (.bool true),[]⟩
theorem gib7:ya7 Tryz.prog vsb7:=hf7 ccb7 trivial rfl (fun r h=>by subst h;rfl) fun r h=>⟨h,rfl⟩
theorem gpb7 {xs ys:List ra7}(hx:∀s∈xs,eq7 s) (hy:∀s∈ys,eq7 s):cf7 Tryz.prog 84 [.c (vfb7 xs),.c (vfb7 ys)] (fun r=>r = .c (.bool (decide (xs=ys)))) :=
 yi7 ⟨_,_,Tryz.func84,by kernel_rfl,rfl⟩ fun rho w vs hcv=>by
  obtain⟨_,_,rfl,h1,_,_,rfl,h2,rfl⟩:=hcv
  refine (zz7 (bs (e:=fun (x:ra7)=>ix2 (I6 x.sat) (I6 x.load)) (⟨0,0⟩:ra7) seb7 h1 hx) (bs (e:=fun (x:ra7)=>ix2 (I6 x.sat) (I6 x.load)) (⟨0,0⟩:ra7) seb7 h2 hy)).mono ?_
  rintro e w' ⟨rfl,n,rfl⟩
  exact⟨_,_,rfl,rfl,rfl,below_drewN (Below.refl _ _) n⟩
def tpb7:Sum:=⟨84,[.c (slL 2 [[.int .i64 0,.int .i64 2]]),.c (slL 2 [[.int .i64 0,.int .i64 2]])],.c (.bool true),[]⟩
theorem bhb7:ya7 Tryz.prog tpb7:=by
 have hw:∀s∈[(⟨0,2⟩:ra7)],eq7 s:=by simp[eq7,nb7]
 have q:∀i,i<1→∀j,j<2→Eqv (nth ([[AV.int .i64 0,AV.int .i64 2]].getD i []) j) (ix2 (I6 ([(⟨0,2⟩:ra7)].getD i ⟨0,0⟩).sat) (I6 ([(⟨0,2⟩:ra7)].getD i ⟨0,0⟩).load) j):=fun i hi j hj=>by
  obtain rfl:i=0:=by omega
  rcases j with _ | _ | j
  ·rfl
  ·rfl
  ·omega
 refine hf7 (gpb7 hw hw) (by simp[tpb7,slL,yl7,okR,bb7]) ?_ (fun r h=>by subst h;rfl) fun r h=>⟨h,rfl⟩
 exact⟨_,_,rfl,.inr ⟨_,rfl,.inr ⟨_,rfl,q⟩⟩,_,_,rfl,.inr ⟨_,rfl,.inr ⟨_,rfl,q⟩⟩,rfl⟩
def djb7:RV:=.agg [i6 40,i6 1,i6 5,i6 1,i6 3,slL 2 [[i6 60,i6 2]],slL 4 [[i6 2,i6 5,i6 90,i6 1]],wl7 [[0,5,0],[0,0,0],[0,0,0]],wl7 [[0,0,0],[0,0,0],[0,0,0]]]
def yz7:RV:=.agg [slL 1 [[slL 2 [[i6 0,i6 2]]]],slL 2 [[i6 0,no7 [0]]]]
def xsb7:RV:=.agg [i6 4,slL 3 [[i6 0,i6 1,i6 2],[i6 1,i6 2,i6 0],[i6 2,i6 3,i6 1]]]
def xub7:RV:=.agg [slL 1 [[slL 2 [[i6 0,i6 2]]]],slL 2 [[i6 0,no7 [0]]],wl7 [[0]],slL 3 [[i6 2,no7 [5],i6 6]],i6 5]
def nub7:RV:=.agg [slL 1 [[slL 2 [[i6 0,i6 2]]]],slL 2 [[i6 0,no7 [0]]],wl7 [[0]],slL 3 [[i6 2,no7 [5],i6 6]],i6 6]
def lob7:RV:=.agg [i6 40,i6 1,i6 5,i6 1,i6 3,slL 2 [[i6 60,i6 3]],slL 4 [[i6 2,i6 9,i6 90,i6 1]],wl7 [[0,0,0],[0,0,0],[0,0,0]],wl7 [[0,4,0],[0,0,1],[0,0,0]]]
def ftb7:RV:=.agg [i6 4,slL 3 [[i6 0,i6 1,i6 3],[i6 1,i6 2,i6 1],[i6 2,i6 3,i6 1]]]
def btb7:RV:=.agg [wl7 [[4]],slL 3 [[i6 7,no7 [9],i6 10]]]
def tob7:RV:=.agg [i6 40,i6 1,i6 5,i6 1,i6 3,slL 2 [[i6 60,i6 2]],slL 4 [[i6 2,i6 5,i6 90,i6 1]],wl7 [[0,5,0],[0,0,7],[0,0,0]],wl7 [[0,0,0],[0,0,0],[0,0,0]]]
def avb7:RV:=.agg [i6 40,i6 1,i6 5,i6 1,i6 3,slL 2 [[i6 60,i6 2]],slL 4 [[i6 2,i6 5,i6 90,i6 1]],wl7 [[0,0,0],[0,0,3],[0,4,0]],wl7 [[0,0,0],[0,0,0],[0,0,0]]]
def hrb7:RV:=.agg [i6 40,i6 1,i6 5,i6 1,i6 3,slL 2 [[i6 60,i6 2]],slL 4 [[i6 2,i6 5,i6 90,i6 1]],wl7 [[0,0,0],[0,0,0],[0,0,0]],wl7 [[0,0,0],[0,0,0],[0,0,0]]]
def rmb7:RV:=.agg [slL 1 [[slL 2 [[i6 0,i6 2]]]],slL 2 [[i6 0,no7 [0]]],wl7 [[0]],slL 3 [[i6 2,no7 [5],i6 6]],i6 0]
def ug7:Sum:=⟨70,[],.agg [i6 40,i6 1,i6 5,i6 1,i6 3,.h 0 0 1,.h 1 0 1,.h 2 0 3,.h 6 0 3],[.live false 87 2 (.gen [[i6 60,i6 2]]),.live false 167 4 (.gen [[i6 2,i6 5,i6 90,i6 1]]),.live false 78 1 (.own [[.h 3 0 3],[.h 4 0 3],[.h 5 0 3]]),.live false 2 1 (.ints .i64 [0,0,0]),.live false 2 1 (.ints .i64 [0,0,0]),.live false 2 1 (.ints .i64 [0,0,0]),.live false 78 1 (.own [[.h 7 0 3],[.h 8 0 3],[.h 9 0 3]]),.live false 2 1 (.ints .i64 [0,0,0]),.live false 2 1 (.ints .i64 [0,0,0]),.live false 2 1 (.ints .i64 [0,0,0])]⟩
def fo7:Sum:=⟨43,[djb7],.c (i6 0),[]⟩
def lh7:Sum:=⟨145,[djb7,yz7],.c (i6 0),[]⟩
def yo7:Sum:=⟨146,[djb7,yz7],.tup [.agg [i6 4,.h 0 0 3],.c (.h 1 0 4)],[.live false 260 3 (.gen [[i6 0,i6 1,i6 2],[i6 1,i6 2,i6 0],[i6 2,i6 3,i6 1]]),.live false 2 1 (.ints .i64 [0,0,5,0])]⟩
def nn7:Sum:=⟨187,[xsb7],.c (i6 0),[]⟩
def lj7:Sum:=⟨147,[xsb7,.c (no7 [0,0,5,0])],.tup [.c (.h 0 0 4),.c (i6 0)],[.live false 2 1 (.ints .i64 [0,2,5,6])]⟩
def eh7:Sum:=⟨116,[djb7,yz7,.agg [wl7 [[0]],slL 3 [[i6 2,no7 [5],i6 6]]]],.c (i6 0),[]⟩
def ok7:Sum:=⟨86,[djb7,yz7],.tup [.c (i6 5),.c (i6 0)],[]⟩
def zt7:Sum:=⟨44,[djb7,xub7],.c (i6 0),[]⟩
def xn7:Sum:=⟨44,[djb7,nub7],.c (i6 14),[]⟩
def bo7:Sum:=⟨43,[lob7],.c (i6 0),[]⟩
def dh7:Sum:=⟨145,[lob7,yz7],.c (i6 0),[]⟩
def uk7:Sum:=⟨146,[lob7,yz7],.tup [.agg [i6 4,.h 0 0 3],.c (.h 1 0 4)],[.live false 260 3 (.gen [[i6 0,i6 1,i6 3],[i6 1,i6 2,i6 1],[i6 2,i6 3,i6 1]]),.live false 2 1 (.ints .i64 [4,0,9,0])]⟩
def sl7:Sum:=⟨187,[ftb7],.c (i6 0),[]⟩
def fk7:Sum:=⟨147,[ftb7,.c (no7 [4,0,9,0])],.tup [.c (.h 0 0 4),.c (i6 0)],[.live false 2 1 (.ints .i64 [4,7,9,10])]⟩
def ul7:Sum:=⟨172,[yz7,btb7],.c (.bool true),[]⟩
def nk7:Sum:=⟨116,[lob7,yz7,btb7],.c (i6 0),[]⟩
def kh7:Sum:=⟨43,[tob7],.c (i6 0),[]⟩
def ph7:Sum:=⟨145,[tob7,yz7],.c (i6 0),[]⟩
def gn7:Sum:=⟨86,[tob7,yz7],.tup [.c (i6 12),.c (i6 0)],[]⟩
def tl7:Sum:=⟨145,[tob7,.agg [.nils,.nils]],.c (i6 8),[]⟩
def jn7:Sum:=⟨87,[],.c (.bool true),[]⟩
def do7:Sum:=⟨71,[],.c (.bool true),[]⟩
def ln7:Sum:=⟨19,[],.c (.bool true),[]⟩
def eo7:Sum:=⟨43,[avb7],.c (i6 0),[]⟩
def vl7:Sum:=⟨109,[],.c (.bool true),[]⟩
def qk7:Sum:=⟨146,[hrb7,yz7],.tup [.agg [i6 4,.h 0 0 3],.c (.h 1 0 4)],[.live false 260 3 (.gen [[i6 0,i6 1,i6 2],[i6 1,i6 2,i6 0],[i6 2,i6 3,i6 1]]),.live false 2 1 (.ints .i64 [0,0,5,0])]⟩
def wo7:Sum:=⟨18,[rmb7,rmb7],.c (.bool true),[]⟩
theorem fe7:ya7 Tryz.prog ug7:=la7 (S:=[]) ka7 ug7 (by decide +kernel)
theorem mm7:ya7 Tryz.prog fo7:=la7 (S:=[]) ka7 fo7 (by decide +kernel)
theorem mg7:ya7 Tryz.prog lh7:=la7 (S:=[fo7]) (ba7 mm7 ka7) lh7 (by decide +kernel)
theorem zr7:ya7 Tryz.prog yo7:=la7 (S:=[]) ka7 yo7 (by decide +kernel)
theorem gt7:ya7 Tryz.prog nn7:=la7 (S:=[]) ka7 nn7 (by decide +kernel)
theorem vj7:ya7 Tryz.prog lj7:=la7 (S:=[nn7]) (ba7 gt7 ka7) lj7 (by decide +kernel)
theorem pg7:ya7 Tryz.prog eh7:=la7 (S:=[lh7,ej7]) (ba7 mg7 (ba7 vk7 ka7)) eh7 (by decide +kernel)
theorem zh7:ya7 Tryz.prog ok7:=la7 (S:=[lh7,fo7]) (ba7 mg7 (ba7 mm7 ka7)) ok7 (by decide +kernel)
theorem qw7:ya7 Tryz.prog zt7:=la7 (S:=[eh7,ok7]) (ba7 pg7 (ba7 zh7 ka7)) zt7 (by decide +kernel)
theorem wr7:ya7 Tryz.prog xn7:=la7 (S:=[eh7,ok7]) (ba7 pg7 (ba7 zh7 ka7)) xn7 (by decide +kernel)
theorem ps7:ya7 Tryz.prog bo7:=la7 (S:=[]) ka7 bo7 (by decide +kernel)
theorem li7:ya7 Tryz.prog dh7:=la7 (S:=[bo7]) (ba7 ps7 ka7) dh7 (by decide +kernel)
theorem lq7:ya7 Tryz.prog uk7:=la7 (S:=[]) ka7 uk7 (by decide +kernel)
theorem kp7:ya7 Tryz.prog sl7:=la7 (S:=[]) ka7 sl7 (by decide +kernel)
theorem nr7:ya7 Tryz.prog fk7:=la7 (S:=[sl7]) (ba7 kp7 ka7) fk7 (by decide +kernel)
theorem vq7:ya7 Tryz.prog ul7:=la7 (S:=[]) ka7 ul7 (by decide +kernel)
theorem kr7:ya7 Tryz.prog nk7:=la7 (S:=[dh7,ul7]) (ba7 li7 (ba7 vq7 ka7)) nk7 (by decide +kernel)
theorem yg7:ya7 Tryz.prog kh7:=la7 (S:=[]) ka7 kh7 (by decide +kernel)
theorem oi7:ya7 Tryz.prog ph7:=la7 (S:=[kh7]) (ba7 yg7 ka7) ph7 (by decide +kernel)
theorem qt7:ya7 Tryz.prog gn7:=la7 (S:=[ph7,kh7]) (ba7 oi7 (ba7 yg7 ka7)) gn7 (by decide +kernel)
theorem pp7:ya7 Tryz.prog tl7:=la7 (S:=[kh7]) (ba7 yg7 ka7) tl7 (by decide +kernel)
theorem pt7:ya7 Tryz.prog jn7:=la7 (S:=[ug7,gn7,ph7,tl7]) (ba7 fe7 (ba7 qt7 (ba7 oi7 (ba7 pp7 ka7)))) jn7 (by decide +kernel)
theorem ms7:ya7 Tryz.prog do7:=la7 (S:=[ug7,dh7,uk7,fk7,nk7,jn7]) (ba7 fe7 (ba7 li7 (ba7 lq7 (ba7 nr7 (ba7 kr7 (ba7 pt7 ka7)))))) do7 (by decide +kernel)
theorem rt7:ya7 Tryz.prog ln7:=la7 (S:=[ug7,lh7,yo7,lj7,eh7,ok7,zt7,xn7,do7]) (ba7 fe7 (ba7 mg7 (ba7 zr7 (ba7 vj7 (ba7 pg7 (ba7 zh7 (ba7 qw7 (ba7 wr7 (ba7 ms7 ka7))))))))) ln7 (by decide +kernel)
theorem cu7:ya7 Tryz.prog eo7:=la7 (S:=[]) ka7 eo7 (by decide +kernel)
theorem wp7:ya7 Tryz.prog vl7:=la7 (S:=[ug7,eo7]) (ba7 fe7 (ba7 cu7 ka7)) vl7 (by decide +kernel)
theorem rq7:ya7 Tryz.prog qk7:=la7 (S:=[]) ka7 qk7 (by decide +kernel)
theorem ys7:ya7 Tryz.prog wo7:=la7 (S:=[tpb7]) (ba7 bhb7 ka7) wo7 (by decide +kernel)
end Go.Proofs.YtabadfkikdefeaaGreat.Ab
