/- Texts of the proof, joined: Exp, RunC, Deep, RunF, Cat, RunX, Ord, SumL, RgA, RgB, RgC, RgD, RgE, RgF, RgG, RunP, Awake19r, Split. -/
import Derived.Test.YtedahhjopmkbbaaGreatR5
set_option linter.all false
set_option maxRecDepth 100000
set_option maxHeartbeats 6400000
namespace Go.Proofs.YtedahhjopmkbbaaGreat.Ab
open Go.RowKit
section
variable {P:Program} {ty:Ty} {call:co7} {pu:Pu} {ops:Array Oper} {tm:Tm} {rd:Operand→Bool×RV} {H:List Root} {o:Oper}
theorem xfc7 {e:TyE}{p v:RV}{K:List Root→Bool}(h:voc7 e H p v K=true):∃H',K H'=true:=by
 unfold voc7 at h
 repeat' split at h
 all_goals first | (cases h;done) | (simp only[Bool.and_eq_true]at h;first | exact⟨_,h.2.2⟩ | exact⟨_,h.2.2.2⟩ | exact⟨_,h.2⟩)
theorem yfc7 {e:TypeId}{n:Nat}{ok:Bool}{l:List AV}{K:RV→List Root→Bool}(h:slc7 ty e H n ok l K=true):∃r H',K r H'=true:=by
 unfold slc7 at h
 repeat' split at h
 all_goals first | (cases h;done) | (simp only[Bool.and_eq_true]at h;first | exact⟨_,_,h.2.2.2⟩ | exact⟨_,_,h.2.2.2.2⟩ | exact⟨_,_,h.2⟩)
theorem wac7 {k:TyK}{n c:RV}{K:RV→List Root→Bool}(h:jvb7 ty k H n c K=true):∃r H',K r H'=true:=by
 unfold jvb7 at h
 repeat' split at h
 all_goals first | (cases h;done) | (simp only[Bool.and_eq_true]at h;exact⟨_,_,h.2⟩)
theorem bic7 {k:TyK}{s x:RV}{K:RV→List Root→Bool}(h:foc7 ty k H s x K=true):∃r H',K r H'=true:=by
 unfold foc7 at h
 repeat' split at h
 all_goals first | (cases h;done) | (simp only[Bool.and_eq_true]at h;first | exact absurd h.2 (by decide) | exact absurd h.2.2 (by decide) | exact⟨_,_,h.2⟩ | exact⟨_,_,h.2.2⟩ | exact⟨_,_,h.2.2.2⟩ | exact⟨_,_,h.2.2.2.2⟩)
def ck7 (call:co7):Prop:=∀pu f args H K,call pu f args H K=true→∃r H',K r H'=true
theorem jfc7 (hx:ck7 call) {K:AS→Bool}(h:dyb7 ty call pu tm rd H o K=true):∃σ,K σ=true:=by
 have lift:∀{d:Option Nat},(∃r H',K ⟨uf7 tm true d r,H'⟩=true)→∃σ,K σ=true:=fun ⟨r,H',h⟩=>⟨_,h⟩
 unfold dyb7 at h
 split at h
 ·simp only[Bool.and_eq_true]at h;exact⟨_,h.2⟩
 ·simp only[Bool.and_eq_true]at h;exact⟨_,h.2⟩
 ·simp only[Bool.and_eq_true]at h
  obtain⟨H',h⟩:=xfc7 h.2
  exact⟨_,h⟩
 ·split at h
  ·exact lift (yfc7 h)
  ·cases h
 ·exact lift (wac7 h)
 ·split at h
  ·split at h
   ·simp only[Bool.and_eq_true]at h;exact lift (bic7 h.2.2)
   ·cases h
  ·split at h
   ·exact lift (hx _ _ _ _ _ h)
   ·cases h
  ·cases h
 ·cases h
theorem dj7 (hx:ck7 call) {σ:AS}{K:AS→Bool}(h:opB ty call pu ops σ o K=true):∃σ,K σ=true:=by
 unfold opB at h
 split at h
 ·cases h
 ·simp only[Bool.and_eq_true]at h
  obtain⟨-,h⟩:=h
  split at h
  ·simp only[Bool.and_eq_true]at h;exact⟨_,h.2⟩
  ·split at h
   ·exact jfc7 hx h
   ·exact⟨_,h⟩
theorem hkc7 {k:TyK}{H:List Root}{s x:RV}{K:RV→List Root→Bool}(h:isb7 ty k H s x K=true):∃r H',K r H'=true:=by
 unfold isb7 at h
 repeat' split at h
 all_goals first | (cases h;done) | (simp only[Bool.and_eq_true]at h;exact⟨_,_,h.2⟩)
theorem cbb7 (hx:ck7 call) {σ:AS}{K:AS→Bool}(h:opX P ty call pu ops σ o K=true):∃σ,K σ=true:=by
 rw[aec7]at h
 unfold csc7 at h
 split at h
 case h_2=>exact dj7 hx h
 split at h
 ·split at h
  ·exact⟨_,h⟩
  ·unfold jsc7 at h
   split at h
   ·split at h
    ·split at h
     ·unfold fqc7 at h
      split at h
      ·simp only[Bool.and_eq_true]at h
       obtain⟨r,H',h⟩:=hx _ _ _ _ _ h.2
       exact⟨_,h⟩
      ·simp only[Bool.and_eq_true]at h
       obtain⟨r,H',h⟩:=hx _ _ _ _ _ h.2
       exact⟨_,h⟩
      ·cases h
     ·cases h
    ·split at h
     ·split at h
      ·simp only[Bool.and_eq_true]at h
       obtain⟨r,H',h⟩:=lbc7 h.2.2
       exact⟨_,h⟩
      split at h
      ·simp only[Bool.and_eq_true]at h
       obtain⟨r,H',h⟩:=fkc7 h.2.2
       exact⟨_,h⟩
      ·exact dj7 hx h
     ·exact dj7 hx h
    ·split at h
     ·simp only[Bool.and_eq_true]at h
      obtain⟨r,H',h⟩:=hkc7 h.2.2
      exact⟨_,h⟩
     ·exact dj7 hx h
    ·exact dj7 hx h
   ·split at h
    ·rw[Bool.or_eq_true]at h
     rcases h with h | h
     ·unfold ouc7 at h
      repeat' split at h
      all_goals first | (cases h;done) | (simp only[Bool.and_eq_true]at h;exact⟨_,h.2⟩)
     ·unfold yrc7 at h
      repeat' split at h
      all_goals first | (cases h;done) | (simp only[Bool.and_eq_true]at h;exact⟨_,h.2⟩)
    ·exact dj7 hx h
   ·split at h
    ·unfold rrc7 at h
     repeat' split at h
     all_goals first | (cases h;done) | (simp only[Bool.and_eq_true]at h;exact⟨_,h.2⟩)
    ·exact dj7 hx h
   ·exact dj7 hx h
 ·exact dj7 hx h
end
section
variable (P:Program) (ty:Ty) (call:co7)
def vvc7:Op→Bool
 | .slice .. => true
 | .nilCheck _=>true
 | .index .. => true
 | .binOp op .. => match op with
  | .and=>true
  | .or=>true
  | .andNot=>true
  | .shl=>true
  | .shr=>true
  | _=>false
 | _=>false
def pgc7 (ops:Array Oper) (l:Array Bool):Option Nat :=
 (Region.ready .any ops l).find? fun i=>isV (ops.getD i default).op && !dsc7 (ops.getD i default).op&&Region.free .any ops l i&&decide (i<ops.size) && !vvc7 (ops.getD i default).op
def vnb7 (ops:Array Oper) (fins:List Nat) (l:Array Bool):Option Nat :=
 (Region.ready .any ops l).find? fun i=>isV (ops.getD i default).op&&(jm7 .any ops fins [i] l).isSome&&dsc7 (ops.getD i default).op
noncomputable def pureN (ops:Array Oper) (l:Array Bool) (σ:AS):Option (Nat×RV) :=
 (Region.ready .any ops l).findSome? fun i =>
  if yjc7 (ops.getD i default).op&&Region.free .any ops l i&&decide (i<ops.size) then
   match guardF σ.tm ops (ops.getD i default).guard with
   | some true=>(crc7 P ty (rdF σ) σ.H (ops.getD i default).op).map fun r=>(i,r)
   | _=>none
  else none
noncomputable def expB (ops:Array Oper) (fins:List Nat) (L:AS→Bool):Nat→Bool→Array Bool→AS→Bool
 | 0,_,l,σ=>(Region.ready .any ops l).isEmpty&&L σ
 | n+1,dy,l,σ=>match pgc7 ops l with
  | some i=>opBF ty call (some none) ops σ (ops.getD i default) (fun σ'=>expB ops fins L n dy (l.setIfInBounds i true) σ')
  | none=>match pureN P ty ops l σ with
  | some (i,r)=>expB ops fins L n dy (l.setIfInBounds i true) ⟨uf7 σ.tm true (ops.getD i default).dst r,σ.H⟩
  | none=>match (if dy then none else vnb7 ops fins l) with
  | some i=>opBF ty call (some none) ops σ (ops.getD i default) (fun σ'=>expB ops fins L n dy (l.setIfInBounds i true) σ')
  | none => !(Region.ready .any ops l).isEmpty&&(Region.ready .any ops l).all fun i=>decide (i<ops.size)&&opX P ty call (if dy || fins.contains i then none else some none) ops σ (ops.getD i default) (fun σ'=>expB ops fins L n (dy || fins.contains i) (l.setIfInBounds i true) σ')
abbrev ez7:=List (Nat×Bool×Array Bool×AS)
def osc7:List Bool→List Bool→Bool
 | [],[]=>true
 | a::l,b::m=>src7 a b&&osc7 l m
 | _,_=>false
def wwb7:ez7→Nat→Bool→Array Bool→Option AS
 | [],_,_,_=>none
 | (n',dy',l',c)::T,n,dy,l=>if Nat.beq n' n&&src7 dy' dy&&osc7 l'.toList l.toList then some c else wwb7 T n dy l
def trc7 (step:Nat→ez7→(ez7→Bool)→Bool):List Nat→ez7→(ez7→Bool)→Bool
 | [],T,k=>k T
 | i::is,T,k=>step i T (fun T'=>trc7 step is T' k)
noncomputable def expM (ks:List Nat) (ops:Array Oper) (fins:List Nat) (n0:Nat) (L:AS→Bool):Nat→Bool→Array Bool→AS→ez7→(ez7→Bool)→Bool
 | 0,dy,l,σ,T,k=>(Region.ready .any ops l).isEmpty&&(match wwb7 T 0 dy l with
  | some c=>leafK n0 ks c σ&&k T
  | none=>fcS (normK n0 ks σ) fun c=>leafK n0 ks c σ&&L c&&k ((0,dy,l,c)::T))
 | n+1,dy,l,σ,T,k=>match pgc7 ops l with
  | some i=>opBF ty call (some none) ops σ (ops.getD i default) (fun σ'=>expM ks ops fins n0 L n dy (l.setIfInBounds i true) σ' T k)
  | none=>match pureN P ty ops l σ with
  | some (i,r)=>expM ks ops fins n0 L n dy (l.setIfInBounds i true) ⟨uf7 σ.tm true (ops.getD i default).dst r,σ.H⟩ T k
  | none=>match (if dy then none else vnb7 ops fins l) with
  | some i=>opBF ty call (some none) ops σ (ops.getD i default) (fun σ'=>expM ks ops fins n0 L n dy (l.setIfInBounds i true) σ' T k)
  | none=>match Region.ready .any ops l with
   | []=>false
   | [i]=>decide (i<ops.size)&&opX P ty call (if dy || fins.contains i then none else some none) ops σ (ops.getD i default) (fun σ'=>expM ks ops fins n0 L n (dy || fins.contains i) (l.setIfInBounds i true) σ' T k)
   | is=>match wwb7 T (n+1) dy l with
    | some c=>leafK n0 ks c σ&&k T
    | none=>fcS (normK n0 ks σ) fun c=>leafK n0 ks c σ&&trc7 (fun i T k=>decide (i<ops.size)&&opX P ty call (if dy || fins.contains i then none else some none) ops c (ops.getD i default) (fun σ'=>expM ks ops fins n0 L n (dy || fins.contains i) (l.setIfInBounds i true) σ' T k)) is T (fun T=>k ((n+1,dy,l,c)::T))
noncomputable def regB (nt:Nat) (ops:Array Oper) (q:Bool×List Nat×List Nat) (K:AS→Bool) (σ:AS):Bool :=
 Region.noSelect ops&&(if q.1 then expM P ty call q.2.2 ops q.2.1 σ.H.length K ops.size false (Array.replicate ops.size false) σ [] (fun _=>true)
  else expB P ty call ops q.2.1 K ops.size false (Array.replicate ops.size false) σ)
end
section
variable {P:Program} {ty:Ty} {call:co7} {E:Env} {nt:Nat} {M M0:Mp} {σ σ0:AS} {a a0:Act} {w w0:World} {ops:Array Oper} {fins:List Nat} {L K:AS→Bool} {Q:Exit→Act→World→Prop}
theorem cvb7 {i:Nat}{Kn:Act→World→Prop}(hi:i<ops.size) (h:if Region.wanted (ops.getD i default) (yielded ops a.tmps) then (ops.getD i default).wp P a w Kn Q else Kn (a.put (ops.getD i default).dst undef) w):wpOp P ops Q i Kn a w:=by
 have ho:ops[i]? = some (ops.getD i default):=by simp[Array.getD,hi]
 unfold wpOp
 rw[ho]
 show if Region.wanted (ops.getD i default) (yielded ops a.tmps) then _∨_ else _
 by_cases hw:Region.wanted (ops.getD i default) (yielded ops a.tmps)=true
 ·rw[if_pos hw]at h ⊢; exact .inl h
 ·rw[if_neg hw]at h ⊢; exact h
theorem fbc7 (hT:ud7 P ty) (h:St E nt M σ a w) {o:Oper}(hv:isV o.op=true) (hl:dsc7 o.op=false) (hd:∀t,o.dst=some t→t<nt) {Kp:AS→Prop}{dd:Option Nat}(hw:peb7 ty (guardOf σ.tm ops o.guard) dd σ o Kp) :
  ∃σ' v,Kp σ'∧σ'.H=σ.H∧St E nt M σ' (a.put o.dst v) w∧Yields P ops o v a:=by
 unfold peb7 at hw
 split at hw
 ·exact hw.elim
 ·rename_i g hg
  obtain⟨h1,-,h2,h3⟩:=hw
  have hwt:=ei7 h hg rfl
  cases g with
  | true =>
   obtain⟨v,v1,v2⟩:=xyb7 hT h hv rfl h1 (h2 rfl)
   exact⟨_,v,h3,rfl,h.putV hd (fun _=>v1) (fun e=>by cases e),.inl ⟨hwt,fun w'=>v2 w' fun e=>by rw[hl]at e;cases e⟩⟩
  | false=>exact⟨_,undef,h3,rfl,h.putV hd (fun e=>by cases e) (fun _=>rfl),.inr ⟨hwt,rfl⟩⟩
theorem vx7 {md:Region.Mode}{S:World→Prop}{i:Nat}{oi:Oper}{v:Value}(hi:ops[i]? = some oi) (hsel:∀(j:Nat) (o:Oper) cs b,ops[j]? = some o→o.op ≠ .select cs b)
  (hQ:∀c a w,Q (.panic c) (a.put oi.dst v) w→Q (.panic c) a w) :
  ∀(fuel:Nat) (listed:Array Bool) (a:Act) (w:World),
   (∀j oj,ops[j]? = some oj→j≠i→listed.getD j true=false→(∀e∈oj.after,Region.binds md e=true→e.on≠i)→oi.apart ops oj=true) →
   i∈Region.ready md ops listed→Yields P ops oi v a→S w →
   af7 P md ops Q S fins fuel (listed.setIfInBounds i true) (a.put oi.dst v) w→af7 P md ops Q S fins (fuel+1) listed a w:=by
 intro fuel
 induction fuel with
 | zero =>
  intro listed a w _ hr hy hS H
  refine⟨fun h=>(by rw[h]at hr;cases hr),fun j hj=>?_⟩
  by_cases hji:j=i
  ·subst hji;exact hy.wpOp hi (.inr ⟨hS,H⟩)
  ·have:=ready_mono hj hji
   rw[H.1]at this
   cases this
 | succ fuel ih =>
  intro listed a w hfree hr hy hS H
  refine⟨fun h=>(by rw[h]at hr;cases hr),fun j hj=>?_⟩
  by_cases hji:j=i
  ·subst hji;exact hy.wpOp hi (.inr ⟨hS,H⟩)
  ·have h1:=H.2 j (ready_mono hj hji)
   obtain⟨hjun,oj,hoj,hall⟩:=mem_ready.1 hj
   have hnot:∀e∈oj.after,Region.binds md e=true→e.on≠i:=fun e he hb heq=>by
    have h1:=hall e he hb
    have h0:=(mem_ready.1 hr).1
    rw[heq]at h1
    rcases Nat.lt_or_ge i listed.size with h' | h'
    ·simp[h']at h0 h1;rw[h0]at h1;cases h1
    ·simp[Array.getElem?_eq_none h']at h1
   have h2:=wpOp_put hoj (hfree j oj hoj hji hjun hnot) (fun cs b=>hsel i oi cs b hi) (fun cs b=>hsel j oj cs b hoj) hQ hy h1
   have hfree':∀k ok,ops[k]? = some ok→k≠i→(listed.setIfInBounds j true).getD k true=false →
     (∀e∈ok.after,Region.binds md e=true→e.on≠i)→oi.apart ops ok=true:=fun k ok hk hki hun hno=>by
    refine hfree k ok hk hki ?_ hno
    by_cases hjk:j=k
    ·subst hjk;exact hjun
    ·rw[getD_set_ne true hjk]at hun;exact hun
   refine wpOp_mono (fun a' w' ⟨hy',h3⟩=>?_) h2
   rcases h3 with ⟨hf,h4⟩ | ⟨hs',h4⟩
   ·refine .inl ⟨hf,wpAny_first hi hsel hQ fuel (listed.setIfInBounds j true) a' w' hfree' (ready_mono hr (Ne.symm hji)) hy' ?_⟩
    rw[Array.setIfInBounds_comm _ _ hji]
    exact h4
   ·refine .inr ⟨hs',ih (listed.setIfInBounds j true) a' w' hfree' (ready_mono hr (Ne.symm hji)) hy' hs' ?_⟩
    rw[Array.setIfInBounds_comm _ _ hji]
    exact h4
def hu7 (P:Program) (ops:Array Oper) (Q:Exit→Act→World→Prop) (fins:List Nat) (dy:Bool) (n:Nat) (l:Array Bool) (a:Act) (w:World):Prop :=
 if dy then wpAny P .any ops Q n l a w else af7 P .any ops Q (ef7 none w) fins n l a w
theorem hnb7 (hT:ud7 P ty) (hcall:∀pu f args H K,call pu f args H K=true→lb7 P pu f args H (fun r H=>K r H=true)) (hs:Region.noSelect ops=true) (hd:sj7 nt ops=true) (hQp:∀c a w,¬Q (.panic c) a w) {n:Nat}{F:Bool→Array Bool→AS→Bool}(hF:∀(dy:Bool) (l:Array Bool) (M:Mp) (σ:AS) (a:Act) (w:World),St E nt M σ a w→Stp M0 σ0 a0 w0 M σ a w (hm7 ops.toList)→Closed .any ops l→F dy l σ=true→hu7 P ops Q fins dy n l a w) {dy:Bool}{l:Array Bool}(h:St E nt M σ a w) (hst:Stp M0 σ0 a0 w0 M σ a w (hm7 ops.toList)) (hcl:Closed .any ops l) {i:Nat}(hi:pgc7 ops l=some i) (he:opBF ty call (some none) ops σ (ops.getD i default) (fun σ'=>F dy (l.setIfInBounds i true) σ')=true):hu7 P ops Q fins dy (n+1) l a w:=by
 have hmem:∀{i:Nat},i<ops.size→∀t,(ops.getD i default).dst=some t→hm7 ops.toList t:=fun {i} hi t ht=>⟨_,by simp[Array.getD,hi],ht⟩
 have hdi:∀{i:Nat},i<ops.size→∀t,(ops.getD i default).dst=some t→t<nt:=fun {i} hi=>qf7 hd _ (by simp[Array.getD,hi])
 have hq:=List.find?_some hi
 have hr:i∈Region.ready .any ops l:=List.mem_of_find?_eq_some hi
 simp only[Bool.and_eq_true,Bool.not_eq_true',decide_eq_true_eq]at hq
 obtain⟨⟨⟨⟨hv,hl⟩,hf⟩,e3⟩,-⟩:=hq
 have ho:ops[i]? = some (ops.getD i default):=by simp[Array.getD,e3]
 have hw':peb7 ty (guardOf σ.tm ops (ops.getD i default).guard) none σ (ops.getD i default) (fun σ'=>F dy (l.setIfInBounds i true) σ'=true):=by
  have:=ifb7 hcall ((qk7 _ _ _ _ _ _ _).symm.trans he)
  unfold ip7 at this
  rw[if_pos hv]at this
  exact this
 obtain⟨σ',v,k1,k2,k3,k4⟩:=fbc7 hT h hv hl (hdi e3) hw'
 have ih:=hF _ _ _ _ _ _ k3 (hst.trans (gn7 (M:=M) (a:=a) (w:=w) (v:=v) k2) (fun _ h=>h) (hmem e3)) (hcl.set hr) k1
 unfold hu7 at ih ⊢
 cases dy with
 | true =>
  rw[if_pos rfl]at ih ⊢
  exact wpAny_first ho (Region.noSelect_spec hs) (fun c a w hh=>(hQp _ _ _ hh).elim) n l a w (Region.free_spec ho hf) hr k4 ih
 | false =>
  rw[if_neg (by simp)]at ih ⊢
  exact vx7 ho (Region.noSelect_spec hs) (fun c a w hh=>(hQp _ _ _ hh).elim) n l a w (Region.free_spec ho hf) hr k4 (ef7.refl none w) ih
theorem tob7 (hT:ud7 P ty) (hcall:∀pu f args H K,call pu f args H K=true→lb7 P pu f args H (fun r H=>K r H=true)) (hs:Region.noSelect ops=true) (hd:sj7 nt ops=true) (hQp:∀c a w,¬Q (.panic c) a w) {n:Nat}{F:Bool→Array Bool→AS→Bool}(hF:∀(dy:Bool) (l:Array Bool) (M:Mp) (σ:AS) (a:Act) (w:World),St E nt M σ a w→Stp M0 σ0 a0 w0 M σ a w (hm7 ops.toList)→Closed .any ops l→F dy l σ=true→hu7 P ops Q fins dy n l a w) {dy:Bool}{l:Array Bool}(h:St E nt M σ a w) (hst:Stp M0 σ0 a0 w0 M σ a w (hm7 ops.toList)) (hcl:Closed .any ops l) {i:Nat}{r:RV}(hi:pureN P ty ops l σ=some (i,r)) (he:F dy (l.setIfInBounds i true) ⟨uf7 σ.tm true (ops.getD i default).dst r,σ.H⟩=true):hu7 P ops Q fins dy (n+1) l a w:=by
 have hmem:∀{i:Nat},i<ops.size→∀t,(ops.getD i default).dst=some t→hm7 ops.toList t:=fun {i} hi t ht=>⟨_,by simp[Array.getD,hi],ht⟩
 have hdi:∀{i:Nat},i<ops.size→∀t,(ops.getD i default).dst=some t→t<nt:=fun {i} hi=>qf7 hd _ (by simp[Array.getD,hi])
 unfold pureN at hi
 obtain⟨j,hr,hi⟩:=List.exists_of_findSome?_eq_some hi
 split at hi
 case isFalse=>cases hi
 rename_i hcond
 simp only[Bool.and_eq_true,decide_eq_true_eq]at hcond
 obtain⟨⟨-,hf⟩,e3⟩:=hcond
 split at hi
 case h_2=>cases hi
 rename_i hg
 rw[ov7]at hg
 rw[mob7]at hi
 obtain⟨r',hn,e⟩:=Option.map_eq_some_iff.1 hi
 simp only[Prod.mk.injEq]at e
 obtain⟨rfl,rfl⟩:=e
 have ho:ops[j]? = some (ops.getD j default):=by simp[Array.getD,e3]
 have hwt:Region.wanted (ops.getD j default) (yielded ops a.tmps)=true:=ei7 h hg rfl
 obtain⟨v,v1,v2⟩:=jxb7 hT h hn
 have ih:=hF _ _ _ _ _ _ (h.putV (hdi e3) (fun _=>v1) (fun e=>by cases e)) (hst.trans (gn7 (M:=M) (a:=a) (w:=w) (v:=v) rfl) (fun _ h=>h) (hmem e3)) (hcl.set hr) he
 have k4:Yields P ops (ops.getD j default) v a:=.inl ⟨hwt,v2⟩
 unfold hu7 at ih ⊢
 cases dy with
 | true =>
  rw[if_pos rfl]at ih ⊢
  exact wpAny_first ho (Region.noSelect_spec hs) (fun c a w hh=>(hQp _ _ _ hh).elim) n l a w (Region.free_spec ho hf) hr k4 ih
 | false =>
  rw[if_neg (by simp)]at ih ⊢
  exact vx7 ho (Region.noSelect_spec hs) (fun c a w hh=>(hQp _ _ _ hh).elim) n l a w (Region.free_spec ho hf) hr k4 (ef7.refl none w) ih
theorem snb7 (hT:ud7 P ty) (hcall:∀pu f args H K,call pu f args H K=true→lb7 P pu f args H (fun r H=>K r H=true)) (hs:Region.noSelect ops=true) (hd:sj7 nt ops=true) (hQp:∀c a w,¬Q (.panic c) a w) {n:Nat}{F:Bool→Array Bool→AS→Bool}(hF:∀(dy:Bool) (l:Array Bool) (M:Mp) (σ:AS) (a:Act) (w:World),St E nt M σ a w→Stp M0 σ0 a0 w0 M σ a w (hm7 ops.toList)→Closed .any ops l→F dy l σ=true→hu7 P ops Q fins dy n l a w) {dy:Bool}{l:Array Bool}(h:St E nt M σ a w) (hst:Stp M0 σ0 a0 w0 M σ a w (hm7 ops.toList)) (hcl:Closed .any ops l) {i:Nat}(hi:(if dy then none else vnb7 ops fins l)=some i) (he:opBF ty call (some none) ops σ (ops.getD i default) (fun σ'=>F dy (l.setIfInBounds i true) σ')=true):hu7 P ops Q fins dy (n+1) l a w:=by
 have hmem:∀{i:Nat},i<ops.size→∀t,(ops.getD i default).dst=some t→hm7 ops.toList t:=fun {i} hi t ht=>⟨_,by simp[Array.getD,hi],ht⟩
 have hdi:∀{i:Nat},i<ops.size→∀t,(ops.getD i default).dst=some t→t<nt:=fun {i} hi=>qf7 hd _ (by simp[Array.getD,hi])
 cases dy with
 | true=>simp at hi
 | false =>
  have hi:vnb7 ops fins l=some i:=by simpa using hi
  have hq:=List.find?_some hi
  simp only[Bool.and_eq_true]at hq
  obtain⟨⟨hv,hq⟩,-⟩:=hq
  obtain⟨l',hl'⟩:=Option.isSome_iff_exists.1 hq
  obtain⟨e2,e3⟩:l'=l.setIfInBounds i true∧i<ops.size:=by
   simp only[jm7]at hl'
   split at hl'
   ·rename_i hc
    simp only[Bool.and_eq_true,decide_eq_true_eq]at hc
    exact⟨(Option.some.inj hl').symm,hc.2⟩
   ·cases hl'
  subst e2
  have hw':peb7 ty (guardOf σ.tm ops (ops.getD i default).guard) none σ (ops.getD i default) (fun σ'=>F false (l.setIfInBounds i true) σ'=true):=by
   have:=ifb7 hcall ((qk7 _ _ _ _ _ _ _).symm.trans he)
   unfold ip7 at this
   rw[if_pos hv]at this
   exact this
  obtain⟨σ',v,k1,k2,k3,k4,k5⟩:=ilb7 hT h hv (hdi e3) hw'
  unfold hu7
  rw[if_neg (by simp),Nat.add_comm]
  refine ij7 (lq:=[i]) (K:=fun a'=>a'=a.put (ops.getD i default).dst v) hs (fun c a d v w hh=>(hQp _ _ _ hh).elim) (ef7.refl none w) l _ a hcl hl' ?_ fun a' hcl' ha=>?_
  ·simp only[List.map_cons,List.map_nil]
   unfold wpQuiet
   by_cases hwt:Region.wanted (ops.getD i default) (yielded ops a.tmps)=true
   ·rw[if_pos hwt]
    refine⟨v, ?_,rfl⟩
    rintro w1 ⟨e,rfl⟩
    unfold Oper.quietAt
    rw[k4 hwt e.val e.ok]
    exact⟨rfl,rfl⟩
   ·rw[if_neg hwt]
    show _=_
    rw[k5 (by simpa using hwt)]
  ·subst ha
   have ih:=hF _ _ _ _ _ _ k3 (hst.trans (gn7 (M:=M) (a:=a) (w:=w) (v:=v) k2) (fun _ h=>h) (hmem e3)) hcl' k1
   unfold hu7 at ih
   rw[if_neg (by simp)]at ih
   exact ih
theorem idb7 (hT:ud7 P ty) (hcall:∀pu f args H K,call pu f args H K=true→lb7 P pu f args H (fun r H=>K r H=true)) (hs:Region.noSelect ops=true) (hd:sj7 nt ops=true) (hQp:∀c a w,¬Q (.panic c) a w) {n:Nat}{F:Nat→Bool→Array Bool→AS→Bool}(hF:∀(i:Nat) (dy:Bool) (l:Array Bool) (M:Mp) (σ:AS) (a:Act) (w:World),St E nt M σ a w→Stp M0 σ0 a0 w0 M σ a w (hm7 ops.toList)→Closed .any ops l→F i dy l σ=true→hu7 P ops Q fins dy n l a w) {dy:Bool}{l:Array Bool}(h:St E nt M σ a w) (hst:Stp M0 σ0 a0 w0 M σ a w (hm7 ops.toList)) (hcl:Closed .any ops l) (hne:Region.ready .any ops l≠[]) (h2:∀i∈Region.ready .any ops l,i<ops.size∧opX P ty call (if dy || fins.contains i then none else some none) ops σ (ops.getD i default) (fun σ'=>F i (dy || fins.contains i) (l.setIfInBounds i true) σ')=true):hu7 P ops Q fins dy (n+1) l a w:=by
 have hmem:∀{i:Nat},i<ops.size→∀t,(ops.getD i default).dst=some t→hm7 ops.toList t:=fun {i} hi t ht=>⟨_,by simp[Array.getD,hi],ht⟩
 have hdi:∀{i:Nat},i<ops.size→∀t,(ops.getD i default).dst=some t→t<nt:=fun {i} hi=>qf7 hd _ (by simp[Array.getD,hi])
 unfold hu7
 cases dy with
 | true =>
  rw[if_pos rfl]
  refine⟨fun h0=>absurd h0 hne,fun i hi=>?_⟩
  obtain⟨e1,e2⟩:=h2 i hi
  refine cvb7 e1 (oxb7 hT hcall h (hdi e1) e2 fun M' σ' a' w' q1 q2 q3 q4=>?_)
  have ih:=hF _ _ _ _ _ _ _ q1 (hst.trans q3 (fun _ h=>h) (hmem e1)) (hcl.set hi) q4
  unfold hu7 at ih
  simpa using ih
 | false =>
  rw[if_neg (by simp)]
  refine⟨fun h0=>absurd h0 hne,fun i hi=>?_⟩
  obtain⟨e1,e2⟩:=h2 i hi
  refine cvb7 e1 (oxb7 hT hcall h (hdi e1) e2 fun M' σ' a' w' q1 q2 q3 q4=>?_)
  have ih:=hF _ _ _ _ _ _ _ q1 (hst.trans q3 (fun _ h=>h) (hmem e1)) (hcl.set hi) q4
  unfold hu7 at ih
  by_cases hf:fins.contains i=true
  ·rw[hf]at ih
   exact .inl ⟨by simpa using hf,by simpa using ih⟩
  ·have hf:fins.contains i=false:=by simpa using hf
   rw[hf]at ih q2
   have ho:ef7 none w w':=q2 none (by simp)
   refine .inr ⟨ho,dp7 (fun w3 h3=>ef7.step ho h3) _ _ _ _ ?_⟩
   simpa using ih
theorem fec7 (hT:ud7 P ty) (hcall:∀pu f args H K,call pu f args H K=true→lb7 P pu f args H (fun r H=>K r H=true)) (hs:Region.noSelect ops=true) (hd:sj7 nt ops=true) (hQp:∀c a w,¬Q (.panic c) a w)
  (hQ:∀M' σ' a' w',St E nt M' σ' a' w'→Stp M0 σ0 a0 w0 M' σ' a' w' (hm7 ops.toList)→L σ'=true→Q .normal a' w'):∀(n:Nat) {dy:Bool} {l:Array Bool} {M:Mp} {σ:AS} {a:Act} {w:World},St E nt M σ a w→Stp M0 σ0 a0 w0 M σ a w (hm7 ops.toList)→Closed .any ops l→expB P ty call ops fins L n dy l σ=true→hu7 P ops Q fins dy n l a w
 | 0,dy,l,M,σ,a,w,h,hst,hcl,he=>by
  simp only[expB,Bool.and_eq_true]at he
  have e1:Region.ready .any ops l=[]:=by simpa using he.1
  unfold hu7
  split
  ·exact⟨e1,hQ _ _ _ _ h hst he.2⟩
  ·exact⟨e1,hQ _ _ _ _ h hst he.2⟩
 | n+1,dy,l,M,σ,a,w,h,hst,hcl,he=>by
  have ih:=fun (dy:Bool) (l:Array Bool) (M:Mp) (σ:AS) (a:Act) (w:World) h1 h2 h3 h4=>fec7 hT hcall hs hd hQp hQ n (dy:=dy) (l:=l) (M:=M) (σ:=σ) (a:=a) (w:=w) h1 h2 h3 h4
  unfold expB at he
  split at he
  ·rename_i i hi;exact hnb7 hT hcall hs hd hQp ih h hst hcl hi he
  split at he
  ·rename_i i r hi;exact tob7 hT hcall hs hd hQp ih h hst hcl hi he
  split at he
  ·rename_i i hi;exact snb7 hT hcall hs hd hQp ih h hst hcl hi he
  ·simp only[Bool.and_eq_true,List.all_eq_true,decide_eq_true_eq,Bool.not_eq_true']at he
   obtain⟨h1,h2⟩:=he
   exact idb7 hT hcall hs hd hQp (fun _=>ih) h hst hcl (fun e=>by rw[e]at h1;cases h1) h2
theorem kub7:∀{l m:List Bool},osc7 l m=true→l=m
 | [],[],_=>rfl
 | a::l,b::m,h=>by
  simp only[osc7,Bool.and_eq_true]at h
  rw[kub7 h.2,clb7 h.1]
 | [],_::_,h=>by cases h
 | _::_,[],h=>by cases h
theorem in7:∀{T:ez7}{n:Nat}{dy:Bool}{l:Array Bool}{c:AS},wwb7 T n dy l=some c→(n,dy,l,c)∈T
 | (n',dy',l',c')::T,n,dy,l,c,h=>by
  unfold wwb7 at h
  split at h
  ·rename_i hc
   simp only[Bool.and_eq_true]at hc
   obtain⟨⟨h1,h2⟩,h3⟩:=hc
   obtain rfl:=Nat.eq_of_beq_eq_true h1
   obtain rfl:=Array.toList_inj.1 (kub7 h3)
   cases h
   obtain rfl:=clb7 h2
   exact List.mem_cons_self ..
  ·exact List.mem_cons_of_mem _ (in7 h)
def lvb7 (P:Program) (ops:Array Oper) (Q:Exit→Act→World→Prop) (fins:List Nat) (E:Env) (nt:Nat) (ks:List Nat) (M0:Mp) (σ0:AS) (a0:Act) (w0:World) (T:ez7):Prop :=
 ∀e∈T,∀M σ a w,St E nt M σ a w→Stp M0 σ0 a0 w0 M σ a w (hm7 ops.toList)→Closed .any ops e.2.2.1→leafK σ0.H.length ks e.2.2.2 σ=true→hu7 P ops Q fins e.2.1 e.1 e.2.2.1 a w
theorem xvb7 {ks:List Nat}{c:AS}{ds:Nat→Prop}(h:St E nt M σ a w) (hst:Stp M0 σ0 a0 w0 M σ a w ds) (hl:leafK σ0.H.length ks c σ=true):∃M',St E nt M' c a w∧Stp M0 σ0 a0 w0 M' c a w ds:=by
 unfold leafK at hl
 simp only[Bool.and_eq_true,decide_eq_true_eq]at hl
 obtain⟨⟨g1,g2⟩,g3,g4⟩:=hl
 refine⟨_,(h.normK g1 g2).leK g3 g4, ?_,(hst.kp.normK hst.len).trans (Kp.le g3),hst.tm⟩
 rw[← (aj7 g3).1]
 show σ0.H.length≤(jeb7 σ0.H.length (canonK σ0.H.length ks σ) σ.H).length
 rw[fl7 g1];omega
theorem rtb7 {step:Nat→ez7→(ez7→Bool)→Bool}{G:ez7→Prop}(hstep:∀i T k,step i T k=true→G T→∃T',G T'∧k T'=true):∀(is:List Nat) {T:ez7}{k:ez7→Bool},trc7 step is T k=true→G T→(∃T',G T'∧k T'=true)∧∀i∈is,∃T1 k1,G T1∧step i T1 k1=true
 | [],T,k,h,hg=>⟨⟨T,hg,h⟩,fun i hi=>by cases hi⟩
 | i::is,T,k,h,hg=>by
  have h:step i T (fun T'=>trc7 step is T' k)=true:=h
  obtain⟨T1,g1,k1⟩:=hstep _ _ _ h hg
  obtain⟨q1,q2⟩:=rtb7 hstep is k1 g1
  refine⟨q1,fun j hj=>?_⟩
  rcases List.mem_cons.1 hj with rfl | hj
  ·exact⟨_,_,hg,h⟩
  ·exact q2 j hj
theorem kp7 (hT:ud7 P ty) (hcall:∀pu f args H K,call pu f args H K=true→lb7 P pu f args H (fun r H=>K r H=true)) (hx:ck7 call) (hs:Region.noSelect ops=true) (hd:sj7 nt ops=true) {ks:List Nat}(hQp:∀c a w,¬Q (.panic c) a w)
  (hQ:∀M' σ' a' w',St E nt M' σ' a' w'→Stp M0 σ0 a0 w0 M' σ' a' w' (hm7 ops.toList)→L σ'=true→Q .normal a' w'):∀(n:Nat) {dy:Bool} {l:Array Bool} {σ:AS} {T:ez7} {k:ez7→Bool},expM P ty call ks ops fins σ0.H.length L n dy l σ T k=true→lvb7 P ops Q fins E nt ks M0 σ0 a0 w0 T →
   (∃T',lvb7 P ops Q fins E nt ks M0 σ0 a0 w0 T'∧k T'=true)∧∀M a w,St E nt M σ a w→Stp M0 σ0 a0 w0 M σ a w (hm7 ops.toList)→Closed .any ops l→hu7 P ops Q fins dy n l a w
 | 0,dy,l,σ,T,k,he,hg=>by
  unfold expM at he
  simp only[Bool.and_eq_true]at he
  obtain⟨e1,he⟩:=he
  have e1:Region.ready .any ops l=[]:=by simpa using e1
  split at he
  ·rename_i c hc
   simp only[Bool.and_eq_true]at he
   exact⟨⟨T,hg,he.2⟩,fun M a w h hst hcl=>hg _ (in7 hc) M σ a w h hst hcl he.1⟩
  ·obtain⟨c,he⟩:=gmb7 _ _ he
   simp only[Bool.and_eq_true]at he
   obtain⟨⟨h1,h2⟩,h3⟩:=he
   have key:∀M σ a w,St E nt M σ a w→Stp M0 σ0 a0 w0 M σ a w (hm7 ops.toList)→Closed .any ops l→leafK σ0.H.length ks c σ=true→hu7 P ops Q fins dy 0 l a w:=fun M σ a w h hst _ hl=>by
    obtain⟨M',q1,q2⟩:=xvb7 h hst hl
    unfold hu7
    split
    ·exact⟨e1,hQ _ _ _ _ q1 q2 h2⟩
    ·exact⟨e1,hQ _ _ _ _ q1 q2 h2⟩
   refine⟨⟨_,fun e hm=>?_,h3⟩,fun M a w h hst hcl=>key M σ a w h hst hcl h1⟩
   rcases List.mem_cons.1 hm with rfl | hm
   ·exact key
   ·exact hg e hm
 | n+1,dy,l,σ,T,k,he,hg=>by
  have ih:=fun (dy:Bool) (l:Array Bool) (T:ez7) (k:ez7→Bool) (hg:lvb7 P ops Q fins E nt ks M0 σ0 a0 w0 T) (M:Mp) (σ:AS) (a:Act) (w:World) h1 h2 h3 h4=>(kp7 hT hcall hx hs hd hQp hQ n (dy:=dy) (l:=l) (σ:=σ) (T:=T) (k:=k) h4 hg).2 M a w h1 h2 h3
  unfold expM at he
  split at he
  ·rename_i i hi
   obtain⟨σ',h'⟩:=dj7 hx ((qk7 _ _ _ _ _ _ _).symm.trans he)
   exact⟨(kp7 hT hcall hx hs hd hQp hQ n h' hg).1,fun M a w h hst hcl=>hnb7 hT hcall hs hd hQp (F:=fun dy l σ=>expM P ty call ks ops fins σ0.H.length L n dy l σ T k) (ih · · T k hg) h hst hcl hi he⟩
  split at he
  ·rename_i i r hi
   exact⟨(kp7 hT hcall hx hs hd hQp hQ n he hg).1,fun M a w h hst hcl=>tob7 hT hcall hs hd hQp (F:=fun dy l σ=>expM P ty call ks ops fins σ0.H.length L n dy l σ T k) (ih · · T k hg) h hst hcl hi he⟩
  split at he
  ·rename_i i hi
   obtain⟨σ',h'⟩:=dj7 hx ((qk7 _ _ _ _ _ _ _).symm.trans he)
   exact⟨(kp7 hT hcall hx hs hd hQp hQ n h' hg).1,fun M a w h hst hcl=>snb7 hT hcall hs hd hQp (F:=fun dy l σ=>expM P ty call ks ops fins σ0.H.length L n dy l σ T k) (ih · · T k hg) h hst hcl hi he⟩
  split at he
  ·cases he
  ·rename_i i hr
   simp only[Bool.and_eq_true,decide_eq_true_eq]at he
   obtain⟨σ',h'⟩:=cbb7 hx he.2
   refine⟨(kp7 hT hcall hx hs hd hQp hQ n h' hg).1,fun M a w h hst hcl=>idb7 hT hcall hs hd hQp (F:=fun _ dy l σ=>expM P ty call ks ops fins σ0.H.length L n dy l σ T k) (fun _=>(ih · · T k hg)) h hst hcl (by rw[hr];simp) fun j hj=>?_⟩
   rw[hr]at hj
   obtain rfl:=List.mem_singleton.1 hj
   exact he
  ·rename_i is hn1 hn2
   split at he
   ·rename_i c hc
    simp only[Bool.and_eq_true]at he
    exact⟨⟨T,hg,he.2⟩,fun M a w h hst hcl=>hg _ (in7 hc) M σ a w h hst hcl he.1⟩
   ·obtain⟨c,he⟩:=gmb7 _ _ he
    simp only[Bool.and_eq_true]at he
    obtain⟨h1,he⟩:=he
    obtain⟨⟨T',g1,g2⟩,g3⟩:=rtb7 (G:=lvb7 P ops Q fins E nt ks M0 σ0 a0 w0) (fun i T k h hg=>by
     simp only[Bool.and_eq_true,decide_eq_true_eq]at h
     obtain⟨σ',h'⟩:=cbb7 hx h.2
     exact (kp7 hT hcall hx hs hd hQp hQ n h' hg).1) _ he hg
    have hne:Region.ready .any ops l≠[]:=fun e=>hn1 e
    have g3':∀i,∃T1 k1,i∈Region.ready .any ops l→lvb7 P ops Q fins E nt ks M0 σ0 a0 w0 T1∧i<ops.size∧opX P ty call (if dy || fins.contains i then none else some none) ops c (ops.getD i default) (fun σ'=>expM P ty call ks ops fins σ0.H.length L n (dy || fins.contains i) (l.setIfInBounds i true) σ' T1 k1)=true:=fun i=>by
     by_cases hi:i∈Region.ready .any ops l
     ·obtain⟨T1,k1,q1,q2⟩:=g3 i hi
      simp only[Bool.and_eq_true,decide_eq_true_eq]at q2
      exact⟨T1,k1,fun _=>⟨q1,q2⟩⟩
     ·exact⟨[],fun _=>true,fun h=>absurd h hi⟩
    obtain⟨Tf,g3'⟩:=Classical.axiomOfChoice g3'
    obtain⟨kf,g3'⟩:=Classical.axiomOfChoice g3'
    have key:∀M σ a w,St E nt M σ a w→Stp M0 σ0 a0 w0 M σ a w (hm7 ops.toList)→Closed .any ops l→leafK σ0.H.length ks c σ=true→hu7 P ops Q fins dy (n+1) l a w:=fun M σ a w h hst hcl hl=>by
     obtain⟨M',q1,q2⟩:=xvb7 h hst hl
     generalize hR:Region.ready .any ops l=R at *
     refine idb7 hT hcall hs hd hQp (F:=fun i dy' l' σ=>if i∈R then expM P ty call ks ops fins σ0.H.length L n dy' l' σ (Tf i) (kf i) else false) (fun i dy' l' M σ a w h1 h2 h3 h4=>?_) q1 q2 hcl (by rw[hR];exact hne) (fun i hi=>?_)
     ·split at h4
      ·rename_i hi
       exact ih _ _ _ _ (g3' i hi).1 _ _ _ _ h1 h2 h3 h4
      ·cases h4
     ·rw[hR]at hi
      simp only[if_pos hi]
      exact (g3' i hi).2
    refine⟨⟨_,fun e hm=>?_,g2⟩,fun M a w h hst hcl=>key M σ a w h hst hcl h1⟩
    rcases List.mem_cons.1 hm with rfl | hm
    ·exact key
    ·exact g1 e hm
theorem ms7 (hx:ck7 call) {ks:List Nat}{n0:Nat}:∀(n:Nat) {dy:Bool}{l:Array Bool}{σ:AS}{T:ez7}{k:ez7→Bool},expM P ty call ks ops fins n0 L n dy l σ T k=true→(∃σ,L σ=true)∨∃e,e∈T
 | 0,dy,l,σ,T,k,h=>by
  unfold expM at h
  simp only[Bool.and_eq_true]at h
  obtain⟨-,h⟩:=h
  split at h
  ·rename_i c hc;exact .inr ⟨_,in7 hc⟩
  ·obtain⟨c,h⟩:=gmb7 _ _ h
   simp only[Bool.and_eq_true]at h
   exact .inl ⟨_,h.1.2⟩
 | n+1,dy,l,σ,T,k,h=>by
  unfold expM at h
  split at h
  ·obtain⟨σ',h⟩:=dj7 hx ((qk7 _ _ _ _ _ _ _).symm.trans h)
   exact ms7 hx n h
  split at h
  ·exact ms7 hx n h
  split at h
  ·obtain⟨σ',h⟩:=dj7 hx ((qk7 _ _ _ _ _ _ _).symm.trans h)
   exact ms7 hx n h
  split at h
  ·cases h
  ·simp only[Bool.and_eq_true]at h
   obtain⟨σ',h⟩:=cbb7 hx h.2
   exact ms7 hx n h
  ·rename_i is hn1 hn2
   split at h
   ·rename_i c hc;exact .inr ⟨_,in7 hc⟩
   ·obtain⟨c,h⟩:=gmb7 _ _ h
    simp only[Bool.and_eq_true]at h
    obtain⟨-,h⟩:=h
    cases hr:Region.ready .any ops l with
    | nil=>exact absurd hr hn1
    | cons i r =>
     rw[hr]at h
     have h:(decide (i<ops.size)&&opX P ty call (if dy || fins.contains i then none else some none) ops c (ops.getD i default) _)=true:=h
     simp only[Bool.and_eq_true]at h
     obtain⟨σ',h⟩:=cbb7 hx h.2
     exact ms7 hx n h
theorem vfc7 (hT:ud7 P ty) (hm:P.follows .mixedOrders=true) (hcall:∀pu f args H K,call pu f args H K=true→lb7 P pu f args H (fun r H=>K r H=true)) (hx:ck7 call) {id:Nat}{q:Bool×List Nat×List Nat}(hd:sj7 nt ops=true) (h:St E nt M σ a w) (hw:regB P ty call nt ops q K σ=true)
  (hQ:∀a' w',After E nt M σ a w (hm7 ops.toList) (fun σ=>K σ=true) a' w'→Q .normal a' w') (hQp:∀c a w,¬Q (.panic c) a w):(Code.region id ops true).wp P Q a w:=by
 unfold regB at hw
 simp only[Bool.and_eq_true]at hw
 obtain⟨hs,hw⟩:=hw
 have hb:Below w.heap.size w w.drew:=(Below.refl _ _).drew
 have h2:St E nt M σ a w.drew:=⟨h.rel.below hb,fun t ht=>(Kp.below h.rel hb).R (h.tms t ht),h.off,h.sz,h.df⟩
 have hst:Stp M σ a w M σ a w.drew (hm7 ops.toList):=⟨Nat.le_refl _,Kp.below h.rel hb,fun _ _=>rfl⟩
 have hcl:Closed .any ops (Array.replicate ops.size false):=fun j oj _ hl=>by rw[getD_replicate_false]at hl;cases hl
 have fin:∀L:AS→Bool,expB P ty call ops q.2.1 L ops.size false (Array.replicate ops.size false) σ=true→(∀M' σ' a' w',St E nt M' σ' a' w'→Stp M σ a w M' σ' a' w' (hm7 ops.toList)→L σ'=true→Q .normal a' w')→(Code.region id ops true).wp P Q a w:=fun L he hL=>by
  refine wp_region_any hm (eg7 (S:=ef7 none w.drew) (fins:=q.2.1) _ _ _ _ ?_)
  have:=fec7 hT hcall hs hd hQp hL ops.size h2 hst hcl he
  unfold hu7 at this
  rw[if_neg (by simp)]at this
  exact this
 split at hw
 ·refine wp_region_any hm (eg7 (S:=ef7 none w.drew) (fins:=q.2.1) _ _ _ _ ?_)
  have:=(kp7 hT hcall hx hs hd hQp (L:=K) (fun M' σ' a' w' q1 q2 q3=>hQ a' w' ⟨M',σ',q1,q2,q3⟩) ops.size hw (fun e he=>by cases he)).2 M a w.drew h2 hst hcl
  unfold hu7 at this
  rw[if_neg (by simp)]at this
  exact this
 ·exact fin K hw fun M' σ' a' w' q1 q2 q3=>hQ a' w' ⟨M',σ',q1,q2,q3⟩
end
def wpb7 (n:AS→Bool) (Q:Exit→AS→Bool):Exit→AS→Bool
 | .normal,σ=>n σ
 | e,σ=>Q e σ
def glc7 (id:Nat) (Q:Exit→AS→Bool):Exit→AS→Bool
 | .exit j,σ=>if j=id then Q .normal σ else Q (.exit j) σ
 | e,σ=>Q e σ
section
variable {P:Program} {ty:Ty} {call:co7} {ord:Nat→List Nat×Nat×Option DD} {n:Nat}
end
def lib7 (H:List Root):Nat→AV→AV
 | k+1,.ptr id n i o=>match aa7 H id with
  | .live _ _ sz r=>.rp (sz-o) (fun j=>lib7 H k (r.get i (o+j)))
  | .dead=>.junk
 | k+1,.h id st len=>match aa7 H id with
  | .live _ _ sz r=>.sl len sz (fun i j=>lib7 H k (r.get (st+i) j))
  | .dead=>.junk
 | _,a=>a
def mq7 (H:List Root):Nat→AV→Bool
 | k+1,.ptr id n i o=>match aa7 H id with
  | .live _ _ sz r=>decide (r.len=n∧i<n)&&(List.range (sz-o)).all fun j=>mq7 H k (r.get i (o+j))
  | .dead=>false
 | k+1,.h id st len=>match aa7 H id with
  | .live _ _ sz r=>decide (st+len=r.len)&&(List.range len).all fun i=>(List.range sz).all fun j=>mq7 H k (r.get (st+i) j)
  | .dead=>false
 | _,.junk=>true
 | _,a=>a.fr
theorem xj7.up {M:Mp}{H:List Root}{w:World}{bx:Bool}{a:AV}{v:Value}(h:xj7 M H w bx a v):Con M H w a v:=by
 unfold xj7 at h;split at h
 ·exact h
 ·exact Con.of0 h
theorem htb7 {E:Env}{M:Mp}{H:List Root}{w:World}(h:Rel E M H w):∀(k:Nat) {x:AV}{v:Value},mq7 H k x=true→Con M H w x v→ad7 (neb7 M H) w (lib7 H k x) v:=by
 have plain:∀{x:AV} {v:Value},x.fr=true→Con M H w x v→ad7 (neb7 M H) w x v:=fun hx hc=>nyb7 hx (fun _=>.inl) hc
 intro k
 induction k with
 | zero =>
  intro x v ho hc
  cases x with
  | junk=>trivial
  | _=>exact plain ho hc
 | succ k ih =>
  intro x v ho hc
  cases x with
  | ptr id n i o =>
   simp only[mq7]at ho
   simp only[lib7]
   split at ho
   ·rename_i fz t sz r hr
    simp only[Bool.and_eq_true,decide_eq_true_eq,List.all_eq_true,List.mem_range]at ho
    obtain⟨⟨hl,hi⟩,hf⟩:=ho
    have hv:=(hc.2 _ _ _ _ hr).2 hl
    obtain⟨cur,c1,c2,c3,c4,c5,c6⟩:=h.row _ _ _ _ _ hr
    refine⟨M.phi id,M.off id+i*sz+o,hv,.inr ⟨id,fz,t,sz,_,hr,rfl⟩,fun j hj=>?_⟩
    obtain⟨u,u1,u2,u3⟩:=c6 i (by omega) (o+j) (by omega)
    refine⟨u, ?_,ih (hf j hj) u3.up⟩
    simp only[World.cell?,c1]
    rw[Nat.add_assoc]
    simpa using u1
   ·cases ho
  | h id st len =>
   simp only[mq7]at ho
   simp only[lib7]
   split at ho
   ·rename_i fz t sz r hr
    simp only[Bool.and_eq_true,decide_eq_true_eq,List.all_eq_true,List.mem_range]at ho
    obtain⟨e,hf⟩:=ho
    obtain⟨cap,cur,ad,rfl,k1,k2,k3,k4,k7⟩:=(hc.2 _ _ _ _ hr).2 e
    obtain⟨cur2,c1,c2,c3,c4,c5,c6⟩:=h.row _ _ _ _ _ hr
    refine⟨_,M.phi id,M.off id+st*sz,cap,rfl,k1,k2,fun _=>⟨congrArg some (k7 (by omega)),.inr ⟨id,fz,t,sz,r,hr,rfl⟩⟩,fun i hi j hj=>?_⟩
    obtain⟨u,u1,u2,u3⟩:=c6 (st+i) (by omega) j hj
    refine⟨u, ?_,ih (hf i hi j hj) u3.up⟩
    rw[show M.off id+st*sz+i*sz+j=M.off id+(st+i)*sz+j by rw[Nat.add_mul];omega]
    simp[World.cell?,c1,u1]
   ·cases ho
  | junk=>trivial
  | _=>exact plain ho hc
def icc7 (H:List Root) (k:Nat):List AV→List AV
 | []=>[]
 | a::l=>lib7 H k a::icc7 H k l
def spc7 (H:List Root) (k:Nat):RV→RV
 | .c a=>.c (lib7 H k a)
 | .agg l=>.agg (icc7 H k l)
 | .fn f l=>.fn f (icc7 H k l)
 | .tup l=>.tup l
 | .ifc t x=>.ifc t x
def ht7 (H:List Root) (k:Nat):List RV→List RV
 | []=>[]
 | a::l=>spc7 H k a::ht7 H k l
def qw7 (H:List Root) (k:Nat):RV→Bool
 | .c a=>mq7 H k a
 | .agg l=>l.all (mq7 H k)
 | .fn _ l=>l.all (mq7 H k)
 | .tup _=>false
 | .ifc .. => false
section
variable {P:Program} {E:Env} {M:Mp} {H:List Root} {w:World}
theorem heb7 (h:Rel E M H w) (k:Nat):∀{l:List AV}{vs:List Value},l.all (mq7 H k)=true→re7 M H w l vs→ge7 (neb7 M H) w (icc7 H k l) vs
 | [],_,_,hc=>hc
 | _::_,_,ho,⟨v,r,e,h1,h2⟩=>by
  simp only[List.all_cons,Bool.and_eq_true]at ho
  exact⟨v,r,e,htb7 h k ho.1 h1,heb7 h k ho.2 h2⟩
theorem hcc7 (h:Rel E M H w) (k:Nat) {x:RV}{v:Value}(ho:qw7 H k x=true) (hc:ra7 M H w x v):li7 (neb7 M H) w (spc7 H k x) v:=by
 cases x with
 | c a=>exact htb7 h k ho hc
 | agg l=>obtain⟨vs,e,hc⟩:=hc;exact⟨vs,e,heb7 h k ho hc⟩
 | fn f l=>obtain⟨vs,e,hc⟩:=hc;exact⟨vs,e,heb7 h k ho hc⟩
 | tup=>cases ho
 | ifc=>cases ho
theorem uv7 (h:Rel E M H w) (k:Nat):∀{l:List RV}{vs:List Value},l.all (qw7 H k)=true→sc7 M H w l vs→qd7 (neb7 M H) w (ht7 H k l) vs
 | [],_,_,hc=>hc
 | _::_,_,ho,⟨v,r,e,h1,h2⟩=>by
  simp only[List.all_cons,Bool.and_eq_true]at ho
  exact⟨v,r,e,hcc7 h k ho.1 h1,uv7 h k ho.2 h2⟩
theorem qsb7 {M:Mp}{H:List Root}{w:World}{rho:Nat→Prop}{x:AV}{v:Value}(hs:x.scal=true) (h:Con M H w x v):ad7 rho w x v:=by
 cases x <;> first | exact h | cases hs
theorem nob7 {M:Mp}{H:List Root}{w:World}{rho:Nat→Prop}:∀{l:List AV}{vs:List Value},lqb7 l=true→re7 M H w l vs→ge7 rho w l vs
 | [],_,_,h=>h
 | _::_,_,hs,⟨v,r,e,h1,h2⟩=>by
  simp only[lqb7,Bool.and_eq_true]at hs
  exact⟨v,r,e,qsb7 hs.1 h1,nob7 hs.2 h2⟩
theorem lcb7 {M:Mp}{H:List Root}{w:World}{rho:Nat→Prop}{x:RV}{v:Value}(hs:ibc7 x=true) (h:ra7 M H w x v):li7 rho w x v:=by
 cases x with
 | c a=>exact qsb7 hs h
 | agg l=>obtain⟨vs,e,h⟩:=h;exact⟨vs,e,nob7 hs h⟩
 | fn=>cases hs
 | tup=>cases hs
 | ifc=>cases hs
theorem nhb7 {M:Mp}{H:List Root}{w:World}{rho:Nat→Prop}:∀{l:List RV}{vs:List Value},qz7 l=true→sc7 M H w l vs→qd7 rho w l vs
 | [],_,_,h=>h
 | _::_,_,hs,⟨v,r,e,h1,h2⟩=>by
  simp only[qz7,Bool.and_eq_true]at hs
  exact⟨v,r,e,lcb7 hs.1 h1,nhb7 hs.2 h2⟩
theorem ao7 {M:Mp}{H:List Root}{w:World}{rho:Nat→Prop}{x:RV}{v:Value}(hs:uy7 x=true) (h:ra7 M H w x v):xg7 rho w x v:=by
 cases x with
 | tup l=>obtain⟨vs,e,h⟩:=h;exact⟨vs,e,nhb7 hs h⟩
 | c a=>exact lcb7 (x:=.c a) hs h
 | agg l=>exact lcb7 (x:=.agg l) hs h
 | fn f l=>cases hs
 | ifc=>cases hs
end
instance (ty:Ty) (σ:AS) (r:ResultVar):Decidable (igc7 ty σ r).1:=by
 unfold igc7;split <;> infer_instance
instance decRes (ty:Ty) (σ:AS):∀l:List ResultVar,Decidable (eo7 ty σ l).1
 | []=>isTrue trivial
 | r::l => @instDecidableAnd _ _ inferInstance (decRes ty σ l)
def blc7 (ty:Ty) (rs:List ResultVar) (K:RV→List Root→Bool):Exit→AS→Bool
 | .ret,σ=>decide (eo7 ty σ rs).1&&K (one (eo7 ty σ rs).2) σ.H
 | .normal,σ=>decide (eo7 ty σ rs).1&&K (one (eo7 ty σ rs).2) σ.H
 | _,_=>false
theorem jz7 (H:List Root) (k:Nat):∀l:List RV,(ht7 H k l).length=l.length
 | []=>rfl
 | _::l=>by simp[ht7,jz7 H k l]
def AV.mfr:AV→Bool
 | .sl .. => false
 | .rp .. => false
 | .ws .. => false
 | .wu .. => false
 | .wp .. => false
 | _=>true
def shA (n:Nat):AV→AV
 | .ptr id m i o=>.ptr (id+n) m i o
 | .h id st len=>.h (id+n) st len
 | a=>a
def shL (n:Nat):List AV→List AV
 | []=>[]
 | a::l=>shA n a::shL n l
def vkc7 (n:Nat):List (List AV)→List (List AV)
 | []=>[]
 | a::l=>shL n a::vkc7 n l
def ftb7 (n:Nat):Row→Row
 | .box l=>.box (shL n l)
 | .own l=>.own (vkc7 n l)
 | r=>r
def exc7 (n:Nat):Root→Root
 | .live fz t sz r=>.live fz t sz (ftb7 n r)
 | .dead=>.dead
def shH (n:Nat):List Root→List Root
 | []=>[]
 | r::l=>exc7 n r::shH n l
def jwc7 (n:Nat):RV→RV
 | .c a=>.c (shA n a)
 | .agg l=>.agg (shL n l)
 | x=>x
def svc7 (n:Nat):List RV→List RV
 | []=>[]
 | a::l=>jwc7 n a::svc7 n l
def shR (n:Nat):RV→RV
 | .tup l=>.tup (svc7 n l)
 | x=>jwc7 n x
def mpc7:Row→Bool
 | .box l=>l.all AV.mfr
 | .own l=>l.all fun l=>l.all AV.mfr
 | .gen l=>l.all fun l=>l.all AV.mfr
 | _=>true
def nkc7:Root→Bool
 | .live _ _ _ r=>mpc7 r
 | .dead=>true
def hsc7:RV→Bool
 | .c a=>a.mfr
 | .agg l=>l.all AV.mfr
 | _=>false
def plR:RV→Bool
 | .tup l=>l.all hsc7
 | x=>hsc7 x
def fqb7 (n s:Nat) (M M':Mp):Mp:=⟨fun id=>if id<n then M.phi id else M'.phi (id-n),fun id=>if id<n then M.off id else M'.off (id-n),fun b=>M.rho b∨(M'.rho b∧s≤b),M.tau⟩
section
variable {P:Program} {E:Env} {M M':Mp} {H G:List Root} {w w':World} {s n:Nat}
theorem byb7 (n:Nat):∀l:List Root,(shH n l).length=l.length
 | []=>rfl
 | _::l=>by simp[shH,byb7 n l]
theorem xdc7 (n:Nat):∀(l:List Root) (j:Nat),aa7 (shH n l) j=exc7 n (aa7 l j)
 | [],_=>rfl
 | _::_,0=>rfl
 | _::l,j+1=>xdc7 n l j
theorem wob7 (n:Nat):∀l:List (List AV),(vkc7 n l).length=l.length
 | []=>rfl
 | _::l=>by simp[vkc7,wob7 n l]
theorem knb7 (n:Nat):∀(l:List (List AV)) (i:Nat),(vkc7 n l).getD i []=shL n (l.getD i [])
 | [],_=>rfl
 | _::_,0=>rfl
 | _::l,i+1=>knb7 n l i
theorem btb7 (n:Nat):∀(l:List AV) (o:Nat),nth (shL n l) o=shA n (nth l o)
 | [],_=>rfl
 | _::_,0=>rfl
 | _::l,o+1=>btb7 n l o
theorem yp7 (r:Row):(ftb7 n r).len=r.len:=by
 cases r <;> first | rfl | exact wob7 _ _
theorem tyb7 (r:Row):(ftb7 n r).one=r.one:=by cases r <;> rfl
theorem vsb7 (r:Row):(ftb7 n r).isBox=r.isBox:=by cases r <;> rfl
theorem um7 {j:Nat}{fz:Bool}{t:TypeId}{sz:Nat}{r:Row}(h:aa7 (H++shH H.length G) j = .live fz t sz r):(j<H.length∧aa7 H j = .live fz t sz r)∨(H.length≤j∧∃r0,aa7 G (j-H.length) = .live fz t sz r0∧r=ftb7 H.length r0):=by
 rw[fi7]at h
 split at h
 ·rename_i hj;exact .inl ⟨hj,h⟩
 ·rename_i hj
  rw[xdc7]at h
  cases hg:aa7 G (j-H.length) with
  | dead=>rw[hg]at h;cases h
  | live fz' t' sz' r0=>rw[hg]at h;cases h;exact .inr ⟨by omega,r0,rfl,rfl⟩
theorem wm7 {j:Nat}(h:j<H.length):(fqb7 H.length s M M').phi j=M.phi j:=if_pos h
theorem cn7 {j:Nat}(h:H.length≤j):(fqb7 H.length s M M').phi j=M'.phi (j-H.length):=if_neg (by omega)
theorem bvb7 {j:Nat}(h:j<H.length):(fqb7 H.length s M M').off j=M.off j:=if_pos h
theorem utb7 {j:Nat}(h:H.length≤j):(fqb7 H.length s M M').off j=M'.off (j-H.length):=if_neg (by omega)
theorem Con.catL {x:AV}{v:Value}(c:Con M H w x v):Con (fqb7 H.length s M M') (H++shH H.length G) w x v:=by
 have len:∀{id:Nat},id<H.length→id<(H++shH H.length G).length:=fun h=>by rw[List.length_append];omega
 cases x with
 | ptr id m i o =>
  refine⟨⟨len c.1.1,c.1.2⟩,fun fz t sz r hr=>?_⟩
  rcases um7 hr with ⟨h1,h2⟩ | ⟨h1,-⟩
  ·rw[wm7 h1,bvb7 h1];exact c.2 _ _ _ _ h2
  ·have:=c.1.1;omega
 | h id st l =>
  refine⟨⟨len c.1.1,c.1.2⟩,fun fz t sz r hr=>?_⟩
  rcases um7 hr with ⟨h1,h2⟩ | ⟨h1,-⟩
  ·rw[wm7 h1,bvb7 h1];exact c.2 _ _ _ _ h2
  ·have:=c.1.1;omega
 | sl n sz f=>exact ad7.keep (fun _ _=>rfl) (fun _=>.inl) (show ad7 M.rho w (.sl n sz f) v from c)
 | rp n f=>exact ad7.keep (fun _ _=>rfl) (fun _=>.inl) (show ad7 M.rho w (.rp n f) v from c)
 | _=>exact c
theorem Con.catR {x:AV}{v:Value}(hm:x.mfr=true) (c:Con M' G w x v):Con (fqb7 H.length s M M') (H++shH H.length G) w (shA H.length x) v:=by
 have len:∀{id:Nat},id<G.length→id+H.length<(H++shH H.length G).length:=fun h=>by rw[List.length_append,byb7];omega
 cases x with
 | ptr id m i o =>
  refine⟨⟨len c.1.1,c.1.2⟩,fun fz t sz r hr=>?_⟩
  rcases um7 hr with ⟨h1,-⟩ | ⟨h1,r0,h2,rfl⟩
  ·omega
  ·rw[cn7 h1,utb7 h1,yp7]
   rw[Nat.add_sub_cancel]at h2 ⊢
   exact c.2 _ _ _ _ h2
 | h id st l =>
  refine⟨⟨len c.1.1,c.1.2⟩,fun fz t sz r hr=>?_⟩
  rcases um7 hr with ⟨h1,-⟩ | ⟨h1,r0,h2,rfl⟩
  ·omega
  ·rw[cn7 h1,utb7 h1,yp7]
   rw[Nat.add_sub_cancel]at h2 ⊢
   exact c.2 _ _ _ _ h2
 | _=>first | exact c | cases hm
theorem re7.catR:∀{l:List AV}{vs:List Value},l.all AV.mfr=true→re7 M' G w l vs→re7 (fqb7 H.length s M M') (H++shH H.length G) w (shL H.length l) vs
 | [],_,_,h=>h
 | _::_,_,hm,⟨v,r,e,h1,h2⟩=>by
  simp only[List.all_cons,Bool.and_eq_true]at hm
  exact⟨v,r,e,h1.catR hm.1,re7.catR hm.2 h2⟩
theorem ConR1.catR {x:RV}{v:Value}(hm:hsc7 x=true) (c:ra7 M' G w x v):ra7 (fqb7 H.length s M M') (H++shH H.length G) w (jwc7 H.length x) v:=by
 cases x with
 | c a=>exact Con.catR hm c
 | agg l=>obtain⟨vs,e,c⟩:=c;exact⟨vs,e,re7.catR hm c⟩
 | _=>cases hm
theorem sc7.catR:∀{l:List RV}{vs:List Value},l.all hsc7=true→sc7 M' G w l vs→sc7 (fqb7 H.length s M M') (H++shH H.length G) w (svc7 H.length l) vs
 | [],_,_,h=>h
 | _::_,_,hm,⟨v,r,e,h1,h2⟩=>by
  simp only[List.all_cons,Bool.and_eq_true]at hm
  exact⟨v,r,e,ConR1.catR hm.1 h1,sc7.catR hm.2 h2⟩
theorem ra7.catR {x:RV}{v:Value}(hm:plR x=true) (c:ra7 M' G w x v):ra7 (fqb7 H.length s M M') (H++shH H.length G) w (shR H.length x) v:=by
 cases x with
 | tup l=>obtain⟨vs,e,c⟩:=c;exact⟨vs,e,sc7.catR hm c⟩
 | c a=>exact ConR1.catR (x:=.c a) hm c
 | agg l=>exact ConR1.catR (x:=.agg l) hm c
 | fn f l=>cases hm
 | ifc t y=>cases hm
theorem rdb7 {p:AV→Bool}(hj:p .junk=true):∀{l:List AV},l.all p=true→∀o,p (nth l o)=true
 | [],_,_=>hj
 | _::_,h,0=>by simp only[List.all_cons,Bool.and_eq_true]at h;exact h.1
 | _::_,h,o+1=>by simp only[List.all_cons,Bool.and_eq_true]at h;exact rdb7 hj h.2 o
theorem nmb7 {l:List (List AV)}(h:(l.all fun l=>l.all AV.mfr)=true) (i:Nat):(l.getD i []).all AV.mfr=true:=by
 rw[List.getD_eq_getElem?_getD]
 cases hi:l[i]? with
 | none=>rfl
 | some x=>exact List.all_eq_true.1 h x (List.mem_of_getElem? hi)
theorem ad7.mfr {rho rho':Nat→Prop}{x:AV}{v:Value}(hm:x.mfr=true) (c:ad7 rho w x v):ad7 rho' w x v:=by
 cases x <;> first | exact c | cases hm
theorem Rel.cat (h:Rel E M H w') (hl:∀b,M.rho b→b<w.heap.size) (hp:∀id fz t sz r,aa7 H id = .live fz t sz r→M.phi id<w.heap.size) (ht:∀b q,M.tau b=some q→b<w.heap.size) (hE:E.W0.heap.size≤w.heap.size) {rho:Nat→Prop}
  (k:Rel (Env.of w rho) M' G w') (pl:G.all nkc7=true):Rel E (fqb7 H.length w.heap.size M M') (H++shH H.length G) w':=by
 have plg:∀{j:Nat} {fz:Bool} {t:TypeId} {sz:Nat} {r:Row},aa7 G j = .live fz t sz r→mpc7 r=true:=fun {j fz t sz r} hr=>by
  have go:∀(G:List Root) (j:Nat),G.all nkc7=true→nkc7 (aa7 G j)=true:=by
   intro G
   induction G with
   | nil=>intro j _;rfl
   | cons a l ih =>
    intro j h
    simp only[List.all_cons,Bool.and_eq_true]at h
    cases j with
    | zero=>exact h.1
    | succ j=>exact ih j h.2
  have:=go G j pl
  rw[hr]at this;exact this
 refine⟨h.bel,fun id fz t sz r hr=>?_,fun id fz t sz r hr=>?_,fun id t sz r hr=>?_,fun id t sz r hr=>?_,fun i j t s r t' s' r' hi hj he=>?_,fun b hb=>?_,⟨fun b hb=>?_,h.src.2.mono fun _=>.inl⟩,h.tau.keep rfl (fun _ _ _=>rfl) (fun b q hq hb=>?_) fun b q j fz t s r hq hj=>?_⟩
 ·rcases um7 hr with ⟨h1,h2⟩ | ⟨h1,r0,h2,rfl⟩
  ·rw[wm7 h1];exact h.low _ _ _ _ _ h2
  ·rw[cn7 h1];exact .inl (Nat.le_trans hE (k.lowN _ _ _ _ _ h2))
 ·rcases um7 hr with ⟨h1,h2⟩ | ⟨h1,r0,h2,rfl⟩
  ·rw[wm7 h1,bvb7 h1]
   exact (h.row _ _ _ _ _ h2).keep (fun x v c=>c.catL) (fun _ _=>rfl) (fun _=>.inl) rfl
  ·rw[cn7 h1,utb7 h1]
   obtain⟨cur,k1,k2,k3,k4,k5,k6⟩:=k.row _ _ _ _ _ h2
   refine⟨cur,k1,k2,by rw[yp7];exact k3,k4,by rw[tyb7];exact k5,fun i hi o ho=>?_⟩
   rw[yp7]at hi
   obtain⟨v,v1,v2,v3⟩:=k6 i hi o ho
   refine⟨v,v1,v2, ?_⟩
   have hpl:=plg h2
   unfold xj7 at v3 ⊢
   rw[vsb7]
   cases r0 with
   | box l =>
    simp only[Row.isBox,if_true]at v3 ⊢
    show Con _ _ w' (nth (shL H.length l) o) v
    rw[btb7]
    exact Con.catR (rdb7 (p:=AV.mfr) rfl hpl o) v3
   | own l =>
    simp only[Row.isBox,if_true]at v3 ⊢
    show Con _ _ w' (nth ((vkc7 H.length l).getD i []) o) v
    rw[knb7,btb7]
    exact Con.catR (rdb7 (p:=AV.mfr) rfl (nmb7 hpl i) o) v3
   | gen l=>exact ad7.mfr (rdb7 (p:=AV.mfr) rfl (nmb7 hpl i) o) v3
   | ints=>exact v3
   | bools=>exact v3
 ·rcases um7 hr with ⟨h1,h2⟩ | ⟨h1,r0,h2,rfl⟩
  ·rw[wm7 h1];exact .inl (h.froz _ _ _ _ h2)
  ·rw[cn7 h1];exact .inr ⟨k.froz _ _ _ _ h2,k.lowN _ _ _ _ _ h2⟩
 ·rcases um7 hr with ⟨h1,h2⟩ | ⟨h1,r0,h2,rfl⟩
  ·rw[wm7 h1]
   rintro (hb | ⟨-,hb⟩)
   ·exact h.thaw _ _ _ _ h2 hb
   ·have:=hp _ _ _ _ _ h2;omega
  ·rw[cn7 h1]
   rintro (hb | ⟨hb,-⟩)
   ·have:=hl _ hb
    have:=k.lowN _ _ _ _ _ h2
    omega
   ·exact k.thaw _ _ _ _ h2 hb
 ·rcases um7 hi with ⟨h1,h2⟩ | ⟨h1,r0,h2,rfl⟩ <;> rcases um7 hj with ⟨g1,g2⟩ | ⟨g1,r1,g2,rfl⟩
  ·rw[wm7 h1,wm7 g1]at he;exact h.inj _ _ _ _ _ _ _ _ h2 g2 he
  ·rw[wm7 h1,cn7 g1]at he
   have:=hp _ _ _ _ _ h2
   have:=k.lowN _ _ _ _ _ g2
   omega
  ·rw[cn7 h1,wm7 g1]at he
   have:=hp _ _ _ _ _ g2
   have:=k.lowN _ _ _ _ _ h2
   omega
  ·rw[cn7 h1,cn7 g1]at he
   have:=k.inj _ _ _ _ _ _ _ _ h2 g2 he
   omega
 ·rcases hb with hb | ⟨hb,-⟩
  ·exact h.rlt b hb
  ·exact k.rlt b hb
 ·rcases hb with hb | ⟨-,hb⟩
  ·exact h.src.1 b hb
  ·exact .inr (.inl (Nat.le_trans hE hb))
 ·rcases hb with hb | ⟨-,hb⟩
  ·exact (h.tau.new b q hq).2 hb
  ·have:=ht b q hq;omega
 ·rcases um7 hj with ⟨h1,h2⟩ | ⟨h1,r0,h2,rfl⟩
  ·rw[wm7 h1];exact h.tau.row _ _ _ _ _ _ _ hq h2
  ·rw[cn7 h1]
   have:=k.lowN _ _ _ _ _ h2
   have:=ht b q hq
   omega
theorem qtb7 {pu:Pu}{f:FuncId}{args:List RV}{K:RV→List Root→Prop}(d:Nat) (ho:args.all (qw7 H d)=true) (hp:lb7 P none f (ht7 H d args) [] (fun r G=>(uy7 r=true∧K r H)∨((plR r=true∧G.all nkc7=true)∧K (shR H.length r) (H++shH H.length G)))):lb7 P pu f args H K:=by
 refine⟨hp.1,fun E M w vs h hc=>?_⟩
 have e5:=uv7 h d ho hc
 have hrho:∀b,neb7 M H b→b<w.heap.size:=fun b hb=>by
  rcases hb with hb | ⟨id,fz,t,sz,r,hr,rfl⟩
  ·exact h.rlt b hb
  ·exact h.lt hr
 have hgl:qq7 (neb7 M H) w:=h.glob.mono fun _=>.inl
 have hrel:Rel (Env.of w (neb7 M H)) ⟨fun _=>0,fun _=>0,neb7 M H,fun _=>none⟩ [] w:=⟨Bel.of _ _,fun _ _ _ _ _ h=>(by cases h),fun _ _ _ _ _ h=>(by cases h),fun _ _ _ _ h=>(by cases h),fun _ _ _ _ h=>(by cases h),fun _ _ _ _ _ _ _ _ h=>(by cases h),hrho,⟨fun b hb=>.inl hb,hgl⟩,⟨fun _ _ h=>(by cases h),fun _ _ _ _ _ _ _ h=>(by cases h),fun _ _ _ h=>(by cases h)⟩⟩
 refine (hp.2 _ _ w vs hrel (qd7.up e5)).mono ?_
 rintro e w' (⟨M',G,r,v,rfl,h1,h2,h3,h4,h5,h6⟩ | ⟨_,_,hP⟩)
 case inr=>exact (qa7 hP).elim
 have hb:Below w.heap.size w w':=h1.belN
 rcases h6 with ⟨h6,h8⟩ | ⟨⟨h6,h7⟩,h8⟩
 ·exact .inl ⟨M,H,r,v,rfl,h.below hb,Kp.below h hb,xg7.up (ao7 h6 h3),fun _ _=>ef7.below hb,Nat.le_refl _,h8⟩
 refine .inl ⟨fqb7 H.length w.heap.size M M',H++shH H.length G,_,v,rfl, ?_,fun x u c=>(Kp.below h hb x u c).catL,ra7.catR h6 h3,fun _ _=>ef7.below hb,by simp,h8⟩
 exact (h.below hb).cat h.rlt (fun _ _ _ _ _ hr=>h.lt hr) (fun b q hq=>h.tau.lt hq) (by have:=h.bel.size;exact this) h1 h7
def gcB (n:Nat) (K:RV→List Root→Bool) (r:RV) (H:List Root):Bool :=
 decide (n≤H.length)&&okI n (bz7 n H 100000 (nbc7 r++jbc7 (H.take n)) [])&&K (eec7 n (bz7 n H 100000 (nbc7 r++jbc7 (H.take n)) []) r) (jeb7 n (bz7 n H 100000 (nbc7 r++jbc7 (H.take n)) []) H)
theorem gdc7 {pu:Pu}{f:FuncId}{args:List RV}{K:RV→List Root→Bool}(hp:lb7 P pu f args H (fun r H'=>gcB H.length K r H'=true)):lb7 P pu f args H (fun r H'=>K r H'=true):=by
 refine⟨hp.1,fun E M w vs h hc=>(hp.2 E M w vs h hc).mono ?_⟩
 rintro e w' (⟨M',H',r,v,rfl,h1,h2,h3,h4,h5,h6⟩ | ⟨_,_,hP⟩)
 case inr=>exact (qa7 hP).elim
 unfold gcB at h6
 simp only[Bool.and_eq_true,decide_eq_true_eq]at h6
 obtain⟨⟨g1,g2⟩,g3⟩:=h6
 refine .inl ⟨_,_,_,v,rfl,h1.ren g1 g2,fun x u c=>?_,h3.ren g1,h4,by rw[fl7 g1];omega,g3⟩
 have:=(h2 x u c).ren (ids:=bz7 H.length H' 100000 (nbc7 r++jbc7 (H'.take H.length)) []) g1
 rw[ds7 (mx7 c)]at this
 exact this
def gcX (n:Nat) (K:RV→List Root→Bool) (r:RV) (H:List Root):Bool :=
 match Nat.ble H.length (n+16) with
 | true=>K r H
 | false=>gcB n K r H
theorem pxb7 {pu:Pu}{f:FuncId}{args:List RV}{K:RV→List Root→Bool}(hp:lb7 P pu f args H (fun r H'=>gcX H.length K r H'=true)):lb7 P pu f args H (fun r H'=>K r H'=true):=by
 refine⟨hp.1,fun E M w vs h hc=>(hp.2 E M w vs h hc).mono ?_⟩
 rintro e w' (⟨M',H',r,v,rfl,h1,h2,h3,h4,h5,h6⟩ | ⟨_,_,hP⟩)
 case inr=>exact (qa7 hP).elim
 unfold gcX at h6
 split at h6
 ·exact .inl ⟨_,_,_,v,rfl,h1,h2,h3,h4,h5,h6⟩
 ·unfold gcB at h6
  simp only[Bool.and_eq_true,decide_eq_true_eq]at h6
  obtain⟨⟨g1,g2⟩,g3⟩:=h6
  refine .inl ⟨_,_,_,v,rfl,h1.ren g1 g2,fun x u c=>?_,h3.ren g1,h4,by rw[fl7 g1];omega,g3⟩
  have:=(h2 x u c).ren (ids:=bz7 H.length H' 100000 (nbc7 r++jbc7 (H'.take H.length)) []) g1
  rw[ds7 (mx7 c)]at this
  exact this
theorem boc7 {K:RV→List Root→Bool}{r:RV}(h:gcX n K r H=true):∃r H',K r H'=true:=by
 unfold gcX at h
 split at h
 ·exact⟨_,_,h⟩
 ·unfold gcB at h
  simp only[Bool.and_eq_true]at h
  exact⟨_,_,h.2⟩
theorem xcb7 {rho:Nat→Prop}(k:Nat):∀{l m:List AV}{vs:List Value},leL k l m=true→ge7 rho w l vs→ge7 rho w m vs
 | [],[],_,_,c=>c
 | _::_,_::_,_,h,⟨v,r,e,c1,c2⟩=>by
  simp only[leL,Bool.and_eq_true]at h
  exact⟨v,r,e,po7 k h.1 c1,xcb7 k h.2 c2⟩
 | [],_::_,_,h,_=>by cases h
 | _::_,[],_,h,_=>by cases h
theorem fac7 {rho:Nat→Prop}(k:Nat) {x y:RV}{v:Value}(h:ykc7 k x y=true) (c:li7 rho w x v):li7 rho w y v:=by
 unfold ykc7 at h
 split at h
 ·trivial
 ·exact po7 k h c
 ·obtain⟨vs,e,c⟩:=c;exact⟨vs,e,xcb7 k h c⟩
 ·simp only[Bool.and_eq_true,decide_eq_true_eq]at h
  obtain⟨rfl,h⟩:=h
  obtain⟨vs,e,c⟩:=c;exact⟨vs,e,xcb7 k h c⟩
 ·exact c.elim
 ·exact c.elim
 ·cases h
theorem pfb7 {rho:Nat→Prop}(k:Nat):∀{l m:List RV}{vs:List Value},njc7 k l m=true→qd7 rho w l vs→qd7 rho w m vs
 | [],[],_,_,c=>c
 | _::_,_::_,_,h,⟨v,r,e,c1,c2⟩=>by
  simp only[njc7,Bool.and_eq_true]at h
  exact⟨v,r,e,fac7 k h.1 c1,pfb7 k h.2 c2⟩
 | [],_::_,_,h,_=>by cases h
 | _::_,[],_,h,_=>by cases h
structure Sum where
 f:FuncId
 args:List RV
 r:RV
 G:List Root
def of7 (P:Program) (s:Sum):Prop:=lb7 P none s.f s.args [] (fun r G=>r=s.r∧G=s.G)
theorem jlc7 {s:Sum}(h:lb7 P none s.f s.args [] (fun r G=>(leR 8 r s.r&&leH 8 G s.G)=true)):of7 P s:=by
 refine⟨h.1,fun E M w vs hr hc=>(h.2 E M w vs hr hc).mono ?_⟩
 rintro e w' (⟨M',H',r,v,rfl,h1,h2,h3,h4,h5,h6⟩ | ⟨_,_,hP⟩)
 case inr=>exact (qa7 hP).elim
 simp only[Bool.and_eq_true]at h6
 exact .inl ⟨M',s.G,s.r,v,rfl,h1.le h6.2,h2.trans (Kp.le h6.2),blb7 (aj7 h6.2) 8 h6.1 h3,h4,by rw[← (aj7 h6.2).1];exact h5,rfl,rfl⟩
def sumB (H:List Root) (d:Nat) (f:FuncId) (args:List RV) (s:Sum):Bool:=Nat.beq s.f f&&args.all (qw7 H d)&&njc7 8 (ht7 H d args) s.args&&plR s.r&&s.G.all nkc7
theorem zwb7 {pu:Pu}{f:FuncId}{args:List RV}{K:RV→List Root→Prop}{d:Nat}{s:Sum}(hs:of7 P s) (h:sumB H d f args s=true) (hK:K (shR H.length s.r) (H++shH H.length s.G)):lb7 P pu f args H K:=by
 unfold sumB at h
 simp only[Bool.and_eq_true]at h
 obtain⟨⟨⟨⟨h1,h2⟩,h3⟩,h4⟩,h5⟩:=h
 obtain rfl:=Nat.eq_of_beq_eq_true h1
 refine⟨hs.1,fun E M w vs hr hc=>?_⟩
 have e5:=pfb7 8 h3 (uv7 hr d h2 hc)
 have hrho:∀b,neb7 M H b→b<w.heap.size:=fun b hb=>by
  rcases hb with hb | ⟨id,fz,t,sz,r,hr2,rfl⟩
  ·exact hr.rlt b hb
  ·exact hr.lt hr2
 have hgl:qq7 (neb7 M H) w:=hr.glob.mono fun _=>.inl
 have hrel:Rel (Env.of w (neb7 M H)) ⟨fun _=>0,fun _=>0,neb7 M H,fun _=>none⟩ [] w:=⟨Bel.of _ _,fun _ _ _ _ _ h=>(by cases h),fun _ _ _ _ _ h=>(by cases h),fun _ _ _ _ h=>(by cases h),fun _ _ _ _ h=>(by cases h),fun _ _ _ _ _ _ _ _ h=>(by cases h),hrho,⟨fun b hb=>.inl hb,hgl⟩,⟨fun _ _ h=>(by cases h),fun _ _ _ _ _ _ _ h=>(by cases h),fun _ _ _ h=>(by cases h)⟩⟩
 refine (hs.2 _ _ w vs hrel (qd7.up e5)).mono ?_
 rintro e w' (⟨M',G,r,v,rfl,g1,g2,g3,g4,g5,rfl,rfl⟩ | ⟨_,_,hP⟩)
 case inr=>exact (qa7 hP).elim
 have hb:Below w.heap.size w w':=g1.belN
 refine .inl ⟨fqb7 H.length w.heap.size M M',H++shH H.length s.G,_,v,rfl, ?_,fun x u c=>(Kp.below hr hb x u c).catL,ra7.catR h4 g3,fun _ _=>ef7.below hb,by simp,hK⟩
 exact (hr.below hb).cat hr.rlt (fun _ _ _ _ _ h=>hr.lt h) (fun b q hq=>hr.tau.lt hq) (by have:=hr.bel.size;exact this) g1 h5
theorem hqc7 {K:RV→List Root→Bool}{r:RV}(h:gcB n K r H=true):∃r H',K r H'=true:=by
 unfold gcB at h
 simp only[Bool.and_eq_true]at h
 exact⟨_,_,h.2⟩
end
noncomputable def roundsX (n0 nt:Nat) (body:(Exit→AS→Bool)→AS→Bool):Nat→(Exit→AS→Bool)→AS→Bool
 | 0,_,_=>false
 | m+1,Q,σ=>body (wpb7 (fun σ'=>match Nat.ble σ'.H.length (n0+16) with
   | true=>roundsX n0 nt body m Q σ'
   | false=>decide (n0≤σ'.H.length)&&okI n0 (canon n0 nt σ')&&roundsX n0 nt body m Q (normS n0 nt σ')) Q) σ
section
variable (P:Program) (ty:Ty) (call:co7)
noncomputable def listX (ops:Array Oper):List Oper→(AS→Bool)→AS→Bool
 | [],K,σ=>K σ
 | o::l,K,σ=>opX P ty call none ops σ o (listX ops l K)
noncomputable def codeX (ord:Nat→Bool×List Nat×List Nat) (n nt:Nat):Code→(Exit→AS→Bool)→AS→Bool
 | .skip,Q,σ=>Q .normal σ
 | .region id ops dr,Q,σ=>if dr then regB P ty call nt ops (ord id) (Q .normal) σ else listX P ty call ops ops.toList (Q .normal) σ
 | .seq a b,Q,σ=>codeX ord n nt a (wpb7 (codeX ord n nt b Q) Q) σ
 | .cond c a b,Q,σ=>match rdF σ c with
  | (true,.c (.bool t))=>if t then codeX ord n nt a Q σ else codeX ord n nt b Q σ
  | _=>false
 | .block id a,Q,σ=>codeX ord n nt a (glc7 id Q) σ
 | .exit id,Q,σ=>Q (.exit id) σ
 | .ret,Q,σ=>Q .ret σ
 | .loop c,Q,σ=>roundsX σ.H.length nt (codeX ord n nt c) n Q σ
 | _,_,_=>false
end
def okX (nt:Nat):Code→Bool
 | .region _ ops _=>sj7 nt ops
 | .seq a b=>okX nt a&&okX nt b
 | .cond _ a b=>okX nt a&&okX nt b
 | .block _ a=>okX nt a
 | .loop a=>okX nt a
 | _=>true
section
variable {P:Program} {ty:Ty} {call:co7} {E:Env} {nt n:Nat} {M:Mp} {σ:AS} {a:Act} {w:World} {ops:Array Oper} {ord:Nat→Bool×List Nat×List Nat}
theorem ipb7 (hT:ud7 P ty) (hcall:∀pu f args H K,call pu f args H K=true→lb7 P pu f args H (fun r H=>K r H=true)) {K:AS→Bool}{Q:Exit→Act→World→Prop}:∀(l:List Oper) {M:Mp}{σ:AS}{a:Act}{w:World},St E nt M σ a w→(∀o∈l,∀t,o.dst=some t→t<nt)→listX P ty call ops l K σ=true →
  (∀a' w',After E nt M σ a w (hm7 l) (fun σ=>K σ=true) a' w'→Q .normal a' w')→wpList P ops Q l a w
 | [],M,σ,a,w,h,_,hw,hQ=>hQ a w ⟨M,σ,h,Stp.refl _ _ _ _ _,hw⟩
 | o::l,M,σ,a,w,h,hd,hw,hQ=>by
  have:=oxb7 (Q:=Q) (next:=wpList P ops Q l) hT hcall h (hd o (List.mem_cons_self ..)) hw fun M' σ' a' w' q1 _ q3 q4 =>
   ipb7 hT hcall l q1 (fun o ho=>hd o (List.mem_cons_of_mem _ ho)) q4 fun a2 w2 hA=>hQ a2 w2 (by
    obtain⟨M2,σ2,r1,r2,r3⟩:=hA
    exact⟨M2,σ2,r1,q3.trans r2 (fun t ht=>⟨o,List.mem_cons_self ..,ht⟩) (fun t ⟨o2,ho,ht⟩=>⟨o2,List.mem_cons_of_mem _ ho,ht⟩),r3⟩)
  unfold wpList
  split
  ·rename_i hwt;rw[if_pos hwt]at this;exact .inl this
  ·rename_i hwt;rw[if_neg hwt]at this;exact this
theorem bl7 (hT:ud7 P ty) (hm:P.follows .mixedOrders=true) (hcall:∀pu f args H K,call pu f args H K=true→lb7 P pu f args H (fun r H=>K r H=true)) (hx:ck7 call):∀(c:Code),okX nt c=true→∀{K:Exit→AS→Bool}{M:Mp}{σ:AS}{a:Act}{w:World},St E nt M σ a w→codeX P ty call ord n nt c K σ=true →
  c.wp P (fun e a' w'=>(∀ch,e ≠ .panic ch)∧After E nt M σ a w (ejb7 c) (fun σ=>K e σ=true) a' w') a w
 | .skip,_,K,M,σ,a,w,h,hw=>wp_skip ⟨fun _ e=>(by cases e),M,σ,h,Stp.refl _ _ _ _ _,hw⟩
 | .exit id,_,K,M,σ,a,w,h,hw=>wp_exit ⟨fun _ e=>(by cases e),M,σ,h,Stp.refl _ _ _ _ _,hw⟩
 | .ret,_,K,M,σ,a,w,h,hw=>wp_ret ⟨fun _ e=>(by cases e),M,σ,h,Stp.refl _ _ _ _ _,hw⟩
 | .region id ops dr,hc,K,M,σ,a,w,h,hw=>by
  have hc:sj7 nt ops=true:=hc
  have hds:∀t,hm7 ops.toList t→ejb7 (.region id ops dr) t:=fun t ⟨o,ho,e⟩=>List.mem_filterMap.2 ⟨o,ho,e⟩
  cases dr with
  | true =>
   have hw:regB P ty call nt ops (ord id) (K .normal) σ=true:=hw
   exact vfc7 hT hm hcall hx hc h hw (fun a' w' ⟨M2,σ2,r1,r2,r3⟩=>⟨fun _ e=>(by cases e),M2,σ2,r1,r2.mono hds,r3⟩) fun c a w hh=>hh.1 c rfl
  | false =>
   have hw:listX P ty call ops ops.toList (K .normal) σ=true:=hw
   exact wp_region_list (ipb7 hT hcall ops.toList h (qf7 hc) hw fun a' w' ⟨M2,σ2,r1,r2,r3⟩=>⟨fun _ e=>(by cases e),M2,σ2,r1,r2.mono hds,r3⟩)
 | .seq x y,hc,K,M,σ,a,w,h,hw=>by
  simp only[okX,Bool.and_eq_true]at hc
  refine wp_seq (wp_mono (bl7 hT hm hcall hx x hc.1 h (K:=wpb7 (codeX P ty call ord n nt y K) K) hw) fun e a1 w1 ⟨hp,M1,σ1,q1,q2,q3⟩=>?_)
  cases e with
  | normal =>
   refine wp_mono (bl7 hT hm hcall hx y hc.2 q1 q3) fun e a2 w2 ⟨hp2,M2,σ2,r1,r2,r3⟩=>⟨hp2,M2,σ2,r1,q2.trans r2 (fun t ht=>List.mem_append_left _ ht) (fun t ht=>List.mem_append_right _ ht),r3⟩
  | panic ch=>exact absurd rfl (hp ch)
  | exit id=>exact⟨hp,M1,σ1,q1,q2.mono fun t ht=>List.mem_append_left _ ht,q3⟩
  | goto l=>exact⟨hp,M1,σ1,q1,q2.mono fun t ht=>List.mem_append_left _ ht,q3⟩
  | ret=>exact⟨hp,M1,σ1,q1,q2.mono fun t ht=>List.mem_append_left _ ht,q3⟩
  | outgrown=>exact⟨hp,M1,σ1,q1,q2.mono fun t ht=>List.mem_append_left _ ht,q3⟩
 | .cond x y z,hc,K,M,σ,a,w,h,hw=>by
  simp only[okX,Bool.and_eq_true]at hc
  unfold codeX at hw
  split at hw
  ·rename_i b hb
   rw[mob7]at hb
   have hv:=h.rd (x:=x) (by rw[hb])
   rw[hb]at hv
   have hv':a.eval x = .bool b:=hv
   refine wp_cond hv' ?_
   cases b with
   | true=>exact wp_mono (bl7 hT hm hcall hx y hc.1 h (by simpa using hw)) fun e a1 w1 ⟨hp,M1,σ1,q1,q2,q3⟩=>⟨hp,M1,σ1,q1,q2.mono fun t ht=>List.mem_append_left _ ht,q3⟩
   | false=>exact wp_mono (bl7 hT hm hcall hx z hc.2 h (by simpa using hw)) fun e a1 w1 ⟨hp,M1,σ1,q1,q2,q3⟩=>⟨hp,M1,σ1,q1,q2.mono fun t ht=>List.mem_append_right _ ht,q3⟩
  ·cases hw
 | .block id x,hc,K,M,σ,a,w,h,hw=>by
  refine wp_block (wp_mono (bl7 hT hm hcall hx x hc h (K:=glc7 id K) hw) fun e a1 w1 ⟨hp,M1,σ1,q1,q2,q3⟩=>?_)
  cases e with
  | exit j =>
   simp only[Exit.inBlock]
   simp only[glc7]at q3
   split
   ·rename_i e;rw[if_pos e]at q3;exact⟨fun _ e=>(by cases e),M1,σ1,q1,q2,q3⟩
   ·rename_i e;rw[if_neg e]at q3;exact⟨hp,M1,σ1,q1,q2,q3⟩
  | normal=>exact⟨hp,M1,σ1,q1,q2,q3⟩
  | panic ch=>exact absurd rfl (hp ch)
  | goto l=>exact⟨hp,M1,σ1,q1,q2,q3⟩
  | ret=>exact⟨hp,M1,σ1,q1,q2,q3⟩
  | outgrown=>exact⟨hp,M1,σ1,q1,q2,q3⟩
 | .loop x,hc,K,M,σ,a,w,h,hw=>by
  have hw:roundsX σ.H.length nt (codeX P ty call ord n nt x) n K σ=true:=hw
  have hc:okX nt x=true:=hc
  have go:∀(m:Nat) {M1:Mp} {σ1:AS} {a1:Act} {w1:World},St E nt M1 σ1 a1 w1→Stp M σ a w M1 σ1 a1 w1 (ejb7 x)→roundsX σ.H.length nt (codeX P ty call ord n nt x) m K σ1=true→Code.rounds P x (fun e a' w'=>(∀ch,e ≠ .panic ch)∧After E nt M σ a w (ejb7 x) (fun σ=>K e σ=true) a' w') m a1 w1:=by
   intro m
   induction m with
   | zero=>intro M1 σ1 a1 w1 _ _ h;cases h
   | succ m ih =>
    intro M1 σ1 a1 w1 h1 hst hw
    rw[rounds_succ]
    refine wp_mono (bl7 hT hm hcall hx x hc h1 hw) fun e a2 w2 ⟨hp,M2,σ2,q1,q2,q3⟩=>?_
    have q4:=hst.trans q2 (fun _ h=>h) (fun _ h=>h)
    cases e with
    | normal =>
     simp only[wpb7]at q3
     split at q3
     ·exact ih q1 q4 q3
     simp only[Bool.and_eq_true,decide_eq_true_eq]at q3
     obtain⟨⟨g1,g2⟩,g3⟩:=q3
     refine ih (q1.norm g1 g2) ⟨?_,q4.kp.norm q4.len,q4.tm⟩ g3
     show σ.H.length≤(jeb7 σ.H.length (canon σ.H.length nt σ2) σ2.H).length
     rw[fl7 g1];omega
    | panic ch=>exact absurd rfl (hp ch)
    | exit id=>exact⟨hp,M2,σ2,q1,q4,q3⟩
    | goto l=>exact⟨hp,M2,σ2,q1,q4,q3⟩
    | ret=>exact⟨hp,M2,σ2,q1,q4,q3⟩
    | outgrown=>exact⟨hp,M2,σ2,q1,q4,q3⟩
  exact wp_loop_rounds _ (go n h (Stp.refl _ _ _ _ _) hw)
 | .label l,_,_,_,_,_,_,_,h=>by cases h
 | .goto l,_,_,_,_,_,_,_,h=>by cases h
 | .scope b,_,_,_,_,_,_,_,h=>by cases h
 | .rangeFunc ..,_,_,_,_,_,_,_,h=>by cases h
 | .refuse y,_,_,_,_,_,_,_,h=>by cases h
theorem fpb7 (hx:ck7 call) {K:AS→Bool}:∀(l:List Oper) {σ:AS},listX P ty call ops l K σ=true→∃σ,K σ=true
 | [],_,h=>⟨_,h⟩
 | o::l,_,h=>by
  obtain⟨σ',h⟩:=cbb7 hx h
  exact fpb7 hx l h
theorem jy7 (hx:ck7 call) {fins:List Nat}{L:AS→Bool}:∀(m:Nat) {dy:Bool}{l:Array Bool}{σ:AS},expB P ty call ops fins L m dy l σ=true→∃σ,L σ=true
 | 0,_,_,_,h=>by
  simp only[expB,Bool.and_eq_true]at h
  exact⟨_,h.2⟩
 | m+1,dy,l,σ,h=>by
  unfold expB at h
  split at h
  ·obtain⟨σ',h⟩:=dj7 hx ((qk7 _ _ _ _ _ _ _).symm.trans h)
   exact jy7 hx m h
  split at h
  ·exact jy7 hx m h
  split at h
  ·obtain⟨σ',h⟩:=dj7 hx ((qk7 _ _ _ _ _ _ _).symm.trans h)
   exact jy7 hx m h
  ·simp only[Bool.and_eq_true,List.all_eq_true,Bool.not_eq_true']at h
   obtain⟨h1,h2⟩:=h
   cases hr:Region.ready .any ops l with
   | nil=>rw[hr]at h1;cases h1
   | cons i r =>
    obtain⟨σ',h⟩:=cbb7 hx (h2 i (by rw[hr];exact List.mem_cons_self ..)).2
    exact jy7 hx m h
theorem djc7 (hx:ck7 call) {q:Bool×List Nat×List Nat}{K:AS→Bool}(h:regB P ty call nt ops q K σ=true):∃σ,K σ=true:=by
 unfold regB at h
 simp only[Bool.and_eq_true]at h
 obtain⟨-,h⟩:=h
 split at h
 ·exact (ms7 hx _ h).elim id fun ⟨e,he⟩=>by cases he
 ·exact jy7 hx _ h
theorem rj7 (hx:ck7 call):∀(c:Code) {K:Exit→AS→Bool}{σ:AS},codeX P ty call ord n nt c K σ=true→∃e σ,K e σ=true
 | .skip,_,_,h=>⟨_,_,h⟩
 | .exit _,_,_,h=>⟨_,_,h⟩
 | .ret,_,_,h=>⟨_,_,h⟩
 | .region id ops dr,K,σ,h=>by
  cases dr with
  | true =>
   obtain⟨σ',h⟩:=djc7 hx (show regB P ty call nt ops (ord id) (K .normal) σ=true from h)
   exact⟨_,_,h⟩
  | false =>
   obtain⟨σ',h⟩:=fpb7 hx _ (show listX P ty call ops ops.toList (K .normal) σ=true from h)
   exact⟨_,_,h⟩
 | .seq x y,K,σ,h=>by
  obtain⟨e,σ',h⟩:=rj7 hx x (K:=wpb7 (codeX P ty call ord n nt y K) K) h
  cases e with
  | normal=>exact rj7 hx y h
  | _=>exact⟨_,_,h⟩
 | .cond x y z,K,σ,h=>by
  unfold codeX at h
  split at h
  ·split at h
   ·exact rj7 hx y h
   ·exact rj7 hx z h
  ·cases h
 | .block id x,K,σ,h=>by
  obtain⟨e,σ',h⟩:=rj7 hx x (K:=glc7 id K) h
  cases e with
  | exit j =>
   simp only[glc7]at h
   split at h <;> exact⟨_,_,h⟩
  | _=>exact⟨_,_,h⟩
 | .loop x,K,σ,h=>by
  have go:∀(n0 m:Nat) {σ:AS},roundsX n0 nt (codeX P ty call ord n nt x) m K σ=true→∃e σ,K e σ=true:=by
   intro n0 m
   induction m with
   | zero=>intro σ h;cases h
   | succ m ih =>
    intro σ h
    obtain⟨e,σ',h⟩:=rj7 hx x h
    cases e with
    | normal =>
     simp only[wpb7]at h
     split at h
     ·exact ih h
     ·simp only[Bool.and_eq_true]at h
      exact ih h.2
    | _=>exact⟨_,_,h⟩
  exact go _ _ h
 | .label l,_,_,h=>by cases h
 | .goto l,_,_,h=>by cases h
 | .scope b,_,_,h=>by cases h
 | .rangeFunc ..,_,_,h=>by cases h
 | .refuse y,_,_,h=>by cases h
end
structure FnX where
 code:Code
 res:List ResultVar
 nt:Nat
 ord:Nat→Bool×List Nat×List Nat
def ihc7 (P : Program) (f : FuncId) (t : FnX) : Prop := ∃ fn, P.funcs[f]? = some fn ∧ fn.body = some t.code ∧ (fn.name == "runtime.NumGoroutine") = false ∧ fn.ntmps = t.nt ∧ fn.results.toList = t.res ∧ okX t.nt t.code = true
def tvc7 (P:Program) (f:FuncId):Bool :=
 match P.funcs[f]? with
 | some fn=>match fn.body with
  | some c => !(fn.name == "runtime.NumGoroutine") && okX fn.ntmps c
  | none=>false
 | none=>false
def tsc7 (P:Program) (ord:FuncId→Nat→Bool×List Nat×List Nat) (fs:List FuncId) (f:FuncId):Option FnX :=
 if fs.contains f then
  match P.funcs[f]? with
  | some fn=>match fn.body with
   | some c=>some ⟨c,fn.results.toList,fn.ntmps,ord f⟩
   | none=>none
  | none=>none
 else none
theorem xgc7 {P:Program}{ord:FuncId→Nat→Bool×List Nat×List Nat}{fs:List FuncId}(h:fs.all (tvc7 P)=true) (f:FuncId) (t:FnX) (ht:tsc7 P ord fs f=some t):ihc7 P f t:=by
 unfold tsc7 at ht
 split at ht
 ·rename_i hm
  have hb:=List.all_eq_true.1 h f (by simpa using hm)
  unfold tvc7 at hb
  split at ht
  ·rename_i fn hf
   rw[hf]at hb
   simp only at hb
   split at ht
   ·rename_i c hc
    rw[hc]at hb
    simp only[Bool.and_eq_true,Bool.not_eq_true']at hb
    cases ht
    exact⟨fn,hf,hc,hb.1,rfl,rfl,hb.2⟩
   ·cases ht
  ·cases ht
 ·cases ht
noncomputable def callX (P:Program) (ty:Ty) (T:FuncId→Option FnX) (S:List Sum) (n d:Nat):Nat→co7
 | 0,_,_,_,_,_=>false
 | k+1,pu,f,args,H,K=>match S.find? (sumB H d f args) with
  | some s=>K (shR H.length s.r) (H++shH H.length s.G)
  | none=>match T f with
   | some t=>decide (args.length≤t.nt)&&(if pu.isNone then codeX P ty (callX P ty T S n d k) t.ord n t.nt t.code (blc7 ty t.res (gcX H.length K)) ⟨eib7 0 args,H⟩
    else args.all (qw7 H d)&&codeX P ty (callX P ty T S n d k) t.ord n t.nt t.code (blc7 ty t.res (fun r G=>match uy7 r with
     | true=>K r H
     | false=>gcB 0 (fun r G=>plR r&&G.all nkc7&&K (shR H.length r) (H++shH H.length G)) r G)) ⟨eib7 0 (ht7 H d args),[]⟩)
   | none=>false
section
variable {P:Program} {ty:Ty}
theorem iz7 (hT:ud7 P ty) (hm:P.follows .mixedOrders=true) {call:co7}(hcall:∀pu f args H K,call pu f args H K=true→lb7 P pu f args H (fun r H=>K r H=true)) (hx:ck7 call) {f:FuncId}{t:FnX}(hf:ihc7 P f t) {n:Nat}{args:List RV}(hn:args.length≤t.nt) {H:List Root}{K:RV→List Root→Bool}
  (h:codeX P ty call t.ord n t.nt t.code (blc7 ty t.res K) ⟨eib7 0 args,H⟩=true):lb7 P none f args H (fun r H=>K r H=true):=by
 obtain⟨fn,h1,h2,h3,h4,h5,h6⟩:=hf
 refine⟨⟨fn,t.code,h1,h3,h2⟩,fun E M w vs hrel hc=>calls_of_wp h1 h2 ?_⟩
 have hst:=St.enter (hrel.env []) rfl hc (n:=t.nt) hn
 rw[h4]
 refine wp_mono (bl7 hT hm hcall hx t.code h6 hst h) fun e a' w' ⟨hp,M',σ',q1,q2,q3⟩=>?_
 have fin:(decide (eo7 ty σ' t.res).1&&K (one (eo7 ty σ' t.res).2) σ'.H)=true→a'.defers=[]∧∃v,(results fn a'.tmps).run P w' = .ok v w'∧((∃M' H' r v',Ending.returned v = .returned v'∧Rel E M' H' w'∧Kp M H w M' H' w'∧ra7 M' H' w' r v'∧(∀g,(none:Pu)=some g→ef7 (g.map M.phi) w w')∧H.length≤H'.length∧K r H'=true)∨∃ch,Ending.returned v = .panicked ch∧iw7 E M H w ch w'):=by
  intro hr
  simp only[Bool.and_eq_true,decide_eq_true_eq]at hr
  obtain⟨g1,g2⟩:=hr
  obtain⟨v,k1,k2⟩:=ni7 hT q1 h5 g1
  exact⟨q1.df,v,k2,.inl ⟨M',σ'.H,_,v,rfl,q1.rel.env2,q2.kp,k1,fun g e=>(by cases e),q2.len,g2⟩⟩
 cases e with
 | normal=>exact fin q3
 | ret=>exact fin q3
 | panic ch=>exact absurd rfl (hp ch)
 | exit id=>cases q3
 | goto l=>cases q3
 | outgrown=>cases q3
theorem gyb7 {rs:List ResultVar}{K:RV→List Root→Bool}{e:Exit}{σ:AS}(h:blc7 ty rs K e σ=true):∃r H,K r H=true:=by
 cases e with
 | ret=>simp only[blc7,Bool.and_eq_true]at h;exact⟨_,_,h.2⟩
 | normal=>simp only[blc7,Bool.and_eq_true]at h;exact⟨_,_,h.2⟩
 | _=>cases h
theorem kmb7 (hT:ud7 P ty) (hm:P.follows .mixedOrders=true) {T:FuncId→Option FnX}{S:List Sum}{n d:Nat}(hF:∀f t,T f=some t→ihc7 P f t) (hS:∀s∈S,of7 P s):∀k:Nat,(∀(pu:Pu) (f:FuncId) (args:List RV) (H:List Root) (K:RV→List Root→Bool),callX P ty T S n d k pu f args H K=true→lb7 P pu f args H (fun r H=>K r H=true))∧ck7 (callX P ty T S n d k)
 | 0=>⟨fun _ _ _ _ _ h=>(by cases h),fun _ _ _ _ _ h=>(by cases h)⟩
 | k+1=>by
  obtain⟨ih1,ih2⟩:=kmb7 hT hm hF hS k
  refine⟨fun pu f args H K h=>?_,fun pu f args H K h=>?_⟩
  ·simp only[callX]at h
   split at h
   ·rename_i s hs
    exact zwb7 (hS s (List.mem_of_find?_eq_some hs)) (List.find?_some hs) h
   split at h
   ·rename_i t ht
    simp only[Bool.and_eq_true,decide_eq_true_eq]at h
    obtain⟨h7,h⟩:=h
    split at h
    ·rename_i hpu
     obtain rfl:pu=none:=by cases pu <;> first | rfl | cases hpu
     exact pxb7 (iz7 hT hm ih1 ih2 (hF f t ht) h7 h)
    ·simp only[Bool.and_eq_true]at h
     obtain⟨h8,h⟩:=h
     have hk:=iz7 hT hm ih1 ih2 (hF f t ht) (args:=ht7 H d args) (by rw[jz7];exact h7) h
     refine qtb7 d h8 ⟨hk.1,fun E M w vs hr hc=>(hk.2 E M w vs hr hc).mono ?_⟩
     rintro e w' (⟨M',G,r,v,rfl,g1,g2,g3,g4,g5,g6⟩ | ⟨_,_,hP⟩)
     case inr=>exact (qa7 hP).elim
     split at g6
     ·rename_i hs
      exact .inl ⟨M',G,r,v,rfl,g1,g2,g3,g4,g5,.inl ⟨hs,g6⟩⟩
     ·unfold gcB at g6
      simp only[Bool.and_eq_true,decide_eq_true_eq]at g6
      obtain⟨⟨q1,q2⟩,q3⟩:=g6
      refine .inl ⟨_,_,_,v,rfl,g1.ren q1 q2,fun x u c=>?_,g3.ren q1,g4,Nat.zero_le _,.inr q3⟩
      have:=(g2 x u c).ren (ids:=bz7 0 G 100000 (nbc7 r++jbc7 (G.take 0)) []) q1
      rw[ds7 (n:=0) (mx7 c)]at this
      exact this
   ·cases h
  ·simp only[callX]at h
   split at h
   ·exact⟨_,_,h⟩
   split at h
   ·rename_i t ht
    simp only[Bool.and_eq_true]at h
    obtain⟨-,h⟩:=h
    split at h
    ·obtain⟨e,σ,h⟩:=rj7 ih2 _ h
     obtain⟨r,H',h⟩:=gyb7 h
     exact boc7 h
    ·simp only[Bool.and_eq_true]at h
     obtain⟨e,σ,h⟩:=rj7 ih2 _ h.2
     obtain⟨r,H',h⟩:=gyb7 h
     split at h
     ·exact⟨_,_,h⟩
     ·obtain⟨r,H',h⟩:=hqc7 h
      simp only[Bool.and_eq_true]at h
      exact⟨_,_,h.2⟩
   ·cases h
end
def dxc7:List AV→Bool
 | []=>false
 | .nils::_=>true
 | .nilp::_=>true
 | _::l=>dxc7 l
def stc7 (ty:Ty):Ty:=fun t=>⟨(ty t).sz,(ty t).bytes,(ty t).k,(ty t).zero,if dxc7 (ty t).zero then some [] else none⟩
theorem yic7 {P:Program}{ty:Ty}(h:ud7 P ty):ud7 P (stc7 ty):=fun t=>by
 refine⟨?_,(h t).i⟩
 have hk:=(h t).k
 show kOk P (stc7 ty) t (ty t).k
 cases hh:(ty t).k <;> rw[hh]at hk <;> exact hk
def kyc7:FuncId→Nat→Bool×List Nat×List Nat
 | 18,n=>match n with | 25=>(false,[11,13],[]) | _=>(false,[],[])
 | 41,n=>match n with | 5=>(false,[5],[]) | _=>(false,[],[])
 | 43,n=>match n with | 2=>(true,[13,15,18,21],[0,1,2,3,4,6,7,8,9,10,11,12,13,14,15,16,17,18,19,20,21,22,23]) | _=>(false,[],[])
 | 46,n=>match n with | 5=>(false,[7,9],[]) | 10=>(false,[9,11],[]) | _=>(false,[],[])
 | 51,n=>match n with | 6=>(false,[],[]) | _=>(false,[],[])
 | 65,n=>match n with | 21=>(false,[15,17],[]) | _=>(false,[],[])
 | 66,n=>match n with | 8=>(false,[],[]) | 13=>(false,[],[]) | _=>(false,[],[])
 | 67,n=>match n with | 10=>(false,[8],[]) | 16=>(false,[],[]) | _=>(false,[],[])
 | 68,n=>match n with | 2=>(false,[9,11],[]) | _=>(false,[],[])
 | 77,n=>match n with | 12=>(false,[16],[]) | 13=>(false,[14],[]) | 15=>(true,[10,12],[2,3,4,5,6,7,9,10,11,13,14,16,17,18,19,21,23,24,32,33,34,35,39,40,41,42,48,85,86,87,88,89,90,91,92,93,94,95,96,100,101,102,103,116,117,118,119,135,136,137,138]) | 21=>(true,[1],[2,3,4,5,6,7,9,10,11,13,14,16,17,18,19,21,23,24,32,33,34,35,39,40,41,42,48,100,101,102,103,106,107,108,109,110,111,116,117,118,119,135,136,137,138]) | 31=>(false,[15],[]) | 32=>(false,[],[]) | 34=>(true,[3,17],[2,3,4,5,6,7,9,10,11,13,14,16,17,18,19,21,23,24,32,33,34,35,39,40,41,42,48,100,101,102,103,116,117,118,119,135,136,137,138,176,177,178,179,180,181,182,183,184,185,186,187,188,189,190,191,192,193]) | 36=>(true,[8],[2,3,4,5,6,7,9,10,11,13,14,16,17,18,19,21,23,24,32,33,34,35,39,40,41,42,48,100,101,102,103,116,117,118,119,135,136,137,138,195,196,197,198,199,200,201,202]) | _=>(false,[],[])
 | 78,n=>match n with | 20=>(false,[17],[]) | _=>(false,[],[])
 | 79,n=>match n with | 1=>(false,[],[]) | _=>(false,[],[])
 | 84,n=>match n with | 5=>(false,[],[]) | 10=>(false,[],[]) | _=>(false,[],[])
 | 85,n=>match n with | 5=>(false,[],[]) | 7=>(false,[],[]) | 8=>(false,[19],[]) | 10=>(false,[],[]) | _=>(false,[],[])
 | 86,n=>match n with | 1=>(false,[],[]) | 3=>(false,[],[]) | 8=>(false,[],[]) | 10=>(false,[],[]) | 12=>(false,[],[]) | _=>(false,[],[])
 | 88,n=>match n with | 4=>(false,[],[]) | _=>(false,[],[])
 | 90,n=>match n with | 19=>(false,[],[]) | _=>(false,[],[])
 | 91,n=>match n with | 9=>(false,[13],[]) | _=>(false,[],[])
 | 92,n=>match n with | 8=>(false,[9],[]) | _=>(false,[],[])
 | 114,n=>match n with | 2=>(false,[6],[]) | _=>(false,[],[])
 | 150,n=>match n with | 1=>(false,[],[]) | 2=>(false,[],[]) | 3=>(false,[],[]) | _=>(false,[],[])
 | 151,n=>match n with | 0=>(false,[13,15],[]) | _=>(false,[],[])
 | 153,n=>match n with | 0=>(false,[7,9],[]) | _=>(false,[],[])
 | _,_=>(false,[],[])
def axc7:List FuncId:=[14,18,40,41,42,43,44,45,46,51,65,66,67,68,69,70,76,77,78,79,80,81,82,83,84,85,86,88,89,90,91,92,93,94,95,96,97,98,99,100,101,102,103,105,106,107,108,109,110,111,112,113,114,115,116,117,118,119,120,121,122,123,124,125,149,150,151,152,153]
def slL (sz:Nat) (l:List (List AV)):AV:=.sl l.length sz (fun i j=>nth (l.getD i []) j)
def tyX:Ty:=stc7 ty
theorem anc7:ud7 Tryz.prog tyX:=yic7 zb7
theorem vlc7:axc7.all (tvc7 Tryz.prog)=true:=by decide +kernel
noncomputable def runX (S:List Sum):co7:=callX Tryz.prog tyX (tsc7 Tryz.prog kyc7 axc7) S 80 8 40
theorem cub7 {S:List Sum}(hS:∀s∈S,of7 Tryz.prog s) {pu:Pu}{f:FuncId}{args:List RV}{H:List Root}{K:RV→List Root→Bool}(h:runX S pu f args H K=true):lb7 Tryz.prog pu f args H (fun r H=>K r H=true) :=
 (kmb7 anc7 (by kernel_rfl) (xgc7 vlc7) hS 40).1 _ _ _ _ _ h
theorem tc7 {S:List Sum}(hS:∀s∈S,of7 Tryz.prog s) (s:Sum) (h:runX S none s.f s.args [] (gcB 0 fun r G=>leR 8 r s.r&&leH 8 G s.G)=true):of7 Tryz.prog s:=jlc7 (gdc7 (H:=[]) (K:=fun r G=>leR 8 r s.r&&leH 8 G s.G) (cub7 hS h))
theorem mc7:∀s∈([]:List Sum),of7 Tryz.prog s:=fun _ h=>by cases h
theorem la7 {s:Sum}{S:List Sum}(h:of7 Tryz.prog s) (hS:∀s∈S,of7 Tryz.prog s):∀x∈s::S,of7 Tryz.prog x:=fun x hx=>by
 rcases List.mem_cons.1 hx with rfl | hx
 ·exact h
 ·exact hS x hx
def i6 (n:Int):AV:=.int .i64 n
def usb7 (l:List Int):AV:=slL 1 (l.map fun n=>[i6 n])
def myb7 (l:List (List Int)):AV:=slL 1 (l.map fun r=>[usb7 r])
def cjc7:RV:=.agg [i6 40,i6 1,i6 5,i6 1,i6 3,slL 2 [[i6 60,i6 2]],slL 4 [[i6 2,i6 5,i6 90,i6 1]],myb7 [[0,5,0],[0,0,0],[0,0,0]],myb7 [[0,0,0],[0,0,0],[0,0,0]]]
def etb7:RV:=.agg [slL 1 [[slL 2 [[i6 0,i6 2]]]],slL 2 [[i6 0,usb7 [0]]]]
def uwc7:RV:=.agg [i6 4,slL 3 [[i6 0,i6 1,i6 2],[i6 1,i6 2,i6 0],[i6 2,i6 3,i6 1]]]
def izc7:RV:=.agg [slL 1 [[slL 2 [[i6 0,i6 2]]]],slL 2 [[i6 0,usb7 [0]]],myb7 [[0]],slL 3 [[i6 2,usb7 [5],i6 6]],i6 5]
def mxc7:RV:=.agg [slL 1 [[slL 2 [[i6 0,i6 2]]]],slL 2 [[i6 0,usb7 [0]]],myb7 [[0]],slL 3 [[i6 2,usb7 [5],i6 6]],i6 6]
def qrc7:RV:=.agg [i6 40,i6 1,i6 5,i6 1,i6 3,slL 2 [[i6 60,i6 3]],slL 4 [[i6 2,i6 9,i6 90,i6 1]],myb7 [[0,0,0],[0,0,0],[0,0,0]],myb7 [[0,4,0],[0,0,1],[0,0,0]]]
def bxc7:RV:=.agg [i6 4,slL 3 [[i6 0,i6 1,i6 3],[i6 1,i6 2,i6 1],[i6 2,i6 3,i6 1]]]
def gxc7:RV:=.agg [myb7 [[4]],slL 3 [[i6 7,usb7 [9],i6 10]]]
def lsc7:RV:=.agg [i6 40,i6 1,i6 5,i6 1,i6 3,slL 2 [[i6 60,i6 2]],slL 4 [[i6 2,i6 5,i6 90,i6 1]],myb7 [[0,5,0],[0,0,7],[0,0,0]],myb7 [[0,0,0],[0,0,0],[0,0,0]]]
def gv7:Sum:=⟨40,[],.agg [i6 40,i6 1,i6 5,i6 1,i6 3,.h 0 0 1,.h 1 0 1,.h 2 0 3,.h 6 0 3],[.live false 123 2 (.gen [[i6 60,i6 2]]),.live false 127 4 (.gen [[i6 2,i6 5,i6 90,i6 1]]),.live false 60 1 (.own [[.h 3 0 3],[.h 4 0 3],[.h 5 0 3]]),.live false 2 1 (.ints .i64 [0,0,0]),.live false 2 1 (.ints .i64 [0,0,0]),.live false 2 1 (.ints .i64 [0,0,0]),.live false 60 1 (.own [[.h 7 0 3],[.h 8 0 3],[.h 9 0 3]]),.live false 2 1 (.ints .i64 [0,0,0]),.live false 2 1 (.ints .i64 [0,0,0]),.live false 2 1 (.ints .i64 [0,0,0])]⟩
def kbb7:Sum:=⟨88,[cjc7],.c (i6 0),[]⟩
def kw7:Sum:=⟨76,[cjc7,etb7],.c (i6 0),[]⟩
def pjb7:Sum:=⟨77,[cjc7,etb7],.tup [.agg [i6 4,.h 0 0 3],.c (.h 1 0 4)],[.live false 202 3 (.gen [[i6 0,i6 1,i6 2],[i6 1,i6 2,i6 0],[i6 2,i6 3,i6 1]]),.live false 2 1 (.ints .i64 [0,0,5,0])]⟩
def hkb7:Sum:=⟨97,[uwc7],.c (i6 0),[]⟩
def zkb7:Sum:=⟨78,[uwc7,.c (usb7 [0,0,5,0])],.tup [.c (.h 0 0 4),.c (i6 0)],[.live false 2 1 (.ints .i64 [0,2,5,6])]⟩
def mlb7:Sum:=⟨84,[etb7,.agg [myb7 [[0]],slL 3 [[i6 2,usb7 [5],i6 6]]]],.c (.bool true),[]⟩
def ux7:Sum:=⟨67,[cjc7,etb7,.agg [myb7 [[0]],slL 3 [[i6 2,usb7 [5],i6 6]]]],.c (i6 0),[]⟩
def gw7:Sum:=⟨66,[cjc7,etb7],.tup [.c (i6 5),.c (i6 0)],[]⟩
def bjb7:Sum:=⟨42,[cjc7,izc7],.c (i6 0),[]⟩
def jcb7:Sum:=⟨42,[cjc7,mxc7],.c (i6 14),[]⟩
def geb7:Sum:=⟨88,[qrc7],.c (i6 0),[]⟩
def gu7:Sum:=⟨76,[qrc7,etb7],.c (i6 0),[]⟩
def qbb7:Sum:=⟨77,[qrc7,etb7],.tup [.agg [i6 4,.h 0 0 3],.c (.h 1 0 4)],[.live false 202 3 (.gen [[i6 0,i6 1,i6 3],[i6 1,i6 2,i6 1],[i6 2,i6 3,i6 1]]),.live false 2 1 (.ints .i64 [4,0,9,0])]⟩
def ddb7:Sum:=⟨97,[bxc7],.c (i6 0),[]⟩
def ubb7:Sum:=⟨78,[bxc7,.c (usb7 [4,0,9,0])],.tup [.c (.h 0 0 4),.c (i6 0)],[.live false 2 1 (.ints .i64 [4,7,9,10])]⟩
def dcb7:Sum:=⟨84,[etb7,gxc7],.c (.bool true),[]⟩
def mcb7:Sum:=⟨67,[qrc7,etb7,gxc7],.c (i6 0),[]⟩
def pq7:Sum:=⟨88,[lsc7],.c (i6 0),[]⟩
def ru7:Sum:=⟨76,[lsc7,etb7],.c (i6 0),[]⟩
def kcb7:Sum:=⟨66,[lsc7,etb7],.tup [.c (i6 12),.c (i6 0)],[]⟩
def vbb7:Sum:=⟨76,[lsc7,.agg [.nils,.nils]],.c (i6 8),[]⟩
def fcb7:Sum:=⟨68,[],.c (.bool true),[]⟩
def gdb7:Sum:=⟨43,[],.c (.bool true),[]⟩
theorem pr7:of7 Tryz.prog gv7:=tc7 (S:=[]) mc7 gv7 (by decide +kernel)
theorem vab7:of7 Tryz.prog kbb7:=tc7 (S:=[]) mc7 kbb7 (by decide +kernel)
theorem bs7:of7 Tryz.prog kw7:=tc7 (S:=[kbb7]) (la7 vab7 mc7) kw7 (by decide +kernel)
theorem wrb7:of7 Tryz.prog pjb7:=tc7 (S:=[]) mc7 pjb7 (by decide +kernel)
theorem krb7:of7 Tryz.prog hkb7:=tc7 (S:=[]) mc7 hkb7 (by decide +kernel)
theorem prb7:of7 Tryz.prog zkb7:=tc7 (S:=[hkb7]) (la7 krb7 mc7) zkb7 (by decide +kernel)
theorem kqb7:of7 Tryz.prog mlb7:=tc7 (S:=[]) mc7 mlb7 (by decide +kernel)
theorem js7:of7 Tryz.prog ux7:=tc7 (S:=[kw7,mlb7]) (la7 bs7 (la7 kqb7 mc7)) ux7 (by decide +kernel)
theorem yr7:of7 Tryz.prog gw7:=tc7 (S:=[kw7,kbb7]) (la7 bs7 (la7 vab7 mc7)) gw7 (by decide +kernel)
theorem rrb7:of7 Tryz.prog bjb7:=tc7 (S:=[ux7,gw7]) (la7 js7 (la7 yr7 mc7)) bjb7 (by decide +kernel)
theorem alb7:of7 Tryz.prog jcb7:=tc7 (S:=[ux7,gw7]) (la7 js7 (la7 yr7 mc7)) jcb7 (by decide +kernel)
theorem mib7:of7 Tryz.prog geb7:=tc7 (S:=[]) mc7 geb7 (by decide +kernel)
theorem mw7:of7 Tryz.prog gu7:=tc7 (S:=[geb7]) (la7 mib7 mc7) gu7 (by decide +kernel)
theorem flb7:of7 Tryz.prog qbb7:=tc7 (S:=[]) mc7 qbb7 (by decide +kernel)
theorem ukb7:of7 Tryz.prog ddb7:=tc7 (S:=[]) mc7 ddb7 (by decide +kernel)
theorem ykb7:of7 Tryz.prog ubb7:=tc7 (S:=[ddb7]) (la7 ukb7 mc7) ubb7 (by decide +kernel)
theorem pkb7:of7 Tryz.prog dcb7:=tc7 (S:=[]) mc7 dcb7 (by decide +kernel)
theorem xjb7:of7 Tryz.prog mcb7:=tc7 (S:=[gu7,dcb7]) (la7 mw7 (la7 pkb7 mc7)) mcb7 (by decide +kernel)
theorem cp7:of7 Tryz.prog pq7:=tc7 (S:=[]) mc7 pq7 (by decide +kernel)
theorem tx7:of7 Tryz.prog ru7:=tc7 (S:=[pq7]) (la7 cp7 mc7) ru7 (by decide +kernel)
theorem jlb7:of7 Tryz.prog kcb7:=tc7 (S:=[ru7,pq7]) (la7 tx7 (la7 cp7 mc7)) kcb7 (by decide +kernel)
theorem fkb7:of7 Tryz.prog vbb7:=tc7 (S:=[pq7]) (la7 cp7 mc7) vbb7 (by decide +kernel)
theorem nib7:of7 Tryz.prog fcb7:=tc7 (S:=[gv7,kcb7,ru7,vbb7]) (la7 pr7 (la7 jlb7 (la7 tx7 (la7 fkb7 mc7)))) fcb7 (by decide +kernel)
theorem ikb7:of7 Tryz.prog gdb7:=tc7 (S:=[gv7,gu7,qbb7,ubb7,mcb7,fcb7]) (la7 pr7 (la7 mw7 (la7 flb7 (la7 ykb7 (la7 xjb7 (la7 nib7 mc7)))))) gdb7 (by decide +kernel)
theorem zqb7 {P:Program}{f:FuncId}(h:lb7 P none f [] [] (fun r _=>r = .c (.bool true))):be7 P f [] (fun r=>r = .c (.bool true)):=by
 refine⟨h.1,fun rho w vs hgl hrho hc=>?_⟩
 cases hc
 have hrel:Rel (Env.of w rho) ⟨fun _=>0,fun _=>0,rho,fun _=>none⟩ [] w:=⟨Bel.of _ _,fun _ _ _ _ _ h=>(by cases h),fun _ _ _ _ _ h=>(by cases h),fun _ _ _ _ h=>(by cases h),fun _ _ _ _ h=>(by cases h),fun _ _ _ _ _ _ _ _ h=>(by cases h),hrho,⟨fun b hb=>.inl hb,hgl⟩,⟨fun _ _ h=>(by cases h),fun _ _ _ _ _ _ _ h=>(by cases h),fun _ _ _ h=>(by cases h)⟩⟩
 refine (h.2 _ _ w [] hrel rfl).mono ?_
 rintro e w' (⟨M',H',r,v,rfl,h1,h2,h3,h4,h5,rfl⟩ | ⟨_,_,hP⟩)
 case inr=>exact (qa7 hP).elim
 exact⟨_,v,rho,rfl,rfl,h3,fun b hb=>.inl hb,h1.belN⟩
theorem pqb7:be7 Tryz.prog 14 [] (fun r=>r = .c (.bool true)) :=
 zqb7 (rqb7 (fun r G h=>by
  simp only[Bool.and_eq_true]at h
  split at h
  ·rfl
  ·cases h.1) (cub7 (S:=[gv7,kw7,pjb7,zkb7,ux7,gw7,bjb7,jcb7,gdb7]) (la7 pr7 (la7 bs7 (la7 wrb7 (la7 prb7 (la7 js7 (la7 yr7 (la7 rrb7 (la7 alb7 (la7 ikb7 mc7))))))))) (f:=14) (args:=[]) (H:=[]) (K:=fun r _=>(match r with | .c (.bool true)=>true | _=>false)&&true) (by decide +kernel)))
def frI:Option Nat→Int
 | none=>-1
 | some a=>a
theorem tvb7 (l:List UInt8) (k:Nat):ljc7 (S l) (k:Int)=((l.getD k 0).toNat:Int):=rfl
def wH (id:Nat):List (List UInt8×Nat)→AV
 | []=>.nils
 | l=>.h id 0 l.length
def wR:List (List UInt8×Nat)→Root
 | []=>.dead
 | l=>.live false 151 2 (.gen (l.map fun r=>[.str (S r.1),I6 r.2]))
abbrev ri7 (l:List (List UInt8×Nat)):AV:=.sl l.length 2 (fun i=>ix2 (.str (S (l.getD i ([],0)).1)) (I6 (l.getD i ([],0)).2))
theorem xqc7 (s:List UInt8) (a b:Nat):(S s).extract a b=S (hib7 s a b):=by
 apply ByteArray.ext
 rw[ByteArray.data_extract]
 show s.toArray.extract a b=(hib7 s a b).toArray
 rw[List.extract_toArray,List.extract_eq_take_drop];rfl
theorem vfb7 (l:List (List UInt8×Nat)):Eqv (.sl l.length 2 fun i j=>nth ((l.map fun r=>[AV.str (S r.1),I6 r.2]).getD i []) j) (ri7 l):=by
 refine⟨_,rfl,fun i hi j hj=>?_⟩
 have e:(l.map fun r=>[AV.str (S r.1),I6 r.2]).getD i []=[AV.str (S (l.getD i ([],0)).1),I6 (l.getD i ([],0)).2]:=by
  simp only[List.getD_eq_getElem?_getD,List.getElem?_map,List.getElem?_eq_getElem hi];rfl
 show Eqv (nth ((l.map fun r=>[AV.str (S r.1),I6 r.2]).getD i []) j) _
 rw[e]
 match j,hj with
 | 0,_=>rfl
 | 1,_=>rfl
def bj7 (s:List UInt8):RV :=
 if 131072<s.length then .tup [.c .nils,.c (I6 0),.c (I6 4)]
 else if iq7 s<s.length then .tup [.c .nils,.c (I6 (iq7 s)),.c (I6 3)]
 else .tup [.c (ri7 (ta7 s)),.c (I6 0),.c (I6 0)]
theorem wkb7 (s:List UInt8) (hl:s.length≤1000000000000):be7 Tryz.prog 54 [.c (.str (S s))] (fun r=>r=bj7 s):=by
 refine vc7 zb7 (by kernel_rfl) (fun _=>([],0,none)) Tryz.func54 rfl (by kernel_rfl) Tryz.ntmps54 (congrArg Array.toList Tryz.results54) (by kernel_rfl) (by simp) ?_
 have hsz:(S s).size=s.length:=rfl
 simp -implicitDefEqProofs only [go_sem,hsz]
 refine⟨fun h=>?_,fun h=>?_⟩
 ·have h0:bj7 s = .tup [.c .nils,.c (I6 0),.c (I6 4)]:=by unfold bj7;rw[if_pos (by omega)]
  rw[h0]
  exact⟨_,⟨_,rfl,⟨_,_,rfl,.inl rfl,_,_,rfl,.inl rfl,_,_,rfl,.inl rfl,rfl⟩⟩,rfl⟩
 ·refine qc7 (ι:=Nat) 1 [0] [5,6,7,8] (fun k=>k≤s.length+1∧xkb7 s k) (fun k=>[.c (wH 0 (scan s k).out),.c (I6 (frI (scan s k).fr)),.c (.bool (scan s k).note),.c (I6 k)]) (fun k=>[wR (scan s k).out]) (fun k=>s.length+1-k) (by kernel_rfl) ⟨0,⟨Nat.zero_le _,rhb7 s⟩,rfl,rfl⟩ (fun k _=>rfl) ?_
  rintro k ⟨hk,hok⟩
  have hst:=bnc7 s k
  have hfr:=skb7 s k
  have hln:=cu7 s k
  have hbv:k<s.length→ljc7 (S s) (k:Int)=((s.getD k 10).toNat:Int):=fun h=>by
   rw[tvb7,List.getD_eq_getElem?_getD,List.getD_eq_getElem?_getD,List.getElem?_eq_getElem h];rfl
  have hve:k=s.length→((s.getD k 10).toNat:Int)=10:=fun h=>by
   rw[List.getD_eq_getElem?_getD,List.getElem?_eq_none (by omega)];rfl
  have hb0:=dnb7 (s.getD k 10)
  have hok1:bac7 ((s.getD k 10).toNat:Int)=false→xkb7 s (k+1):=fun h=>lfb7 hok (by rw[hb0];exact h)
  have hbad:bac7 ((s.getD k 10).toNat:Int)=true→k<s.length→bj7 s = .tup [.c .nils,.c (I6 k),.c (I6 3)]:=fun hb hkl=>by
   have e:=wib7 hok hkl (by rw[hb0];exact hb)
   unfold bj7
   rw[if_neg (by omega),if_pos (by omega),e]
  have hfin:k=s.length+1→bj7 s = .tup [.c (ri7 (scan s k).out),.c (I6 0),.c (I6 0)]:=fun e=>by
   subst e
   have e:=pu7 (fun i hi=>hok i (by omega))
   unfold bj7
   rw[if_neg (by omega),if_neg (by omega)];rfl
  generalize scan s k=σ at hst hfr hln hfin
  generalize ((s.getD k 10).toNat:Int)=v at hst hbv hve hb0 hok1 hbad
  obtain⟨out,fr,note⟩:=σ
  have hA:∀a,(S s).extract a k=S (hib7 s a k):=fun a=>xqc7 s a k
  have h1:note=true→scan s (k+1)=⟨out,fr,decide (¬v=10)⟩:=fun e=>by rw[hst];unfold yeb7;rw[if_pos e]
  have h2:note=false→fr=none→(decide (v=32) || decide (v=10) || decide (v=35))=true→scan s (k+1)=⟨out,none,decide (v=35)⟩:=fun e e2 h=>by
   subst e;subst e2;rw[hst];unfold yeb7;rw[if_neg (by simp),if_pos (by unfold fsb7;exact h)]
  have h3:∀a,note=false→fr=some a→(decide (v=32) || decide (v=10) || decide (v=35))=true→scan s (k+1)=⟨out++[(hib7 s a k,a)],none,decide (v=35)⟩:=fun a e e2 h=>by
   subst e;subst e2;rw[hst];unfold yeb7;rw[if_neg (by simp),if_pos (by unfold fsb7;exact h)]
  have h4:note=false→fr=none→(decide (v=32) || decide (v=10) || decide (v=35))=false→scan s (k+1)=⟨out,some k,false⟩:=fun e e2 h=>by
   subst e;subst e2;rw[hst];unfold yeb7;rw[if_neg (by simp),if_neg (by unfold fsb7;rw[h];simp)]
  have h5:∀a,note=false→fr=some a→(decide (v=32) || decide (v=10) || decide (v=35))=false→scan s (k+1)=⟨out,some a,false⟩:=fun a e e2 h=>by
   subst e;subst e2;rw[hst];unfold yeb7;rw[if_neg (by simp),if_neg (by unfold fsb7;rw[h];simp)]
  have hbad1:k<s.length→¬v=10→(decide (v<32) || decide (126<v))=true→bj7 s = .tup [.c .nils,.c (I6 k),.c (I6 3)]:=fun h a b=>hbad (by unfold bac7;rw[b];simp[a]) h
  have hok2:(decide ¬v=10&&(decide (v<32) || decide (126<v)))=false→xkb7 s (k+1):=hok1
  clear hst hok1 hbad hb0 hok
  have hcs:k<s.length∨k=s.length∨k=s.length+1:=by omega
  rcases note with _ | _ <;> rcases fr with _ | a <;> rcases out with _ | ⟨o,out⟩
  all_goals first
   | (exfalso;have:=(hfr _ rfl).2;cases this;done)
   | skip
  all_goals
   simp -implicitDefEqProofs only [go_sem,hsz,wH,wR,frI]
   rcases hcs with hlt | he | hf
  all_goals first
   | (have hb:=hbv hlt;rw[hb];refine⟨fun _=>⟨fun _=>⟨⟨by omega,by omega⟩,fun h6 h7=>?_,fun hnb=>?_⟩,fun h=>absurd hlt (by omega)⟩,fun h=>by omega⟩)
   | (have hv:=hve he;subst hv;refine⟨fun _=>⟨fun h=>absurd h (by omega),fun _=>⟨fun h=>absurd trivial h,fun hnb=>?_⟩⟩,fun h=>by omega⟩)
   | (refine⟨fun h=>by omega,fun _=>?_⟩)
  all_goals first
   | (rw[hbad1 hlt h6 h7];exact⟨_,⟨_,rfl,⟨_,_,rfl,.inl rfl,_,_,rfl,.inl rfl,_,_,rfl,.inl rfl,rfl⟩⟩,rfl⟩)
   | (have hnn:=h1 rfl;refine⟨⟨by omega,by omega⟩,k+1,[0],⟨by omega,hok2 hnb⟩,⟨rfl,rfl⟩,by rw[hnn];rfl,by rw[hnn];rfl,by omega⟩)
   | (rw[hfin hf];exact⟨_,⟨_,rfl,⟨_,_,rfl,.inr ⟨_,rfl,.inr (.inr ⟨_,_,rfl⟩)⟩,_,_,rfl,.inl rfl,_,_,rfl,.inl rfl,rfl⟩⟩,rfl⟩)
   | (rw[hfin hf];refine⟨by simp,_,⟨_,rfl,⟨_,_,rfl,.inr ⟨_,rfl,.inr (vfb7 (o::out))⟩,_,_,rfl,.inl rfl,_,_,rfl,.inl rfl,rfl⟩⟩,rfl⟩)
   | skip
  all_goals
   (try rw[hA])
   refine⟨fun hd=>⟨fun h0=>?_,fun h0=>?_⟩,fun hd=>⟨fun h0=>?_,fun h0=>?_⟩⟩
  all_goals first
   | (exfalso;omega)
   | (exfalso;exact absurd hd (by decide))
   | skip
  all_goals first
   | (have hnn:=h2 rfl rfl (by first | exact hd | decide);refine⟨⟨by omega,by omega⟩,k+1,[0],⟨by omega,hok2 hnb⟩,⟨rfl,rfl⟩,by rw[hnn];rfl,by rw[hnn];rfl,by omega⟩)
   | (have hnn:=h4 rfl rfl hd;refine⟨⟨by omega,by omega⟩,k+1,[0],⟨by omega,hok2 hnb⟩,⟨rfl,rfl⟩,by rw[hnn];rfl,by rw[hnn];rfl,by omega⟩)
   | (have hnn:=h5 a rfl rfl hd;refine⟨⟨by omega,by omega⟩,k+1,[0],⟨by omega,hok2 hnb⟩,⟨rfl,rfl⟩,by rw[hnn];rfl,by rw[hnn];rfl,by omega⟩)
   | (have hak:=(hfr a rfl).1;have hnn:=h3 a rfl rfl (by first | exact hd | decide);refine⟨⟨by omega,by omega,by omega⟩,⟨by omega,by omega⟩,k+1,[2],⟨by omega,hok2 hnb⟩,⟨rfl,rfl⟩,by rw[hnn];rfl,by rw[hnn];rfl,by omega⟩)
   | (have hak:=(hfr a rfl).1;have hln2:out.length+1≤k:=hln;have hnn:=h3 a rfl rfl (by first | exact hd | decide);refine⟨⟨by omega,by omega,by omega⟩,⟨by simp,by omega⟩,⟨by omega,by omega⟩,k+1,[0],⟨by omega,hok2 hnb⟩,⟨rfl,rfl⟩,by rw[hnn];simp[mkH,pos],by rw[hnn];simp[fo7,aa7,ne7,km7],by omega⟩)
end Go.Proofs.YtedahhjopmkbbaaGreat.Ab
