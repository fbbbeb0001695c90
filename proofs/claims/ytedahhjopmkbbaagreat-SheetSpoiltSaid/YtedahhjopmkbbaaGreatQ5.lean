/- Texts of the proof, joined: A8, A9, A10, Ty. -/
import Derived.Test.YtedahhjopmkbbaaGreatProg
import Derived.Test.YtedahhjopmkbbaaGreatQ4
set_option linter.all false
set_option maxRecDepth 100000
set_option maxHeartbeats 6400000
namespace Go.Proofs.YtedahhjopmkbbaaGreat.Ab
open Go.RowKit
section
variable {P:Program} {ty:Ty} {E:Env} {nt:Nat} {M M':Mp} {σ σ':AS} {a a':Act} {w w':World}
def okC (nt:Nat) (ord:Nat→List Nat×Nat×Option DD):Code→Bool
 | .region id ops dr=>sj7 nt ops&&(!dr || vec7 ops (ord id))
 | .seq a b=>okC nt ord a&&okC nt ord b
 | .cond _ a b=>okC nt ord a&&okC nt ord b
 | .block _ a=>okC nt ord a
 | .loop a=>okC nt ord a
 | _=>true
def ejb7 (c:Code) (t:Nat):Prop:=t∈asg c
theorem least (p:Nat→Prop) (h:∃n,p n):∃n,p n∧∀m,p m→n≤m:=by
 obtain⟨n,hn⟩:=h
 induction n using Nat.strongRecOn with
 | _ n ih =>
  by_cases hc:∃m,m<n∧p m
  ·obtain⟨m,hm,hp⟩:=hc;exact ih m hm hp
  ·exact⟨n,hn,fun m hm=>Nat.le_of_not_lt fun hlt=>hc ⟨m,hlt,hm⟩⟩
theorem wp_loop_ghost {ι:Type}{c:Code}{Q:Exit→Act→World→Prop}(I:ι→Act→World→Prop) (μ:ι→Nat) (s0:ι) {a:Act}{w:World}(h0:I s0 a w)
  (round:∀s a w,I s a w→c.wp P (Exit.then (fun a' w'=>∃s',I s' a' w'∧μ s'<μ s) Q) a w):(Code.loop c).wp P Q a w:=by
 classical
 have hl:∀(a:Act) (w:World),(∃n,∃s,I s a w∧μ s=n)→∃n,(∃s,I s a w∧μ s=n)∧∀m,(∃s,I s a w∧μ s=m)→n≤m:=fun a w h=>least _ h
 let f:Act→World→Nat:=fun a w=>if h:∃n,∃s,I s a w∧μ s=n then Classical.choose (hl a w h) else 0
 have hf:∀a w s,I s a w→(∃s',I s' a w∧μ s'=f a w)∧f a w≤μ s:=by
  intro a w s hs
  have h:∃n,∃s,I s a w∧μ s=n:=⟨_,s,hs,rfl⟩
  have:=Classical.choose_spec (hl a w h)
  have e:f a w=Classical.choose (hl a w h):=dif_pos h
  rw[e]
  exact⟨this.1,this.2 _ ⟨s,hs,rfl⟩⟩
 refine wp_loop (fun a w=>∃s,I s a w) f ⟨s0,h0⟩ fun a w ⟨s,hs⟩=>?_
 obtain⟨⟨s1,h1,h2⟩,-⟩:=hf a w s hs
 refine wp_mono (round s1 a w h1) fun e a' w' q=>?_
 cases e with
 | normal =>
  obtain⟨s',q1,q2⟩:=q
  exact⟨⟨s',q1⟩,by have:=(hf a' w' s' q1).2;omega⟩
 | _=>exact q
theorem bw7:∀(vy:List Nat) (vs:List RV) (tm tm0:Tm),gets tm0 vy=xm7 vs→∀t,(t∈vy∧lk (setT vy vs tm) t=lk tm0 t)∨(t ∉ vy∧lk (setT vy vs tm) t=lk tm t)
 | [],vs,tm,tm0,_,t=>.inr ⟨by simp,by cases vs <;> rfl⟩
 | v::vy,[],tm,tm0,h,t=>by simp[gets,xm7]at h
 | v::vy,x::vs,tm,tm0,h,t=>by
  simp only[gets,xm7,List.cons.injEq]at h
  simp only[setT,lk]
  by_cases e:v=t
  ·subst e
   exact .inl ⟨List.mem_cons_self ..,by rw[if_pos rfl,h.1]⟩
  ·rw[if_neg e]
   rcases bw7 vy vs tm tm0 h.2 t with ⟨h1,h2⟩ | ⟨h1,h2⟩
   ·exact .inl ⟨List.mem_cons_of_mem _ h1,h2⟩
   ·exact .inr ⟨by simp only[List.mem_cons,not_or];exact⟨fun e2=>e e2.symm,h1⟩,h2⟩
theorem qp7 (tm:Tm):∀(fx:List Nat) (t:Nat),(t∈fx∧lk (fxT tm fx) t=lk tm t)∨(t ∉ fx∧lk (fxT tm fx) t=(true,.c .junk))
 | [],t=>.inr ⟨by simp,rfl⟩
 | x::fx,t=>by
  simp only[fxT,lk]
  by_cases e:x=t
  ·subst e;exact .inl ⟨List.mem_cons_self ..,by rw[if_pos rfl]⟩
  ·rw[if_neg e]
   rcases qp7 tm fx t with ⟨h1,h2⟩ | ⟨h1,h2⟩
   ·exact .inl ⟨List.mem_cons_of_mem _ h1,h2⟩
   ·exact .inr ⟨by simp only[List.mem_cons,not_or];exact⟨fun e2=>e e2.symm,h1⟩,h2⟩
theorem wn7 {c:Code}{fx:List Nat}(h:mvb7 c fx=true) {t:Nat}(ht:t∈fx):¬ejb7 c t:=by
 have:=List.all_eq_true.1 h t ht
 simpa[ejb7]using this
theorem Con.take {H:List Root}{k:Nat}{x:AV}{v:Value}(hk:k≤H.length) (hs:x.scp k=true) (h:Con M H w x v):Con M (H.take k) w x v:=by
 have hlen:(H.take k).length=k:=by simp;omega
 cases x with
 | ptr id n i o =>
  have hid:id<k:=by simpa[AV.scp]using hs
  exact⟨⟨by omega,h.1.2⟩,fun fz t sz r hr=>by rw[gl7,if_pos hid]at hr;exact h.2 _ _ _ _ hr⟩
 | h id st len =>
  have hid:id<k:=by simpa[AV.scp]using hs
  exact⟨⟨by omega,h.1.2⟩,fun fz t sz r hr=>by rw[gl7,if_pos hid]at hr;exact h.2 _ _ _ _ hr⟩
 | junk=>trivial
 | _=>exact h
theorem re7.take {H:List Root}{k:Nat}(hk:k≤H.length):∀{l:List AV}{vs:List Value},egb7 k l=true→re7 M H w l vs→re7 M (H.take k) w l vs
 | [],_,_,h=>h
 | x::l,_,hs,⟨v,r,e,h1,h2⟩=>by
  simp only[egb7,Bool.and_eq_true]at hs
  exact⟨v,r,e,h1.take hk hs.1,re7.take hk hs.2 h2⟩
mutual
theorem ra7.take {H:List Root}{k:Nat}(hk:k≤H.length):∀{x:RV}{v:Value},mkc7 k x=true→ra7 M H w x v→ra7 M (H.take k) w x v
 | .c _,_,hs,h=>Con.take hk hs h
 | .agg _,_,hs,⟨vs,e,h⟩=>⟨vs,e,re7.take hk hs h⟩
 | .fn _ _,_,hs,⟨vs,e,h⟩=>⟨vs,e,re7.take hk hs h⟩
 | .tup _,_,hs,⟨vs,e,h⟩=>⟨vs,e,sc7.take hk hs h⟩
 | .ifc _ _,_,hs,⟨u,e,h⟩=>⟨u,e,ra7.take hk hs h⟩
theorem sc7.take {H:List Root}{k:Nat}(hk:k≤H.length):∀{x:List RV}{vs:List Value},wy7 k x=true→sc7 M H w x vs→sc7 M (H.take k) w x vs
 | [],_,_,h=>h
 | x::l,_,hs,⟨v,r,e,h1,h2⟩=>by
  simp only[wy7,Bool.and_eq_true]at hs
  exact⟨v,r,e,ra7.take hk hs.1 h1,sc7.take hk hs.2 h2⟩
end
theorem mx7 {H:List Root}{x:AV}{v:Value}(h:Con M H w x v):x.scp H.length=true:=by
 cases x with
 | ptr=>simpa[AV.scp]using h.1.1
 | h=>simpa[AV.scp]using h.1.1
 | _=>rfl
theorem lp7 {k:Nat}:∀{H:List Root},abb7 k H=true→∀{id:Nat}{fz:Bool}{t:TypeId}{sz:Nat}{l:List AV},aa7 H id = .live fz t sz (.box l)→egb7 k l=true
 | [],_,_,_,_,_,_,h=>by cases h
 | .live fz t sz (.box l)::H,hs,0,_,_,_,_,h=>by
  simp only[abb7,Bool.and_eq_true]at hs
  cases h;exact hs.1
 | .live _ _ _ (.box _)::H,hs,id+1,_,_,_,_,h=>by
  simp only[abb7,Bool.and_eq_true]at hs
  exact lp7 hs.2 h
 | .dead::H,hs,0,_,_,_,_,h=>by cases h
 | .live _ _ _ (.ints ..)::H,hs,0,_,_,_,_,h=>by cases h
 | .live _ _ _ (.bools ..)::H,hs,0,_,_,_,_,h=>by cases h
 | .live _ _ _ (.gen ..)::H,hs,0,_,_,_,_,h=>by cases h
 | .live _ _ _ (.own ..)::H,hs,0,_,_,_,_,h=>by cases h
 | .dead::H,hs,id+1,_,_,_,_,h=>lp7 (H:=H) hs h
 | .live _ _ _ (.ints ..)::H,hs,id+1,_,_,_,_,h=>lp7 (H:=H) hs h
 | .live _ _ _ (.bools ..)::H,hs,id+1,_,_,_,_,h=>lp7 (H:=H) hs h
 | .live _ _ _ (.gen ..)::H,hs,id+1,_,_,_,_,h=>lp7 (H:=H) hs h
 | .live _ _ _ (.own _)::H,hs,id+1,_,_,_,_,h=>by
  simp only[abb7,Bool.and_eq_true]at hs
  exact lp7 hs.2 h
theorem bob7 {k:Nat}:∀{l:List (List AV)},yib7 k l=true→∀i,egb7 k (l.getD i [])=true
 | [],_,_=>rfl
 | _::_,h,0=>by simp only[yib7,Bool.and_eq_true]at h;exact h.1
 | _::l,h,i+1=>by simp only[yib7,Bool.and_eq_true]at h;exact bob7 (l:=l) h.2 i
theorem gp7 {k:Nat}:∀{H:List Root},abb7 k H=true→∀{id:Nat}{fz:Bool}{t:TypeId}{sz:Nat}{l:List (List AV)},aa7 H id = .live fz t sz (.own l)→yib7 k l=true
 | [],_,_,_,_,_,_,h=>by cases h
 | .live fz t sz (.own l)::H,hs,0,_,_,_,_,h=>by
  simp only[abb7,Bool.and_eq_true]at hs
  cases h;exact hs.1
 | .live _ _ _ (.own _)::H,hs,id+1,_,_,_,_,h=>by
  simp only[abb7,Bool.and_eq_true]at hs
  exact gp7 hs.2 h
 | .live _ _ _ (.box _)::H,hs,id+1,_,_,_,_,h=>by
  simp only[abb7,Bool.and_eq_true]at hs
  exact gp7 hs.2 h
 | .dead::H,hs,0,_,_,_,_,h=>by cases h
 | .live _ _ _ (.box ..)::H,hs,0,_,_,_,_,h=>by cases h
 | .live _ _ _ (.ints ..)::H,hs,0,_,_,_,_,h=>by cases h
 | .live _ _ _ (.bools ..)::H,hs,0,_,_,_,_,h=>by cases h
 | .live _ _ _ (.gen ..)::H,hs,0,_,_,_,_,h=>by cases h
 | .dead::H,hs,id+1,_,_,_,_,h=>gp7 (H:=H) hs h
 | .live _ _ _ (.ints ..)::H,hs,id+1,_,_,_,_,h=>gp7 (H:=H) hs h
 | .live _ _ _ (.bools ..)::H,hs,id+1,_,_,_,_,h=>gp7 (H:=H) hs h
 | .live _ _ _ (.gen ..)::H,hs,id+1,_,_,_,_,h=>gp7 (H:=H) hs h
theorem yjb7 {k:Nat}:∀{l:List AV},egb7 k l=true→∀j,(nth l j).scp k=true
 | [],_,_=>rfl
 | x::l,hs,0=>by simp only[egb7,Bool.and_eq_true]at hs;exact hs.1
 | x::l,hs,j+1=>by simp only[egb7,Bool.and_eq_true]at hs;exact yjb7 hs.2 j
theorem Rel.take {H:List Root}{k:Nat}(h:Rel E M H w) (hk:k≤H.length) (hs:abb7 k (H.take k)=true):Rel E M (H.take k) w:=by
 have lift:∀{id:Nat} {fz:Bool} {t:TypeId} {sz:Nat} {r:Row},aa7 (H.take k) id = .live fz t sz r→aa7 H id = .live fz t sz r:=fun {id fz t sz r} hr=>by
  rw[gl7]at hr
  split at hr
  ·exact hr
  ·cases hr
 refine⟨h.bel,fun id fz t sz r hr=>h.low _ _ _ _ _ (lift hr),fun id fz t sz r hr=>?_,fun id t sz r hr=>h.froz _ _ _ _ (lift hr),fun id t sz r hr=>h.thaw _ _ _ _ (lift hr),fun i j t s r t' s' r' hi hj=>h.inj _ _ _ _ _ _ _ _ (lift hi) (lift hj),h.rlt,h.src,h.tau.keep rfl (fun _ _ _=>rfl) (fun b q hq=>(h.tau.new b q hq).2) fun b q j fz t s r hq hj=>h.tau.row _ _ _ _ _ _ _ hq (lift hj)⟩
 obtain⟨cur,h1,h2,h3,h4,h5,h6⟩:=h.row _ _ _ _ _ (lift hr)
 refine⟨cur,h1,h2,h3,h4,h5,fun i hi o ho=>?_⟩
 obtain⟨v,k1,k2,k3⟩:=h6 i hi o ho
 refine⟨v,k1,k2, ?_⟩
 unfold xj7 at k3 ⊢
 cases r with
 | box l =>
  simp only[Row.isBox,if_true]at k3 ⊢
  exact k3.take hk (yjb7 (lp7 hs hr) o)
 | own l =>
  simp only[Row.isBox,if_true]at k3 ⊢
  exact k3.take hk (yjb7 (bob7 (gp7 hs hr) i) o)
 | _=>exact k3
def xgb7 (σ:AS) (fx vy:List Nat) (vs:List RV) (H:List Root):AS:=⟨setT vy vs (fxT σ.tm fx),H⟩
theorem wmb7 {k:Nat}{vy:List Nat}{vs:List RV}{tm:Tm}(hs:wy7 k vs=true):∀t,t∈vy→vs.length=vy.length→∃x,lk (setT vy vs tm) t=(true,x)∧mkc7 k x=true:=by
 induction vy generalizing vs with
 | nil=>intro t ht;cases ht
 | cons v vy ih =>
  intro t ht hl
  cases vs with
  | nil=>simp at hl
  | cons x vs =>
   simp only[wy7,Bool.and_eq_true]at hs
   simp only[setT,lk]
   by_cases e:v=t
   ·rw[if_pos e];exact⟨x,rfl,hs.1⟩
   ·rw[if_neg e]
    rcases List.mem_cons.1 ht with rfl | ht
    ·exact absurd rfl e
    ·exact ih hs.2 t ht (by simpa using hl)
theorem qy7 {c:Code}{Q R:Exit→Act→World→Prop}(hq:∀e a w,Q e a w→R e a w):∀{n:Nat}{a:Act}{w:World},Code.rounds P c Q n a w→Code.rounds P c R n a w
 | 0,_,_,h=>h
 | n+1,_,_,h=>by
  rw[rounds_succ]at h ⊢
  refine wp_mono h fun e a w q=>?_
  cases e with
  | normal=>exact qy7 hq q
  | _=>exact hq _ _ _ q
def kpc7 [Pan] (E:Env) (nt:Nat) (M:Mp) (σ:AS) (a:Act) (w:World) (ds:Nat→Prop) (Q:Exit→AS→Prop) (e:Exit) (a':Act) (w':World):Prop :=
 ((∀ch,e ≠ .panic ch)∧After E nt M σ a w ds (Q e) a' w')∨∃ch,e = .panic ch∧a'.defers=E.df∧iw7 E M σ.H w ch w'
theorem kpc7.mono [Pan] {ds ds1:Nat→Prop}{Q:Exit→AS→Prop}{e:Exit}(h:kpc7 E nt M σ a w ds1 Q e a' w') (h1:∀t,ds1 t→ds t):kpc7 E nt M σ a w ds Q e a' w':=by
 rcases h with ⟨hp,M1,σ1,q1,q2,q3⟩ | ⟨ch,rfl,hdf,hP⟩
 ·exact .inl ⟨hp,M1,σ1,q1,q2.mono h1,q3⟩
 ·exact .inr ⟨ch,rfl,hdf,hP⟩
theorem vl7 [Pan] (hT:ud7 P ty) (hm:P.follows .mixedOrders=true) {ord:Nat→List Nat×Nat×Option DD}:∀(c:Code),okC nt ord c=true→∀{Q:Exit→AS→Prop}{M:Mp}{σ:AS}{a:Act}{w:World},St E nt M σ a w→awp P ty ord c Q σ →
  c.wp P (kpc7 E nt M σ a w (ejb7 c) Q) a w
 | .skip,_,Q,M,σ,a,w,h,hw=>wp_skip (.inl ⟨fun _ e=>(by cases e),M,σ,h,Stp.refl _ _ _ _ _,hw⟩)
 | .exit id,_,Q,M,σ,a,w,h,hw=>wp_exit (.inl ⟨fun _ e=>(by cases e),M,σ,h,Stp.refl _ _ _ _ _,hw⟩)
 | .ret,_,Q,M,σ,a,w,h,hw=>wp_ret (.inl ⟨fun _ e=>(by cases e),M,σ,h,Stp.refl _ _ _ _ _,hw⟩)
 | .region id ops dr,hc,Q,M,σ,a,w,h,hw=>by
  simp only[okC,Bool.and_eq_true]at hc
  have hds:∀t,hm7 ops.toList t→ejb7 (.region id ops dr) t:=fun t ⟨o,ho,e⟩=>List.mem_filterMap.2 ⟨o,ho,e⟩
  cases dr with
  | true =>
   simp only[awp,if_true]at hw
   exact awb7 hT hm (by simpa using hc.2) hc.1 h hw (fun a' w' ⟨M2,σ2,r1,r2,r3⟩=>.inl ⟨fun _ e=>(by cases e),M2,σ2,r1,r2.mono hds,r3⟩) (fun c a d v w hh=>hh.elim (fun hh=>absurd rfl (hh.1 c)) fun ⟨ch,e,hd,hp⟩=>.inr ⟨ch,e,(by cases d <;> exact hd),hp⟩) fun a' ch w' hd hp=>.inr ⟨ch,rfl,hd,hp⟩
  | false =>
   simp only[awp,Bool.false_eq_true,if_false]at hw
   exact wp_region_list (njb7 hT ops.toList h (qf7 hc.1) hw (fun a' w' ⟨M2,σ2,r1,r2,r3⟩=>.inl ⟨fun _ e=>(by cases e),M2,σ2,r1,r2.mono hds,r3⟩) fun a' ch w' hd hp=>.inr ⟨ch,rfl,hd,hp⟩)
 | .seq x y,hc,Q,M,σ,a,w,h,hw=>by
  simp only[okC,Bool.and_eq_true]at hc
  refine wp_seq (wp_mono (vl7 hT hm x hc.1 h (Q:=bm7 (awp P ty ord y Q) Q) hw) fun e a1 w1 hA=>?_)
  rcases hA with ⟨hp,M1,σ1,q1,q2,q3⟩ | ⟨ch,rfl,hdf,hP⟩
  case inr=>exact .inr ⟨ch,rfl,hdf,hP⟩
  cases e with
  | normal =>
   refine wp_mono (vl7 hT hm y hc.2 q1 q3) fun e a2 w2 hB=>?_
   rcases hB with ⟨hp2,M2,σ2,r1,r2,r3⟩ | ⟨ch,rfl,hdf,hP⟩
   ·exact .inl ⟨hp2,M2,σ2,r1,q2.trans r2 (fun t ht=>List.mem_append_left _ ht) (fun t ht=>List.mem_append_right _ ht),r3⟩
   ·exact .inr ⟨ch,rfl,hdf,hP.step q2.kp q2.len⟩
  | panic ch=>exact absurd rfl (hp ch)
  | exit id=>exact .inl ⟨hp,M1,σ1,q1,q2.mono fun t ht=>List.mem_append_left _ ht,q3⟩
  | goto l=>exact .inl ⟨hp,M1,σ1,q1,q2.mono fun t ht=>List.mem_append_left _ ht,q3⟩
  | ret=>exact .inl ⟨hp,M1,σ1,q1,q2.mono fun t ht=>List.mem_append_left _ ht,q3⟩
  | outgrown=>exact .inl ⟨hp,M1,σ1,q1,q2.mono fun t ht=>List.mem_append_left _ ht,q3⟩
 | .cond x y z,hc,Q,M,σ,a,w,h,hw=>by
  simp only[okC,Bool.and_eq_true]at hc
  have hw':mdb7 (σ.rd x) (awp P ty ord y Q σ) (awp P ty ord z Q σ):=hw
  unfold mdb7 at hw'
  split at hw'
  ·rename_i b hb
   have hv:=h.rd (x:=x) (by rw[hb])
   rw[hb]at hv
   have hv':a.eval x = .bool b:=hv
   refine wp_cond hv' ?_
   cases b with
   | true=>exact wp_mono (vl7 hT hm y hc.1 h (hw'.1 rfl)) fun e a1 w1 hA=>hA.mono fun t ht=>List.mem_append_left _ ht
   | false=>exact wp_mono (vl7 hT hm z hc.2 h (hw'.2 rfl)) fun e a1 w1 hA=>hA.mono fun t ht=>List.mem_append_right _ ht
  ·exact hw'.elim
 | .block id x,hc,Q,M,σ,a,w,h,hw=>by
  refine wp_block (wp_mono (vl7 hT hm x hc h (Q:=inB id Q) hw) fun e a1 w1 hA=>?_)
  rcases hA with ⟨hp,M1,σ1,q1,q2,q3⟩ | ⟨ch,rfl,hdf,hP⟩
  case inr=>exact .inr ⟨ch,rfl,hdf,hP⟩
  cases e with
  | exit j =>
   simp only[Exit.inBlock]
   simp only[inB]at q3
   split
   ·rename_i e;rw[if_pos e]at q3;exact .inl ⟨fun _ e=>(by cases e),M1,σ1,q1,q2,q3⟩
   ·rename_i e;rw[if_neg e]at q3;exact .inl ⟨hp,M1,σ1,q1,q2,q3⟩
  | normal=>exact .inl ⟨hp,M1,σ1,q1,q2,q3⟩
  | panic ch=>exact absurd rfl (hp ch)
  | goto l=>exact .inl ⟨hp,M1,σ1,q1,q2,q3⟩
  | ret=>exact .inl ⟨hp,M1,σ1,q1,q2,q3⟩
  | outgrown=>exact .inl ⟨hp,M1,σ1,q1,q2,q3⟩
 | .loop x,hc,Q,M,σ,a,w,h,hw=>by
  rcases (show amc7 (awp P ty ord x) x Q σ∨mec7 (awp P ty ord x) x Q σ∨∃l:List Unit,vo7 (awp P ty ord x) l Q σ from hw) with hw | hw | ⟨l,hw⟩
  case inr.inr =>
   have go:∀(l:List Unit) {M:Mp} {σ:AS} {a:Act} {w:World},St E nt M σ a w→vo7 (awp P ty ord x) l Q σ→Code.rounds P x (kpc7 E nt M σ a w (ejb7 x) Q) l.length a w:=by
    intro l
    induction l with
    | nil=>intro M σ a w _ h;exact h.elim
    | cons u l ih =>
     intro M σ a w h hw
     show Code.rounds P x _ (l.length+1) a w
     rw[rounds_succ]
     refine wp_mono (vl7 hT hm x hc h (Q:=bm7 (vo7 (awp P ty ord x) l Q) Q) hw) fun e a1 w1 hA=>?_
     rcases hA with ⟨hp,M1,σ1,q1,q2,q3⟩ | ⟨ch,rfl,hdf,hP⟩
     case inr=>exact .inr ⟨ch,rfl,hdf,hP⟩
     cases e with
     | normal =>
      refine qy7 (fun e a2 w2 hB=>?_) (ih q1 q3)
      rcases hB with ⟨hp2,M2,σ2,r1,r2,r3⟩ | ⟨ch,rfl,hdf,hP⟩
      ·exact .inl ⟨hp2,M2,σ2,r1,q2.trans r2 (fun _ h=>h) (fun _ h=>h),r3⟩
      ·exact .inr ⟨ch,rfl,hdf,hP.step q2.kp q2.len⟩
     | panic ch=>exact absurd rfl (hp ch)
     | exit id=>exact .inl ⟨hp,M1,σ1,q1,q2,q3⟩
     | goto l=>exact .inl ⟨hp,M1,σ1,q1,q2,q3⟩
     | ret=>exact .inl ⟨hp,M1,σ1,q1,q2,q3⟩
     | outgrown=>exact .inl ⟨hp,M1,σ1,q1,q2,q3⟩
   exact wp_loop_rounds _ (go l h hw)
  case inr.inl =>
   obtain⟨ι,d,fx,vy,inv,vals,H,μ,hfx,⟨s0,i0,g0,e0⟩,hsc,round⟩:=hw
   have mk:∀{M1 σ1 a1 w1 s},inv s→St E nt M1 σ1 a1 w1→Stp M σ a w M1 σ1 a1 w1 (ejb7 x)→gets σ1.tm vy=xm7 (vals s)→σ1.H=H s→St E nt M1 (xgb7 σ fx vy (vals s) (H s)) a1 w1∧Stp M σ a w M1 (xgb7 σ fx vy (vals s) (H s)) a1 w1 (ejb7 x):=by
    intro M1 σ1 a1 w1 s hs q1 q2 hg hH
    have s1:=hsc s hs
    have hkp:Kp M σ.H w M1 (H s) w1:=fun x v c=>by
     rw[← hH]
     exact q2.kp x v c
    refine⟨⟨?_,fun t ht=>?_,fun t ht=>?_,q1.sz,q1.df⟩,⟨by show σ.H.length≤(H s).length;omega,hkp,q2.tm⟩⟩
    ·show Rel E M1 (H s) w1
     rw[← hH]
     exact q1.rel
    ·show ra7 M1 (H s) w1 (lk (setT vy (vals s) (fxT σ.tm fx)) t).2 _
     have ht':(lk (setT vy (vals s) (fxT σ.tm fx)) t).1=true:=ht
     rcases bw7 vy (vals s) (fxT σ.tm fx) σ1.tm hg t with ⟨m1,m2⟩ | ⟨m1,m2⟩
     ·rw[m2]at ht' ⊢
      rw[← hH]
      exact q1.tms t ht'
     ·rw[m2]at ht' ⊢
      rcases qp7 σ.tm fx t with ⟨f1,f2⟩ | ⟨f1,f2⟩
      ·rw[f2]at ht' ⊢
       rw[q2.tm t (wn7 hfx f1)]
       exact hkp.R (h.tms t ht')
      ·rw[f2];trivial
    ·have ht':(lk (setT vy (vals s) (fxT σ.tm fx)) t).1=false:=ht
     rcases bw7 vy (vals s) (fxT σ.tm fx) σ1.tm hg t with ⟨m1,m2⟩ | ⟨m1,m2⟩
     ·rw[m2]at ht'
      exact q1.off t ht'
     ·rw[m2]at ht'
      rcases qp7 σ.tm fx t with ⟨f1,f2⟩ | ⟨f1,f2⟩
      ·rw[f2]at ht'
       rw[q2.tm t (wn7 hfx f1)]
       exact h.off t ht'
      ·rw[f2]at ht';cases ht'
   have hd:St E nt M ⟨σ.tm,σ.H++List.replicate d .dead⟩ a w:=⟨h.rel.dead d,fun t ht=>(h.tms t ht).dead d,h.off,h.sz,h.df⟩
   have hstart:=mk i0 hd ⟨by simp,fun x v c=>c.dead d,fun _ _=>rfl⟩ g0 e0
   refine wp_loop_ghost (fun s a1 w1=>∃M1,inv s∧St E nt M1 (xgb7 σ fx vy (vals s) (H s)) a1 w1∧Stp M σ a w M1 (xgb7 σ fx vy (vals s) (H s)) a1 w1 (ejb7 x)) μ s0 ⟨M,i0,hstart⟩ ?_
   rintro s a1 w1 ⟨M1,hs,q1,q2⟩
   refine wp_mono (vl7 hT hm x hc q1 (round s hs)) fun e a2 w2 hA=>?_
   rcases hA with ⟨hp,M2,σ2,r1,r2,r3⟩ | ⟨ch,rfl,hdf,hP⟩
   case inr=>exact .inr ⟨ch,rfl,hdf,hP.step q2.kp q2.len⟩
   have r4:=q2.trans r2 (fun _ h=>h) (fun _ h=>h)
   cases e with
   | normal =>
    obtain⟨s',ids,t1,⟨o1,o2⟩,t2,t3,t4⟩:=r3
    have st:=r1.ren r4.len o2
    refine⟨s',⟨hrb7 σ.H.length ids M2,t1,mk t1 st ⟨?_,fun x v c=>?_,r4.tm⟩ ?_ t3⟩,t4⟩
    ·show σ.H.length≤(jeb7 σ.H.length ids σ2.H).length
     rw[fl7 r4.len];omega
    ·have:=(r4.kp x v c).ren (ids:=ids) r4.len
     rw[ds7 (mx7 c)]at this
     exact this
    ·show gets (mac7 σ.H.length ids σ2.tm) vy=_
     rw[ffb7];exact t2
   | panic ch=>exact absurd rfl (hp ch)
   | exit id=>exact .inl ⟨hp,M2,σ2,r1,r4,r3⟩
   | goto l=>exact .inl ⟨hp,M2,σ2,r1,r4,r3⟩
   | ret=>exact .inl ⟨hp,M2,σ2,r1,r4,r3⟩
   | outgrown=>exact .inl ⟨hp,M2,σ2,r1,r4,r3⟩
  obtain⟨ι,fx,vy,inv,vals,H,μ,hfx,⟨s0,i0,g0,e0⟩,hsc,round⟩:=hw
  have mk:∀{M1 σ1 a1 w1 s},inv s→St E nt M1 σ1 a1 w1→Stp M σ a w M1 σ1 a1 w1 (ejb7 x)→gets σ1.tm vy=xm7 (vals s)→σ1.H.take σ.H.length=H s→St E nt M1 (xgb7 σ fx vy (vals s) (H s)) a1 w1∧Stp M σ a w M1 (xgb7 σ fx vy (vals s) (H s)) a1 w1 (ejb7 x):=by
   intro M1 σ1 a1 w1 s hs q1 q2 hg hH
   obtain⟨s1,s2,s3,s4⟩:=hsc s hs
   have hkp:Kp M σ.H w M1 (H s) w1:=fun x v c=>by
    rw[← hH]
    exact (q2.kp x v c).take q2.len (mx7 c)
   refine⟨⟨?_,fun t ht=>?_,fun t ht=>?_,q1.sz,q1.df⟩,⟨by show σ.H.length≤(H s).length;omega,hkp,q2.tm⟩⟩
   ·show Rel E M1 (H s) w1
    rw[← hH]
    exact q1.rel.take q2.len (by rw[hH];exact s3)
   ·show ra7 M1 (H s) w1 (lk (setT vy (vals s) (fxT σ.tm fx)) t).2 _
    have ht':(lk (setT vy (vals s) (fxT σ.tm fx)) t).1=true:=ht
    rcases bw7 vy (vals s) (fxT σ.tm fx) σ1.tm hg t with ⟨m1,m2⟩ | ⟨m1,m2⟩
    ·obtain⟨y,y1,y2⟩:=wmb7 (tm:=fxT σ.tm fx) s2 t m1 s4
     rw[m2]at ht' ⊢
     rw[m2]at y1
     have:=q1.tms t ht'
     rw[y1]at this ⊢
     rw[← hH]
     exact ra7.take q2.len y2 this
    ·rw[m2]at ht' ⊢
     rcases qp7 σ.tm fx t with ⟨f1,f2⟩ | ⟨f1,f2⟩
     ·rw[f2]at ht' ⊢
      rw[q2.tm t (wn7 hfx f1)]
      exact hkp.R (h.tms t ht')
     ·rw[f2];trivial
   ·have ht':(lk (setT vy (vals s) (fxT σ.tm fx)) t).1=false:=ht
    rcases bw7 vy (vals s) (fxT σ.tm fx) σ1.tm hg t with ⟨m1,m2⟩ | ⟨m1,m2⟩
    ·obtain⟨y,y1,y2⟩:=wmb7 (tm:=fxT σ.tm fx) s2 t m1 s4
     rw[y1]at ht';cases ht'
    ·rw[m2]at ht'
     rcases qp7 σ.tm fx t with ⟨f1,f2⟩ | ⟨f1,f2⟩
     ·rw[f2]at ht'
      rw[q2.tm t (wn7 hfx f1)]
      exact h.off t ht'
     ·rw[f2]at ht';cases ht'
  have hstart:=mk i0 h (Stp.refl _ _ _ _ _) g0 (by rw[List.take_length];exact e0)
  refine wp_loop_ghost (fun s a1 w1=>∃M1,inv s∧St E nt M1 (xgb7 σ fx vy (vals s) (H s)) a1 w1∧Stp M σ a w M1 (xgb7 σ fx vy (vals s) (H s)) a1 w1 (ejb7 x)) μ s0 ⟨M,i0,hstart⟩ ?_
  rintro s a1 w1 ⟨M1,hs,q1,q2⟩
  refine wp_mono (vl7 hT hm x hc q1 (round s hs)) fun e a2 w2 hA=>?_
  rcases hA with ⟨hp,M2,σ2,r1,r2,r3⟩ | ⟨ch,rfl,hdf,hP⟩
  case inr=>exact .inr ⟨ch,rfl,hdf,hP.step q2.kp q2.len⟩
  have r4:=q2.trans r2 (fun _ h=>h) (fun _ h=>h)
  cases e with
  | normal =>
   obtain⟨s',t1,t2,t3,t4⟩:=r3
   exact⟨s',⟨M2,t1,mk t1 r1 r4 t2 t3⟩,t4⟩
  | panic ch=>exact absurd rfl (hp ch)
  | exit id=>exact .inl ⟨hp,M2,σ2,r1,r4,r3⟩
  | goto l=>exact .inl ⟨hp,M2,σ2,r1,r4,r3⟩
  | ret=>exact .inl ⟨hp,M2,σ2,r1,r4,r3⟩
  | outgrown=>exact .inl ⟨hp,M2,σ2,r1,r4,r3⟩
 | .label l,_,Q,M,σ,a,w,h,hw=>(by cases hw)
 | .goto l,_,Q,M,σ,a,w,h,hw=>(by cases hw)
 | .scope b,_,Q,M,σ,a,w,h,hw=>(by cases hw)
 | .rangeFunc ..,_,Q,M,σ,a,w,h,hw=>(by cases hw)
 | .refuse y,_,Q,M,σ,a,w,h,hw=>(by cases hw)
end
def Eqv:AV→AV→Prop
 | .sl n sz f,y=>∃g,y = .sl n sz g∧∀i,i<n→∀j,j<sz→Eqv (f i j) (g i j)
 | .nils,y=>y = .nils∨∃sz g,y = .sl 0 sz g
 | .int k n,y=>y = .int k n
 | .bool b,y=>y = .bool b
 | .flt b,y=>y = .flt b
 | .str b,y=>y = .str b
 | .nilp,y=>y = .nilp
 | .rp n f,y=>y = .rp n f
 | .ptr ..,_=>False
 | .h ..,_=>False
 | .ws ..,_=>False
 | .wu ..,_=>False
 | .wp ..,_=>False
 | .junk,y=>y = .junk
def urc7:List AV→List AV→Prop
 | [],m=>m=[]
 | a::l,m=>∃b r,m=b::r∧(a=b∨Eqv a b)∧urc7 l r
def cuc7:RV→RV→Prop
 | .c a,y=>∃b,y = .c b∧(a=b∨Eqv a b)
 | .agg l,y=>∃m,y = .agg m∧urc7 l m
 | _,_=>False
def ppb7:List RV→List RV→Prop
 | [],m=>m=[]
 | a::l,m=>∃b r,m=b::r∧(a=b∨cuc7 a b)∧ppb7 l r
def ksb7:RV→RV→Prop
 | .tup l,y=>∃m,y = .tup m∧ppb7 l m
 | x,y=>cuc7 x y
theorem ad7.eqv {rho:Nat→Prop}{w:World}:∀{x y:AV}{v:Value},ad7 rho w x v→Eqv x y→ad7 rho w y v
 | .sl n sz f,y,v,⟨a,b,off,c,h1,h2,h3,h4,h5⟩,⟨g,e,hg⟩=>by
  subst e
  refine⟨a,b,off,c,h1,h2,h3,h4,fun i hi j hj=>?_⟩
  obtain⟨u,hu,hc⟩:=h5 i hi j hj
  exact⟨u,hu,hc.eqv (hg i hi j hj)⟩
 | .nils,y,v,h,e=>by
  rcases e with rfl | ⟨sz,g,rfl⟩
  ·exact h
  ·exact⟨none,0,0,0,h,Nat.le_refl _,Nat.zero_le _,fun h=>absurd h (Nat.not_lt_zero _),fun i hi=>absurd hi (Nat.not_lt_zero _)⟩
 | .int ..,_,_,h,e=>by cases e;exact h
 | .bool _,_,_,h,e=>by cases e;exact h
 | .flt _,_,_,h,e=>by cases e;exact h
 | .str _,_,_,h,e=>by cases e;exact h
 | .nilp,_,_,h,e=>by cases e;exact h
 | .rp ..,_,_,h,e=>by cases e;exact h
 | .junk,_,_,_,e=>by cases e;trivial
 | .ptr ..,_,_,h,_=>h.elim
 | .h ..,_,_,h,_=>h.elim
theorem ad7.eqv' {rho:Nat→Prop}{w:World}{x y:AV}{v:Value}(h:ad7 rho w x v) (e:x=y∨Eqv x y):ad7 rho w y v:=by
 rcases e with rfl | e
 ·exact h
 ·exact h.eqv e
def li7 (rho:Nat→Prop) (w:World):RV→Value→Prop
 | .c a,v=>ad7 rho w a v
 | .agg l,v=>∃vs:List Value,v = .agg vs.toArray∧ge7 rho w l vs
 | .fn f caps,v=>∃vs:List Value,v = .func (.func f) #[] vs.toArray∧ge7 rho w caps vs
 | .tup _,_=>False
 | .ifc ..,_=>False
def qd7 (rho:Nat→Prop) (w:World):List RV→List Value→Prop
 | [],vs=>vs=[]
 | a::l,vs=>∃v r,vs=v::r∧li7 rho w a v∧qd7 rho w l r
def xg7 (rho:Nat→Prop) (w:World):RV→Value→Prop
 | .tup l,v=>∃vs:List Value,v = .tuple vs.toArray∧qd7 rho w l vs
 | x,v=>li7 rho w x v
section
variable {rho rho':Nat→Prop} {w w':World}
theorem ge7.eqv:∀{l m:List AV}{vs:List Value},ge7 rho w l vs→urc7 l m→ge7 rho w m vs
 | [],_,_,h,e=>by cases e;exact h
 | _::_,_,_,⟨v,r,h,h1,h2⟩,⟨b,m,e,e1,e2⟩=>by subst e;exact⟨v,r,h,h1.eqv' e1,ge7.eqv h2 e2⟩
theorem li7.eqv:∀{x y:RV}{v:Value},li7 rho w x v→cuc7 x y→li7 rho w y v
 | .c _,_,_,h,⟨b,e,e1⟩=>by subst e;exact ad7.eqv' h e1
 | .agg _,_,_,⟨vs,h,h1⟩,⟨m,e,e1⟩=>by subst e;exact⟨vs,h,h1.eqv e1⟩
theorem qd7.eqv:∀{l m:List RV}{vs:List Value},qd7 rho w l vs→ppb7 l m→qd7 rho w m vs
 | [],_,_,h,e=>by cases e;exact h
 | _::_,_,_,⟨v,r,h,h1,h2⟩,⟨b,m,e,e1,e2⟩=>by
  subst e
  refine⟨v,r,h, ?_,qd7.eqv h2 e2⟩
  rcases e1 with rfl | e1
  ·exact h1
  ·exact h1.eqv e1
theorem xg7.eqv {x y:RV}{v:Value}(h:xg7 rho w x v) (e:ksb7 x y):xg7 rho w y v:=by
 cases x with
 | ifc=>exact e.elim
 | tup l =>
  obtain⟨m,rfl,e⟩:=e
  obtain⟨vs,h1,h2⟩:=h
  exact⟨vs,h1,h2.eqv e⟩
 | c a=>obtain⟨b,rfl,e⟩:=e;exact ad7.eqv' h e
 | agg l=>obtain⟨b,rfl,e⟩:=e;obtain⟨vs,h1,h2⟩:=h;exact⟨vs,h1,h2.eqv e⟩
 | fn=>exact e.elim
theorem ge7.keep (hb:∀b,rho b→w'.heap[b]? = w.heap[b]?) (hr:∀b,rho b→rho' b):∀{l:List AV}{vs:List Value},ge7 rho w l vs→ge7 rho' w' l vs
 | [],_,h=>h
 | _::_,_,⟨v,r,h,h1,h2⟩=>⟨v,r,h,h1.keep hb hr,ge7.keep hb hr h2⟩
theorem li7.keep (hb:∀b,rho b→w'.heap[b]? = w.heap[b]?) (hr:∀b,rho b→rho' b):∀{x:RV}{v:Value},li7 rho w x v→li7 rho' w' x v
 | .c _,_,h=>ad7.keep hb hr h
 | .agg _,_,⟨vs,h,h1⟩=>⟨vs,h,h1.keep hb hr⟩
 | .fn ..,_,⟨vs,h,h1⟩=>⟨vs,h,h1.keep hb hr⟩
theorem qd7.keep (hb:∀b,rho b→w'.heap[b]? = w.heap[b]?) (hr:∀b,rho b→rho' b):∀{l:List RV}{vs:List Value},qd7 rho w l vs→qd7 rho' w' l vs
 | [],_,h=>h
 | _::_,_,⟨v,r,h,h1,h2⟩=>⟨v,r,h,h1.keep hb hr,qd7.keep hb hr h2⟩
theorem xg7.keep (hb:∀b,rho b→w'.heap[b]? = w.heap[b]?) (hr:∀b,rho b→rho' b) {x:RV}{v:Value}(h:xg7 rho w x v):xg7 rho' w' x v:=by
 cases x with
 | ifc=>exact h.elim
 | tup l=>obtain⟨vs,h1,h2⟩:=h;exact⟨vs,h1,h2.keep hb hr⟩
 | c a=>exact li7.keep (x:=.c a) hb hr h
 | agg l=>exact li7.keep (x:=.agg l) hb hr h
 | fn f l=>exact li7.keep (x:=.fn f l) hb hr h
variable {M:Mp} {H:List Root}
theorem ge7.up:∀{l:List AV}{vs:List Value},ge7 M.rho w l vs→re7 M H w l vs
 | [],_,h=>h
 | _::_,_,⟨v,r,h,h1,h2⟩=>⟨v,r,h,Con.of0 h1,ge7.up h2⟩
theorem li7.up:∀{x:RV}{v:Value},li7 M.rho w x v→ra7 M H w x v
 | .c _,_,h=>Con.of0 h
 | .agg _,_,⟨vs,h,h1⟩=>⟨vs,h,h1.up⟩
 | .fn ..,_,⟨vs,h,h1⟩=>⟨vs,h,h1.up⟩
theorem qd7.up:∀{l:List RV}{vs:List Value},qd7 M.rho w l vs→sc7 M H w l vs
 | [],_,h=>h
 | _::_,_,⟨v,r,h,h1,h2⟩=>⟨v,r,h,h1.up,qd7.up h2⟩
theorem xg7.up {x:RV}{v:Value}(h:xg7 M.rho w x v):ra7 M H w x v:=by
 cases x with
 | ifc=>exact h.elim
 | tup l=>obtain⟨vs,h1,h2⟩:=h;exact⟨vs,h1,h2.up⟩
 | c a=>exact li7.up (x:=.c a) h
 | agg l=>exact li7.up (x:=.agg l) h
 | fn f l=>exact li7.up (x:=.fn f l) h
end
def be7 (P:Program) (f:FuncId) (args:List RV) (post:RV→Prop):Prop :=
 Enters P f∧∀(rho:Nat→Prop) (w:World) (vs:List Value),qq7 rho w→(∀b,rho b→b<w.heap.size)→qd7 rho w args vs →
  Calls P f vs.toArray w fun e w'=>∃r v rho',e = .returned v∧post r∧xg7 rho' w' r v∧(∀b,rho' b→rho b∨(w.heap.size≤b∧b<w'.heap.size))∧Below w.heap.size w w'
def kmc7 (H:List Root):RV→RV
 | .c a=>.c (frz H a)
 | .agg l=>.agg (hr7 H l)
 | .fn f l=>.fn f (hr7 H l)
 | .tup l=>.tup l
 | .ifc t x=>.ifc t x
def wt7 (H:List Root):List RV→List RV
 | []=>[]
 | a::l=>kmc7 H a::wt7 H l
def xmc7 (H:List Root):RV→RV
 | .tup l=>.tup (wt7 H l)
 | x=>kmc7 H x
def okR (H:List Root):RV→Prop
 | .c a=>if7 H [a]
 | .agg l=>if7 H l
 | .fn _ l=>if7 H l
 | .tup _=>False
 | .ifc .. => False
def zsb7 (H:List Root):List RV→Prop
 | []=>True
 | a::l=>okR H a∧zsb7 H l
def okT (H:List Root):RV→Prop
 | .tup l=>zsb7 H l
 | x=>okR H x
def lkb7 (H:List Root):RV→List Root
 | .c a=>frzH H [a]
 | .agg l=>frzH H l
 | .fn _ l=>frzH H l
 | .tup _=>H
 | .ifc .. => H
def wl7:List Root→List RV→List Root
 | H,[]=>H
 | H,a::l=>wl7 (lkb7 H a) l
section
variable {P:Program} {ty:Ty} {E:Env} {nt:Nat} {M M':Mp} {H:List Root} {σ σ':AS} {a a':Act} {w w':World}
theorem pp7:∀(l:List AV) {H:List Root},(∀id st len,AV.h id st len∈l→∃fz t sz r,aa7 H id = .live fz t sz r)→(∀x,frz (frzH H l) x=frz H x)∧(∀m,if7 H m→if7 (frzH H l) m)∧∀id,(∃fz t sz r,aa7 H id = .live fz t sz r)→∃fz t sz r,aa7 (frzH H l) id = .live fz t sz r
 | [],_,_=>⟨fun _=>rfl,fun _ h=>h,fun _ h=>h⟩
 | a::l,H,h=>by
  have plain:frzH H (a::l)=frzH H l→(∀x,frz (frzH H (a::l)) x=frz H x)∧(∀m,if7 H m→if7 (frzH H (a::l)) m)∧∀id,(∃fz t sz r,aa7 H id = .live fz t sz r)→∃fz t sz r,aa7 (frzH H (a::l)) id = .live fz t sz r:=fun e=>by
   obtain⟨h1,h2,h3⟩:=pp7 l (H:=H) (fun id st len hm=>h id st len (List.mem_cons_of_mem _ hm))
   rw[e]
   exact⟨h1,h2,h3⟩
  cases a with
  | h id st len =>
   obtain⟨fz,t,sz,r,hr⟩:=h id st len (List.mem_cons_self ..)
   have hlive:∀id',(∃fz t sz r,aa7 H id' = .live fz t sz r)→∃fz t sz r,aa7 (da7 H id (aa7 H id).mark) id' = .live fz t sz r:=fun id' ⟨f,t2,s2,r2,h2⟩=>by
    rw[kl7 hr]
    by_cases e:id'=id
    ·exact⟨true,t,sz,r,by rw[if_pos e]⟩
    ·exact⟨f,t2,s2,r2,by rw[if_neg e];exact h2⟩
   obtain⟨h1,h2,h3⟩:=pp7 l (H:=da7 H id (aa7 H id).mark) (fun id' st len hm=>hlive _ (h id' st len (List.mem_cons_of_mem _ hm)))
   exact⟨fun x=>by simp only[frzH];rw[h1,qob7 hr],fun m hm=>h2 m (rn7 hr m hm),fun id' h'=>h3 id' (hlive id' h')⟩
  | _=>exact plain rfl
theorem id7:∀{l:List AV},if7 H l→∀id st len,AV.h id st len∈l→∃fz t sz r,aa7 H id = .live fz t sz r
 | a::l,h,id,st,len,hm=>by
  rcases List.mem_cons.1 hm with rfl | hm2
  ·have:=h.1
   unfold wlb7 at this
   split at this
   ·rename_i fz t sz r hr;exact⟨fz,t,sz,r,hr⟩
   ·exact this.elim
  ·cases a with
   | h=>exact id7 h.2 id st len hm2
   | ptr=>exact h.elim
   | junk=>exact h.elim
   | ws=>exact h.elim
   | wu=>exact h.elim
   | wp=>exact h.elim
   | int=>exact id7 (l:=l) h id st len hm2
   | bool=>exact id7 (l:=l) h id st len hm2
   | flt=>exact id7 (l:=l) h id st len hm2
   | str=>exact id7 (l:=l) h id st len hm2
   | nilp=>exact id7 (l:=l) h id st len hm2
   | nils=>exact id7 (l:=l) h id st len hm2
   | sl=>exact id7 (l:=l) h id st len hm2
   | rp=>exact id7 (l:=l) h id st len hm2
theorem lhb7 {H':List Root}(h:∀x,frz H' x=frz H x):∀l:List AV,hr7 H' l=hr7 H l
 | []=>rfl
 | x::l=>by simp[hr7,h,lhb7 h l]
theorem sz7 {H':List Root}(h:∀x,frz H' x=frz H x):∀l:List RV,wt7 H' l=wt7 H l
 | []=>rfl
 | x::l=>by cases x <;> simp[wt7,kmc7,h,lhb7 h,sz7 h l]
theorem beb7 (h:Rel E M H w) {x:RV}{v:Value}(ho:okR H x) (hc:ra7 M H w x v):∃M',(M'.phi=M.phi∧M'.off=M.off)∧(∀b,M.rho b→M'.rho b)∧Rel E M' (lkb7 H x) w∧Kp M H w M' (lkb7 H x) w∧li7 M'.rho w (kmc7 H x) v ∧
  (∀y,frz (lkb7 H x) y=frz H y)∧(∀m,if7 H m→if7 (lkb7 H x) m):=by
 cases x with
 | ifc=>exact ho.elim
 | c a =>
  obtain⟨M',e1,e2,e3,e4,e5⟩:=yq7 [a] h ho
  obtain⟨f1,f2,-⟩:=pp7 [a] (id7 ho)
  obtain⟨u,r,e,c1,-⟩:=e5 [v] ⟨v,[],rfl,hc,rfl⟩
  cases e
  exact⟨M',e1,e2,e3,e4,c1,f1,f2⟩
 | agg l =>
  obtain⟨M',e1,e2,e3,e4,e5⟩:=yq7 l h ho
  obtain⟨f1,f2,-⟩:=pp7 l (id7 ho)
  obtain⟨vs,rfl,c⟩:=hc
  exact⟨M',e1,e2,e3,e4,⟨vs,rfl,e5 vs c⟩,f1,f2⟩
 | fn f l =>
  obtain⟨M',e1,e2,e3,e4,e5⟩:=yq7 l h ho
  obtain⟨f1,f2,-⟩:=pp7 l (id7 ho)
  obtain⟨vs,rfl,c⟩:=hc
  exact⟨M',e1,e2,e3,e4,⟨vs,rfl,e5 vs c⟩,f1,f2⟩
 | tup l=>exact ho.elim
theorem tu7 {H':List Root}(hm:∀m,if7 H m→if7 H' m):∀{l:List RV},zsb7 H l→zsb7 H' l
 | [],_=>trivial
 | .c _::_,h=>⟨hm _ h.1,tu7 hm h.2⟩
 | .agg _::_,h=>⟨hm _ h.1,tu7 hm h.2⟩
 | .fn .. :: _,h=>⟨hm _ h.1,tu7 hm h.2⟩
theorem ou7:∀(l:List RV) {M:Mp}{H:List Root}{vs:List Value},Rel E M H w→zsb7 H l→sc7 M H w l vs→∃M',(M'.phi=M.phi∧M'.off=M.off)∧(∀b,M.rho b→M'.rho b)∧Rel E M' (wl7 H l) w∧Kp M H w M' (wl7 H l) w∧qd7 M'.rho w (wt7 H l) vs
 | [],M,H,vs,h,_,hc=>⟨M,⟨rfl,rfl⟩,fun _ h=>h,h,Kp.refl _ _ _,hc⟩
 | x::l,M,H,_,h,ho,⟨v,r,e,h1,h2⟩=>by
  subst e
  obtain⟨M1,e1,e2,e3,e4,e5,e6,e7⟩:=beb7 h ho.1 h1
  obtain⟨M2,k1,k2,k3,k4,k5⟩:=ou7 l e3 (tu7 e7 ho.2) (e4.RL h2)
  refine⟨M2,⟨k1.1.trans e1.1,k1.2.trans e1.2⟩,fun b hb=>k2 b (e2 b hb),k3,e4.trans k4,v,r,rfl,e5.keep (fun _ _=>rfl) k2, ?_⟩
  rwa [sz7 e6]at k5
theorem hsb7 (h:Rel E M H w) {x:RV}{v:Value}(ho:okT H x) (hc:ra7 M H w x v):∃M' H',Rel E M' H' w∧xg7 M'.rho w (xmc7 H x) v:=by
 cases x with
 | ifc=>exact ho.elim
 | tup l =>
  obtain⟨vs,rfl,c⟩:=hc
  obtain⟨M',-,-,e3,-,e5⟩:=ou7 l h ho c
  exact⟨M',_,e3,vs,rfl,e5⟩
 | c a=>obtain⟨M',-,-,e3,-,e5,-⟩:=beb7 (x:=.c a) h ho hc;exact⟨M',_,e3,e5⟩
 | agg l=>obtain⟨M',-,-,e3,-,e5,-⟩:=beb7 (x:=.agg l) h ho hc;exact⟨M',_,e3,e5⟩
 | fn f l=>obtain⟨M',-,-,e3,-,e5,-⟩:=beb7 (x:=.fn f l) h ho hc;exact⟨M',_,e3,e5⟩
section
variable (ty)
def igc7 (σ:AS):ResultVar→Vo
 | .tmp t=>((lk σ.tm t).1=true,(lk σ.tm t).2)
 | .cell a t=>((lk σ.tm a).1=true∧(sx7 (ty t) σ.H (lk σ.tm a).2).1,(sx7 (ty t) σ.H (lk σ.tm a).2).2)
def eo7 (σ:AS):List ResultVar→Prop×List RV
 | []=>(True,[])
 | r::l=>((igc7 ty σ r).1∧(eo7 σ l).1,(igc7 ty σ r).2::(eo7 σ l).2)
def one:List RV→RV
 | [x]=>x
 | l=>.tup l
def ldc7 (rs:List ResultVar) (K:RV→List Root→Prop):Exit→AS→Prop
 | .ret,σ=>(eo7 ty σ rs).1∧K (one (eo7 ty σ rs).2) σ.H
 | .normal,σ=>(eo7 ty σ rs).1∧K (one (eo7 ty σ rs).2) σ.H
 | _,_=>False
end
def fgb7 (a:Act):ResultVar→Sem Value
 | .tmp t=>pure (a.tmps.getD t undef)
 | .cell x t=>do loadVar t (← asAddr (a.tmps.getD x undef))
theorem gkc7 (hT:ud7 P ty) (h:St E nt M σ a w) {r:ResultVar}(ho:(igc7 ty σ r).1):∃v,ra7 M σ.H w (igc7 ty σ r).2 v∧(fgb7 a r).run P w = .ok v w:=by
 cases r with
 | tmp t=>exact⟨_,h.tms t ho,rfl⟩
 | cell x t =>
  obtain⟨h1,h2⟩:=ho
  have hc:=h.tms x h1
  obtain⟨v,k1,k2⟩:=mkb7 hT h.rel t hc h2
  refine⟨v,k1, ?_⟩
  have k3:=k2 w Same.refl
  show (do loadVar t (← asAddr (a.tmps.getD x undef)):Sem Value).run P w=_
  obtain⟨u,hu⟩:∃u,u=a.tmps.getD x undef:=⟨_,rfl⟩
  rw[← hu]at k3 ⊢
  clear hu
  cases u <;> first | (simp[Instr.loadAt,Instr.sureAddr,stuck]at k3;done) | skip
  rename_i p
  cases p with
  | none=>simp[Instr.loadAt,Instr.sureAddr,stuck]at k3
  | some ad =>
   simp only[Instr.loadAt,Instr.sureAddr]at k3
   simpa[asAddr]using k3
theorem txb7 (hT:ud7 P ty) (h:St E nt M σ a w):∀(rs:List ResultVar),(eo7 ty σ rs).1→∃vs,sc7 M σ.H w (eo7 ty σ rs).2 vs∧(rs.mapM (fgb7 a)).run P w = .ok vs w
 | [],_=>⟨[],rfl,rfl⟩
 | r::rs,ho=>by
  obtain⟨v,h1,h2⟩:=gkc7 hT h ho.1
  obtain⟨vs,h3,h4⟩:=txb7 hT h rs ho.2
  refine⟨v::vs,⟨v,vs,rfl,h1,h3⟩, ?_⟩
  rw[List.mapM_cons,Sem.run_bind,h2]
  simp only[Result.andThen]
  rw[Sem.run_bind,h4]
  rfl
theorem pv7:∀{l:List RV}{vs:List Value},sc7 M H w l vs→vs.length=l.length
 | [],_,h=>by cases h;rfl
 | _::_,_,⟨v,r,e,_,h⟩=>by subst e;simp[pv7 h]
theorem ni7 (hT:ud7 P ty) (h:St E nt M σ a w) {fn:Func}{rs:List ResultVar}(hr:fn.results.toList=rs) (ho:(eo7 ty σ rs).1):∃v,ra7 M σ.H w (one (eo7 ty σ rs).2) v∧(results fn a.tmps).run P w = .ok v w:=by
 obtain⟨vs,h1,h2⟩:=txb7 hT h rs ho
 have hrun:(results fn a.tmps).run P w = .ok (if h:vs.toArray.size=1 then vs.toArray[0] else .tuple vs.toArray) w:=by
  have hfun:∀f:ResultVar→Sem Value,(∀r,f r=fgb7 a r)→fn.results.mapM f=fn.results.mapM (fgb7 a):=fun f hf=>by rw[funext hf]
  unfold results
  rw[Sem.run_bind,hfun _ (fun r=>by cases r <;> rfl),Array.mapM_eq_mapM_toList,hr]
  have:((List.toArray <$> rs.mapM (fgb7 a)):Sem (Array Value)).run P w = .ok vs.toArray w:=by
   rw[map_eq_pure_bind,Sem.run_bind,h2];rfl
  rw[this]
  rfl
 refine⟨_, ?_,hrun⟩
 have hl:=pv7 h1
 generalize (eo7 ty σ rs).2=l at h1 hl
 match l,vs,h1,hl with
 | [x],[v],⟨v',r,e,c1,c2⟩,_=>cases e;exact c1
 | [],[],h1,_=>exact⟨[],rfl,h1⟩
 | x::y::l,v::u::vs,h1,_ =>
  have:¬(v::u::vs).toArray.size=1:=by simp
  rw[dif_neg this]
  exact⟨_,rfl,h1⟩
def eib7:Nat→List RV→Tm
 | _,[]=>[]
 | k,x::l=>(k,true,x)::eib7 (k+1) l
theorem olb7:∀(l:List RV) (k t:Nat) (vs:List Value),sc7 M H w l vs→(lk (eib7 k l) t).1=true∧(∀v,(k≤t∧vs[t-k]? = some v)→ra7 M H w (lk (eib7 k l) t).2 v)∧((t<k∨k+vs.length≤t)→(lk (eib7 k l) t).2 = .c .junk)
 | [],k,t,vs,h=>by cases h;exact⟨rfl,fun v h=>by simp at h,fun _=>rfl⟩
 | x::l,k,t,_,⟨v,r,e,h1,h2⟩=>by
  subst e
  simp only[eib7,lk]
  by_cases e:k=t
  ·subst e
   rw[if_pos rfl]
   exact⟨rfl,fun u hu=>by simp at hu;subst hu;exact h1,fun h=>by simp at h;omega⟩
  ·rw[if_neg e]
   obtain⟨i1,i2,i3⟩:=olb7 l (k+1) t r h2
   refine⟨i1,fun u ⟨hu1,hu2⟩=>i2 u ⟨by omega, ?_⟩,fun h=>i3 (by simp at h;omega)⟩
   rw[show t-k=(t-(k+1))+1 by omega]at hu2
   simpa using hu2
theorem Rel.env (h:Rel E M H w) (d:List Deferred):Rel ⟨E.W0,E.rho0,d,E.ex,E.exk⟩ M H w:=⟨⟨h.bel.os,h.bel.tape,h.bel.output,h.bel.size,h.bel.block⟩,h.low,h.row,h.froz,h.thaw,h.inj,h.rlt,h.src,h.tau⟩
theorem Rel.env2 {d:List Deferred}(h:Rel ⟨E.W0,E.rho0,d,E.ex,E.exk⟩ M H w):Rel E M H w:=⟨⟨h.bel.os,h.bel.tape,h.bel.output,h.bel.size,h.bel.block⟩,h.low,h.row,h.froz,h.thaw,h.inj,h.rlt,h.src,h.tau⟩
theorem St.enter (h:Rel E M H w) (hdf:E.df=[]) {args:List RV}{vs:List Value}(hc:sc7 M H w args vs) {n:Nat}(hn:args.length≤n):St E n M ⟨eib7 0 args,H⟩ ⟨vs.toArray++Array.replicate (n-vs.toArray.size) undef,[]⟩ w:=by
 have hl:=pv7 hc
 refine⟨h,fun t ht=>?_,fun t ht=>?_,by simp;omega,hdf.symm⟩
 ·obtain⟨i1,i2,i3⟩:=olb7 args 0 t vs hc
  show ra7 M H w (lk (eib7 0 args) t).2 ((vs.toArray++Array.replicate (n-vs.toArray.size) undef).getD t undef)
  by_cases hlt:t<vs.length
  ·have:(vs.toArray++Array.replicate (n-vs.toArray.size) undef).getD t undef=vs[t]:=by
    rw[Array.getD_eq_getD_getElem?,Array.getElem?_append_left (by simpa using hlt)]
    simp[hlt]
   rw[this]
   exact i2 _ ⟨Nat.zero_le _,by simp[hlt]⟩
  ·rw[i3 (.inr (by omega))];trivial
 ·obtain⟨i1,-⟩:=olb7 args 0 t vs hc
  have ht':(lk (eib7 0 args) t).1=false:=ht
  rw[i1]at ht';cases ht'
def wvc7 (post:RV→Prop) (r:RV) (H:List Root):Prop:=okT H r∧∃r',ksb7 (xmc7 H r) r'∧post r'
theorem vc7 (hT : ud7 P ty) (hm : P.follows .mixedOrders = true) {f : FuncId} {fn : Func} {c : Code} (ord : Nat → List Nat × Nat × Option DD) (hf : P.funcs[f]? = some fn) (hb : fn.body = some c) (hname : (fn.name == "runtime.NumGoroutine") = false) {n : Nat} (hnt : fn.ntmps = n) {rs : List ResultVar} (hr : fn.results.toList = rs)
  (hok:okC n ord c=true) {args:List RV} (hn:args.length≤n) {post:RV→Prop}
  (h:awp P ty ord c (ldc7 ty rs (wvc7 post)) ⟨eib7 0 args,[]⟩):be7 P f args post:=by
 refine⟨⟨fn,c,hf,hname,hb⟩,fun rho w vs hgl hrho hc=>calls_of_wp hf hb ?_⟩
 have hrel:Rel (Env.of w rho) ⟨fun _=>0,fun _=>0,rho,fun _=>none⟩ [] w:=⟨Bel.of _ _,fun _ _ _ _ _ h=>(by cases h),fun _ _ _ _ _ h=>(by cases h),fun _ _ _ _ h=>(by cases h),fun _ _ _ _ h=>(by cases h),fun _ _ _ _ _ _ _ _ h=>(by cases h),hrho,⟨fun b hb=>.inl hb,hgl⟩,⟨fun _ _ h=>(by cases h),fun _ _ _ _ _ _ _ h=>(by cases h),fun _ _ _ h=>(by cases h)⟩⟩
 have hst:=St.enter hrel rfl (qd7.up (M:=⟨fun _=>0,fun _=>0,rho,fun _=>none⟩) (H:=[]) hc) (n:=n) hn
 rw[hnt]
 refine wp_mono (vl7 hT hm c hok hst h) fun e a' w' hA=>?_
 rcases hA with ⟨hp,M',σ',q1,q2,q3⟩ | ⟨ch,rfl,-,hP⟩
 case inr=>exact (qa7 hP).elim
 have fin:(eo7 ty σ' rs).1∧(okT σ'.H (one (eo7 ty σ' rs).2)∧∃r',ksb7 (xmc7 σ'.H (one (eo7 ty σ' rs).2)) r'∧post r')→a'.defers=[]∧∃v,(results fn a'.tmps).run P w' = .ok v w'∧∃r v' rho',Ending.returned v = .returned v'∧post r∧xg7 rho' w' r v'∧(∀b,rho' b→rho b∨(w.heap.size≤b∧b<w'.heap.size))∧Below w.heap.size w w':=by
  rintro⟨h1,h2,r',h3,h4⟩
  obtain⟨v,k1,k2⟩:=ni7 hT q1 hr h1
  obtain⟨M2,H2,k3,k4⟩:=hsb7 q1.rel h2 k1
  refine⟨q1.df,v,k2,r',v,M2.rho,rfl,h4,k4.eqv h3,fun b hb=>?_,q1.rel.belN⟩
  rcases k3.src.1 b hb with h | h | h
  ·exact .inl h
  ·exact .inr ⟨h,k3.rlt b hb⟩
  ·exact h.elim
 cases e with
 | normal=>exact fin q3
 | ret=>exact fin q3
 | panic ch=>exact absurd rfl (hp ch)
 | exit id=>exact q3.elim
 | goto l=>exact q3.elim
 | outgrown=>exact q3.elim
def AV.scal:AV→Bool
 | .int .. | .bool _ | .flt _ | .str _ | .nilp | .nils=>true
 | _=>false
def lqb7:List AV→Bool
 | []=>true
 | a::l=>a.scal&&lqb7 l
def ibc7:RV→Bool
 | .c a=>a.scal
 | .agg l=>lqb7 l
 | _=>false
def qz7:List RV→Bool
 | []=>true
 | a::l=>ibc7 a&&qz7 l
def uy7:RV→Bool
 | .tup l=>qz7 l
 | x=>ibc7 x
theorem sob7 {rho rho':Nat→Prop}{x:AV}{v:Value}(hs:x.scal=true) (h:ad7 rho w x v):ad7 rho' w' x v:=by
 cases x <;> first | exact h | cases hs
theorem rgb7 {rho rho':Nat→Prop}:∀{l:List AV}{vs:List Value},lqb7 l=true→ge7 rho w l vs→ge7 rho' w' l vs
 | [],_,_,h=>h
 | _::_,_,hs,⟨v,r,e,h1,h2⟩=>by
  simp only[lqb7,Bool.and_eq_true]at hs
  exact⟨v,r,e,sob7 hs.1 h1,rgb7 hs.2 h2⟩
theorem fw7 {rho rho':Nat→Prop}{x:RV}{v:Value}(hs:ibc7 x=true) (h:li7 rho w x v):li7 rho' w' x v:=by
 cases x with
 | c a=>exact sob7 hs h
 | agg l=>obtain⟨vs,e,h⟩:=h;exact⟨vs,e,rgb7 hs h⟩
 | fn=>cases hs
 | tup=>cases hs
 | ifc=>cases hs
theorem uab7 {rho rho':Nat→Prop}:∀{l:List RV}{vs:List Value},qz7 l=true→qd7 rho w l vs→qd7 rho' w' l vs
 | [],_,_,h=>h
 | _::_,_,hs,⟨v,r,e,h1,h2⟩=>by
  simp only[qz7,Bool.and_eq_true]at hs
  exact⟨v,r,e,fw7 hs.1 h1,uab7 hs.2 h2⟩
theorem bgb7 {rho rho':Nat→Prop}{x:RV}{v:Value}(hs:uy7 x=true) (h:xg7 rho w x v):xg7 rho' w' x v:=by
 cases x with
 | ifc=>cases hs
 | tup l=>obtain⟨vs,e,h⟩:=h;exact⟨vs,e,uab7 hs h⟩
 | c a=>exact fw7 (x:=.c a) hs h
 | agg l=>exact fw7 (x:=.agg l) hs h
 | fn f l=>cases hs
theorem yx7 [Pan] {pu:Pu}{f:FuncId}{args args':List RV}{post:RV→Prop}{K:RV→List Root→Prop}(hp:be7 P f args' post) (ho:zsb7 H args) (he:ppb7 (wt7 H args) args') (hs:∀r,post r→uy7 r=true) (hK:∀r,post r→K r H):lb7 P pu f args H K:=by
 refine⟨hp.1,fun E M w vs h hc=>?_⟩
 obtain⟨M1,e1,e2,e3,e4,e5⟩:=ou7 args h ho hc
 refine (hp.2 M1.rho w vs e3.glob e3.rlt (e5.eqv he)).mono ?_
 rintro e w' ⟨r,v,rho',rfl,h1,h2,h3,h4⟩
 exact .inl ⟨M,H,r,v,rfl,h.below h4,Kp.below h h4,xg7.up (bgb7 (hs r h1) h2),fun _ _=>ef7.below h4,Nat.le_refl _,hK r h1⟩
theorem or7:∀l:List RV,ppb7 l l
 | []=>rfl
 | _::l=>⟨_,_,rfl,.inl rfl,or7 l⟩
theorem pb7 [Pan] {pu:Pu}{f:FuncId}{args args':List RV}{post:RV→Prop}{K:RV→List Root→Prop}(hp:be7 P f args' post) (ho:zsb7 H args) (he:wt7 H args=args') (hs:∀r,post r→uy7 r=true) (hK:∀r,post r→K r H):lb7 P pu f args H K :=
 yx7 hp ho (by rw[he];exact or7 _) hs hK
def op7 (H:List Root):AV→AV
 | .ptr id n i o=>match aa7 H id with
  | .live _ _ sz (.box l)=>.rp (sz-o) (fun j=>nth l (o+j))
  | _=>.junk
 | .h id st len=>frz H (.h id st len)
 | a=>a
def frL:List AV→Bool
 | []=>true
 | a::l=>a.fr&&frL l
def rfb7 (H:List Root):AV→Prop
 | .ptr id n i o=>match aa7 H id with
  | .live _ _ sz (.box l)=>(n=1∧i=0∧l.length=sz)∧frL l=true
  | _=>False
 | .h id st len=>wlb7 H id st len
 | a=>a.fr=true
def cbc7 (H:List Root):List AV→List AV
 | []=>[]
 | a::l=>op7 H a::cbc7 H l
def ycb7 (H:List Root):List AV→Prop
 | []=>True
 | a::l=>rfb7 H a∧ycb7 H l
def qr7 (H:List Root):RV→RV
 | .c a=>.c (op7 H a)
 | .agg l=>.agg (cbc7 H l)
 | .fn f l=>.fn f (cbc7 H l)
 | .tup l=>.tup l
 | .ifc t x=>.ifc t x
def twb7 (H:List Root):RV→Prop
 | .c a=>rfb7 H a
 | .agg l=>ycb7 H l
 | .fn _ l=>ycb7 H l
 | .tup _=>False
 | .ifc .. => False
def ti7 (H:List Root):List RV→List RV
 | []=>[]
 | a::l=>qr7 H a::ti7 H l
def acb7 (H:List Root):List RV→Prop
 | []=>True
 | a::l=>twb7 H a∧acb7 H l
def neb7 (M:Mp) (H:List Root) (b:Nat):Prop:=M.rho b∨∃id fz ty sz r,aa7 H id = .live fz ty sz r∧M.phi id=b
theorem nyb7 {M:Mp}{H:List Root}{w:World}{rho:Nat→Prop}{x:AV}{v:Value}(hx:x.fr=true) (hr:∀b,M.rho b→rho b) (h:Con M H w x v):ad7 rho w x v:=by
 cases x <;> first | (cases hx;done) | exact ad7.keep (fun _ _=>rfl) hr h
theorem zec7:∀{l:List AV}{j:Nat},frL l=true→j<l.length→(nth l j).fr=true
 | a::l,0,h,_=>by simp only[frL,Bool.and_eq_true]at h;exact h.1
 | a::l,j+1,h,hj=>by simp only[frL,Bool.and_eq_true]at h;exact zec7 (l:=l) h.2 (by simpa using hj)
theorem mwb7 (h:Rel E M H w) {x:AV}{v:Value}(ho:rfb7 H x) (hc:Con M H w x v):ad7 (neb7 M H) w (op7 H x) v:=by
 cases x with
 | ptr id n i o =>
  simp only[rfb7]at ho
  simp only[op7]
  split at ho
  ·rename_i fz t sz l hr
   obtain⟨⟨rfl,rfl,hl⟩,hf⟩:=ho
   have hv:=(hc.2 _ _ _ _ hr).2 rfl
   obtain⟨cur,c1,c2,c3,c4,c5,c6⟩:=h.row _ _ _ _ _ hr
   refine⟨M.phi id,M.off id+o,by rw[hv];simp,.inr ⟨id,fz,t,sz,_,hr,rfl⟩,fun j hj=>?_⟩
   obtain⟨u,u1,u2,u3⟩:=c6 0 Nat.one_pos (o+j) (by omega)
   have u3:Con M H w (nth l (o+j)) u:=u3
   refine⟨u, ?_,nyb7 (zec7 hf (by omega)) (fun _=>.inl) u3⟩
   simp only[World.cell?,c1]
   rw[Nat.add_assoc]
   simpa using u1
  ·exact ho.elim
 | h id st len =>
  simp only[rfb7,wlb7]at ho
  split at ho
  ·rename_i fz t sz r hr
   obtain⟨e,hb⟩:=ho
   show ad7 _ w (frz H (.h id st len)) v
   simp only[frz,hr]
   obtain⟨cap,cur,ad,rfl,k1,k2,k3,k4,k7⟩:=(hc.2 _ _ _ _ hr).2 e
   obtain⟨cur2,c1,c2,c3,c4,c5,c6⟩:=h.row _ _ _ _ _ hr
   refine⟨_,M.phi id,M.off id+st*sz,cap,rfl,k1,k2,fun _=>⟨congrArg some (k7 (by omega)),.inr ⟨id,fz,t,sz,r,hr,rfl⟩⟩,fun i hi j hj=>?_⟩
   obtain⟨u,u1,u2,u3⟩:=c6 (st+i) (by omega) j hj
   unfold xj7 at u3
   rw[hb]at u3
   refine⟨u, ?_,ad7.keep (fun _ _=>rfl) (fun _=>.inl) (by simpa using u3)⟩
   rw[show M.off id+st*sz+i*sz+j=M.off id+(st+i)*sz+j by rw[Nat.add_mul];omega]
   simp[World.cell?,c1,u1]
  ·exact ho.elim
 | _=>exact nyb7 ho (fun _=>.inl) hc
theorem udb7 (h:Rel E M H w):∀{l:List AV}{vs:List Value},ycb7 H l→re7 M H w l vs→ge7 (neb7 M H) w (cbc7 H l) vs
 | [],_,_,hc=>hc
 | _::_,_,ho,⟨v,r,e,h1,h2⟩=>⟨v,r,e,mwb7 h ho.1 h1,udb7 h ho.2 h2⟩
theorem jcc7 (h:Rel E M H w) {x:RV}{v:Value}(ho:twb7 H x) (hc:ra7 M H w x v):li7 (neb7 M H) w (qr7 H x) v:=by
 cases x with
 | c a=>exact mwb7 h ho hc
 | agg l=>obtain⟨vs,e,hc⟩:=hc;exact⟨vs,e,udb7 h ho hc⟩
 | fn f l=>obtain⟨vs,e,hc⟩:=hc;exact⟨vs,e,udb7 h ho hc⟩
 | tup=>exact ho.elim
 | ifc=>exact ho.elim
theorem ugb7 (h:Rel E M H w):∀{l:List RV}{vs:List Value},acb7 H l→sc7 M H w l vs→qd7 (neb7 M H) w (ti7 H l) vs
 | [],_,_,hc=>hc
 | _::_,_,ho,⟨v,r,e,h1,h2⟩=>⟨v,r,e,jcc7 h ho.1 h1,ugb7 h ho.2 h2⟩
theorem pi7 [Pan] {pu:Pu}{f:FuncId}{args args':List RV}{post:RV→Prop}{K:RV→List Root→Prop}(hp:be7 P f args' post) (ho:acb7 H args) (he:ti7 H args=args') (hs:∀r,post r→uy7 r=true) (hK:∀r,post r→K r H):lb7 P pu f args H K:=by
 refine⟨hp.1,fun E M w vs h hc=>?_⟩
 have e5:=ugb7 h ho hc
 rw[he]at e5
 refine (hp.2 (neb7 M H) w vs (h.glob.mono fun _=>.inl) (fun b hb=>?_) e5).mono ?_
 ·rcases hb with hb | ⟨id,fz,t,sz,r,hr,rfl⟩
  ·exact h.rlt b hb
  ·exact h.lt hr
 ·rintro e w' ⟨r,v,rho',rfl,h1,h2,h3,h4⟩
  exact .inl ⟨M,H,r,v,rfl,h.below h4,Kp.below h h4,xg7.up (bgb7 (hs r h1) h2),fun _ _=>ef7.below h4,Nat.le_refl _,hK r h1⟩
theorem zz7:∀(l:List RV) (H:List Root),(wl7 H l).length=H.length
 | [],_=>rfl
 | x::l,H=>by
  simp only[wl7]
  rw[zz7 l]
  cases x <;> simp[lkb7,pn7]
theorem hic7 [Pan] {pu:Pu}{f:FuncId}{args args':List RV}{post:RV→Prop}{K:RV→List Root→Prop}(hp:be7 P f args' post) (ho:zsb7 H args) (he:ppb7 (wt7 H args) args') (hK:∀r,post r→K r (wl7 H args)):lb7 P pu f args H K:=by
 refine⟨hp.1,fun E M w vs h hc=>?_⟩
 obtain⟨M1,e1,e2,e3,e4,e5⟩:=ou7 args h ho hc
 refine (hp.2 M1.rho w vs e3.glob e3.rlt (e5.eqv he)).mono ?_
 rintro e w' ⟨r,v,rho',rfl,h1,h2,h3,h4⟩
 have h5:=e3.below h4
 have h6:=Kp.below e3 h4
 have hkp:Kp M1 (wl7 H args) w' ⟨M1.phi,M1.off,fun b=>M1.rho b∨(w.heap.size≤b∧b<w'.heap.size),M1.tau⟩ (wl7 H args) w':=by
  intro x v c
  cases x with
  | ptr=>exact c
  | h=>exact c
  | ws=>exact c
  | wu=>exact c
  | wp=>exact c
  | junk=>trivial
  | _=>exact ad7.keep (fun _ _=>rfl) (fun _ h=>.inl h) c
 refine .inl ⟨⟨M1.phi,M1.off,fun b=>M1.rho b∨(w.heap.size≤b∧b<w'.heap.size),M1.tau⟩,wl7 H args,r,v,rfl, ?_,(e4.trans h6).trans hkp,xg7.up (xg7.keep (fun _ _=>rfl) h3 h2),fun _ _=>ef7.below h4,by rw[zz7];exact Nat.le_refl _,hK r h1⟩
 refine⟨h5.bel,h5.low,fun id fz t sz q hr=>(h5.row id fz t sz q hr).keep hkp (fun _ _=>rfl) (fun _ h=>.inl h) rfl,fun id t sz q hr=>.inl (h5.froz id t sz q hr),fun id t sz q hr=>?_,h5.inj,fun b hb=>?_,⟨fun b hb=>?_,h5.src.2.mono fun _=>.inl⟩,h5.tau.keep rfl (fun _ _ _=>rfl) (fun b q hq=>?_) h5.tau.row⟩
 ·rintro (hb | ⟨hb,-⟩)
  ·exact h5.thaw id t sz q hr hb
  ·have hlt:M1.phi id<w.heap.size:=e3.lt hr
   have hb:w.heap.size≤M1.phi id:=hb
   omega
 ·rcases hb with hb | ⟨-,hb⟩
  ·exact h5.rlt b hb
  ·exact hb
 ·rcases hb with hb | ⟨hb,-⟩
  ·exact h5.src.1 b hb
  ·exact .inr (.inl (Nat.le_trans e3.bel.size hb))
 ·rintro (hb | ⟨hb,-⟩)
  ·exact (h5.tau.new b q hq).2 hb
  ·have:=e3.tau.lt hq;omega
def kB (P:Program) (ty:Ty) (t:TypeId):TyK→Bool
 | .i k=>match P.underlying t with
  | some (.int k')=>decide (k=k')
  | _=>false
 | .b=>match P.underlying t with
  | some .bool=>true
  | _=>false
 | .str=>match P.underlying t with
  | some .string=>true
  | _=>false
 | .sc=>match P.underlying t with
  | some (.struct _)=>false
  | some (.array ..)=>false
  | some _=>true
  | none=>false
 | .st fs=>match P.underlying t with
  | some (.struct fields)=>decide (fields.toList.map (fun f=>(f.offset,P.cellsOf f.type))=fs)&&fields.toList.all (fun f=>(P.info? f.type).isSome)
  | _=>false
 | .ar n esz=>match P.underlying t with
  | some (.array n' e)=>decide (n=n')&&decide (P.cellsOf e=esz)&&(P.info? e).isSome
  | _=>false
 | .sl e=>match P.underlying t with
  | some (.slice e')=>decide (e=e')&&(match (ty e).k with | .no=>false | _=>true)
  | _=>false
 | .no=>true
def tyB (P:Program) (ty:Ty) (t:TypeId):Bool :=
 kB P ty t (ty t).k&&(match (ty t).k with
  | .no=>true
  | _=>match P.info? t with
   | some i=>decide (i.size=(ty t).sz)&&decide (i.bytes=(ty t).bytes)&&(match i.zero with
    | some z=>zvL (ty t).zero z.cells.toList&&decide (z.cells.size=(ty t).sz)
    | none=>false)
   | none=>false)
theorem fvc7 {t:TypeId}:∀{k:TyK},kB P ty t k=true→kOk P ty t k
 | .i k,h=>by
  simp only[kB]at h
  split at h
  ·rename_i k' hu;simp only[decide_eq_true_eq]at h;subst h;exact hu
  ·cases h
 | .b,h=>by
  simp only[kB]at h
  split at h
  ·rename_i hu;exact hu
  ·cases h
 | .str,h=>by
  simp only[kB]at h
  split at h
  ·rename_i hu;exact hu
  ·cases h
 | .sc,h=>by
  simp only[kB]at h
  split at h
  ·cases h
  ·cases h
  ·rename_i d h1 h2 hu
   refine⟨d,hu, ?_⟩
   cases d <;> first | trivial | (exact h1 _ rfl) | (exact h2 _ _ rfl)
  ·cases h
 | .st fs,h=>by
  simp only[kB]at h
  split at h
  ·rename_i fields hu
   simp only[Bool.and_eq_true,decide_eq_true_eq,List.all_eq_true]at h
   exact⟨fields,hu,h.1,h.2⟩
  ·cases h
 | .ar n esz,h=>by
  simp only[kB]at h
  split at h
  ·rename_i n' e hu
   simp only[Bool.and_eq_true,decide_eq_true_eq]at h
   obtain⟨⟨rfl,h2⟩,h3⟩:=h
   exact⟨e,hu,h2,h3⟩
  ·cases h
 | .sl e,h=>by
  simp only[kB]at h
  split at h
  ·rename_i e' hu
   simp only[Bool.and_eq_true,decide_eq_true_eq]at h
   obtain⟨rfl,h2⟩:=h
   exact⟨hu,by split at h2 <;> first | (cases h2;done) | (split <;> simp_all)⟩
  ·cases h
 | .no,_=>trivial
theorem soc7 {t:TypeId}(h:tyB P ty t=true):umc7 P ty t:=by
 unfold tyB at h
 rw[Bool.and_eq_true]at h
 obtain⟨h1,h2⟩:=h
 refine⟨fvc7 h1, ?_⟩
 cases hk:(ty t).k
 case no=>trivial
 all_goals
  rw[hk]at h2
  simp only at h2
  split at h2
  ·rename_i i hi
   simp only[Bool.and_eq_true,decide_eq_true_eq]at h2
   obtain⟨⟨h3,h4⟩,h5⟩:=h2
   split at h5
   ·rename_i z hz
    simp only[Bool.and_eq_true,decide_eq_true_eq]at h5
    exact⟨i,z,hi,h3,h4,hz,h5.1,h5.2⟩
   ·cases h5
  ·cases h2
theorem jjc7 {n:Nat}(h:(List.range n).all (tyB P ty)=true) (h2:∀t,n≤t→(ty t).k = .no):ud7 P ty:=by
 intro t
 by_cases e:t<n
 ·exact soc7 (List.all_eq_true.1 h t (List.mem_range.2 e))
 ·exact⟨by rw[h2 t (Nat.le_of_not_lt e)];trivial,by rw[h2 t (Nat.le_of_not_lt e)];trivial⟩
end
section
variable {P:Program} {ty:Ty} {ord:Nat→List Nat×Nat×Option DD} {Q:Exit→AS→Prop} {K:AS→Prop} {σ:AS} {nf:Nat} {ops:Array Oper} {o:Oper} {l:List Oper} {pu:Pu} {tm:Tm} {rd:Operand→Bool×RV} {H:List Root}
theorem cic7 (g:Bool):gOk g []=True:=rfl
theorem ftc7 (g:Bool) (l:List Bool):gOk g (true::l)=gOk g l:=by simp[gOk]
theorem xtc7 (g:Bool) (l:List Bool):gOk g (g::l)=gOk g l:=by simp[gOk]
theorem wuc7 (g h:Bool) (l:List Bool):gOk (g&&h) (h::l)=gOk (g&&h) l:=by cases g <;> cases h <;> simp[gOk]
theorem kuc7 (g h:Bool) (l:List Bool):gOk (g&&h) (g::l)=gOk (g&&h) l:=by cases g <;> cases h <;> simp[gOk]
theorem xsc7 (b c:Bool):ktc7 b c false=(b&&c):=by cases b <;> rfl
theorem awc7 (b c:Bool):ktc7 b true c=(b || c):=by cases b <;> rfl
theorem rjb7 [Pan] {pu:Pu}{f:FuncId}{a a':List RV}{H H':List Root}{K:RV→List Root→Prop}(h:a=a') (h2:H=H'):lb7 P pu f a H K=lb7 P pu f a' H' K:=by rw[h,h2]
theorem lpc7 [Pan]:awp P ty ord .skip Q σ=Q .normal σ:=rfl
theorem mtc7 [Pan] {id:Nat}:awp P ty ord (.region id ops true) Q σ=zkc7 P ty ops (ord id) (Q .normal) σ:=rfl
theorem olc7 [Pan] {id:Nat}:awp P ty ord (.region id ops false) Q σ=rq7 P ty ops.toList.length none ops ops.toList (Q .normal) σ:=rfl
theorem zuc7 [Pan] {a b:Code}:awp P ty ord (.seq a b) Q σ=awp P ty ord a (bm7 (awp P ty ord b Q) Q) σ:=rfl
theorem sqc7 [Pan] {x:Operand}{a b:Code}:awp P ty ord (.cond x a b) Q σ=mdb7 (σ.rd x) (awp P ty ord a Q σ) (awp P ty ord b Q σ):=rfl
theorem khc7 [Pan] {id:Nat}{a:Code}:awp P ty ord (.block id a) Q σ=awp P ty ord a (inB id Q) σ:=rfl
theorem mlc7 [Pan] {id:Nat}:awp P ty ord (.exit id) Q σ=Q (.exit id) σ:=rfl
theorem bwc7 [Pan]:awp P ty ord .ret Q σ=Q .ret σ:=rfl
theorem wxc7 [Pan] {n:Nat}{l:List Nat}:zkc7 P ty ops (l,n,none) K σ=gkb7 P ty ops (l,n,none) K σ:=rfl
theorem pzc7 [Pan] {n k:Nat}{l:List Nat}:zkc7 P ty ops (l,n,some (.r k)) K σ=gkb7 P ty ops (l,n,some k) K σ:=rfl
theorem iyc7 [Pan] {n:Nat}{l ks r fins:List Nat}{T:Tw}:zkc7 P ty ops (l,n,some (.t ks T r fins)) K σ=(lx7 σ.H ks∧aeb7 ty ops ks (pick ops l) (an7 P ty ops σ.H r T K) σ):=rfl
theorem kzc7 [Pan] {n:Nat}{dd:Option Nat}:gkb7 P ty ops ([],n,dd) K σ=rq7 P ty n dd ops ops.toList K σ:=rfl
theorem qyc7 [Pan] {n i:Nat}{is:List Nat}{dd:Option Nat}:gkb7 P ty ops (i::is,n,dd) K σ=rq7 P ty n dd ops (pick ops (i::is)) K σ:=rfl
theorem myc7 {ks:List Nat}:aeb7 ty ops ks [] K σ=K σ:=rfl
theorem ayc7 {ks:List Nat}{l:List Oper}:aeb7 ty ops ks (o::l) K σ=nkb7 ty (guardOf σ.tm ops o.guard) ks σ o (aeb7 ty ops ks l K):=rfl
theorem kxc7 [Pan] {H0:List Root}{r:List Nat}:an7 P ty ops H0 r .d K σ=rq7 P ty r.length none ops (pick ops r) K σ:=rfl
theorem jzc7 [Pan] {H0:List Root}{r:List Nat}:an7 P ty ops H0 r .no K σ=True:=rfl
theorem vyc7 {H:List Root}:killL [] H=H:=rfl
theorem wzc7 {k:Nat}{ks:List Nat}{H:List Root}:killL (k::ks) H=killL ks (da7 H k .dead):=rfl
theorem uxc7 {H:List Root}:lx7 H []=True:=rfl
theorem nzc7 {k:Nat}{ks:List Nat}{H:List Root}:lx7 H (k::ks)=(doc7 (aa7 H k)∧lx7 H ks):=rfl
theorem jtc7 [Pan] {dd:Option Nat}:rq7 P ty nf dd ops [] K σ=K σ:=rfl
theorem cpc7 [Pan] {dd:Option Nat}:rq7 P ty nf dd ops (o::l) K σ=ip7 P ty (swb7 nf l.length dd) dd ops σ o (rq7 P ty nf dd ops l K):=rfl
def lkc7:Option (List CK)→Bool
 | some (_::_)=>false
 | _=>true
def ksc7 (ty:Ty) (k:TyK):Bool :=
 match k with
 | .sl e=>lkc7 (ty e).wk
 | _=>true
theorem tyc7 {n:Nat}{dd:Option Nat}:isW (swb7 nf n dd)=(n<nf):=by
 unfold swb7 isW
 by_cases h:nf≤n
 ·rw[if_pos h];exact propext ⟨fun h=>h.elim,fun h2=>by omega⟩
 ·rw[if_neg h];exact propext ⟨fun _=>by omega,fun _=>trivial⟩
theorem lvc7 {n:Nat}{dd:Option Nat}{x:RV}:wOn (swb7 nf n dd) x=(n<nf∨wD dd x):=by
 unfold swb7
 by_cases h:nf≤n
 ·rw[if_pos h];exact propext ⟨.inr,fun h2=>h2.elim (fun h3=>by omega) id⟩
 ·rw[if_neg h];exact propext ⟨fun _=>.inl (by omega),fun _=>trivial⟩
theorem lzc7 {x:RV}:wD none x=False:=rfl
theorem byc7 {k id m i o:Nat}:wD (some k) (.c (.ptr id m i o))=(id=k):=rfl
theorem pvc7 {n:Nat}{dd:Option Nat}{b:Bool}{x:RV}:wAp (swb7 nf n dd) b x=(n<nf∨wAp (some dd) b x):=by
 unfold swb7
 by_cases h:nf≤n
 ·rw[if_pos h];exact propext ⟨.inr,fun h2=>h2.elim (fun h3=>by omega) id⟩
 ·rw[if_neg h];exact propext ⟨fun _=>.inl (by omega),fun _=>trivial⟩
theorem rmc7 {b:Bool}{x:RV}:wAp none b x=True:=by cases b <;> rfl
theorem rtc7 {x:RV}:wOn none x=True:=rfl
theorem utc7 {g:Option Nat}{x:RV}:wOn (some g) x=wD g x:=rfl
theorem kvc7 {g:Option Nat}:wAp (some g) true (.c .nils)=True:=rfl
theorem ntc7 {g:Option Nat}{id st n:Nat}:wAp (some g) true (.c (.h id st n))=aD g (.c (.h id st n)):=rfl
theorem yxc7 {k id st n:Nat}:aD (some k) (.c (.h id st n))=(id=k):=rfl
theorem vzc7 {x:RV}:aD none x=False:=rfl
theorem gwc7 {e:TypeId}:ksc7 ty (.sl e)=lkc7 (ty e).wk:=rfl
theorem aqc7:lkc7 none=true:=rfl
theorem elc7:lkc7 (some [])=true:=rfl
theorem bqc7 {c:CK}{cs:List CK}:lkc7 (some (c::cs))=false:=rfl
theorem hwc7 {t:TypeId}:nwk ty t=ksc7 ty (ty t).k:=by
 unfold nwk ksc7 lkc7
 cases (ty t).k with
 | sl e=>rfl
 | _=>rfl
theorem mzc7 [Pan] {dd:Option Nat}:ip7 P ty pu dd ops σ o K=if isV o.op=true then peb7 ty (guardOf σ.tm ops o.guard) dd σ o K else stb dd (iob7 σ.H)∧ypc7 P ty (guardOf σ.tm ops o.guard) pu σ o K:=rfl
theorem usc7 {A:Nat→Prop}:stb none A=True:=rfl
theorem nvc7 {A:Nat→Prop}{k:Nat}:stb (some k) A=A k:=rfl
theorem vsc7 [Pan] {g:Bool}:ypc7 P ty (some g) pu σ o K=(gOk g (vy7 σ.rd o.op)∧zic7 g (eff P ty pu σ.tm σ.rd σ.H o K) (K ⟨uf7 σ.tm g o.dst (.c .junk),σ.H⟩)):=rfl
theorem kpb7 {g g':Bool}{A B:Prop}(h:g=g'):zic7 g A B=zic7 g' A B:=by rw[h]
theorem nxc7 {A B:Prop}:zic7 true A B=A:=by simp[zic7]
theorem txc7 {g:Bool}{A B:Prop}:zic7 g A B=((g=true→A)∧(g=false→B)):=rfl
def putV (g:Bool) (tm:Tm) (H:List Root) (d:Option Nat) (q:Vo) (K:AS→Prop):Prop:=(g=true→q.1)∧K ⟨uf7 tm g d q.2,H⟩
theorem gtc7 {g:Bool}{dd:Option Nat}:peb7 ty (some g) dd σ o K=(gOk g (vy7 σ.rd o.op)∧stb dd (fun k=>iob7 σ.H k∧(g=true→(opV ty g σ.rd (da7 σ.H k .dead) o.op).1))∧putV g σ.tm σ.H o.dst (opV ty g σ.rd σ.H o.op) K):=rfl
theorem gmc7 {d:Option Nat}{p:Prop}{v:RV}:putV true tm H d (p,v) K=(p∧K ⟨uf7 tm true d v,H⟩):=by simp[putV]
theorem hrc7 {g:Bool}{d:Option Nat}{p:Prop}{v:RV}:putV g tm H d (p,v) K=((g=true→p)∧K ⟨uf7 tm g d v,H⟩):=rfl
theorem klc7 {g:Bool}{d:Option Nat}:putV g tm H d no K=((g=true→False)∧K ⟨uf7 tm g d (.c .junk),H⟩):=rfl
theorem hoc7 {t:Nat}{g:Bool}{v:RV}:uf7 tm g (some t) v=(t,g,v)::tm:=rfl
theorem brc7 {g:Bool}{v:RV}:uf7 tm g none v=tm:=rfl
section
variable {d:Option Nat} {t:TypeId} {p:String} {af:Array Edge} {gd:Option (Nat×Bool)}
theorem puc7 [Pan] {u:TypeId}{x:Operand}:eff P ty pu tm rd H ⟨d,.box u x,t,p,af,gd⟩ K=(((ob7 (rd x).2).length=(ty u).sz∧0<(ty u).sz∧njL (ob7 (rd x).2)=true)∧K ⟨uf7 tm true d (.c (.ptr H.length 1 0 0)),H++[.live false u (ty u).sz (.box (ob7 (rd x).2))]⟩):=rfl
theorem yhc7 [Pan] {u:TypeId}:eff P ty pu tm rd H ⟨d,.alloc u,t,p,af,gd⟩ K=((0<(ty u).sz∧kN (ty u).k)∧K ⟨uf7 tm true d (.c (.ptr H.length 1 0 0)),H++[.live false u (ty u).sz (.box (ty u).zero)]⟩):=rfl
theorem sgc7 [Pan] {u:TypeId}{x v:Operand}:eff P ty pu tm rd H ⟨d,.store u x v,t,p,af,gd⟩ K=(wOn pu (rd x).2∧tkc7 (ty u) H (rd x).2 (rd v).2 (fun H=>K ⟨uf7 tm true d (.c .junk),H⟩)):=rfl
def xkc7 (wk:Option (List CK)) (ty:Ty) (e:TypeId) (H:List Root) (n:Nat) (q:Prop×List AV) (K:RV→List Root→Prop):Prop :=
 match wk with
 | none=>okc7 ty e H n q K
 | some []=>smc7 ty e H n q K
 | some (c::cs)=>qsc7 ty e (c::cs) n q (fun r=>K r H)
theorem xuc7 {e:TypeId}{n:Nat}{q:Prop×List AV}{K:RV→List Root→Prop}:xkc7 none ty e H n q K=okc7 ty e H n q K:=rfl
theorem ctc7 {c:CK}{cs:List CK}{e:TypeId}{n:Nat}{q:Prop×List AV}{K:RV→List Root→Prop}:xkc7 (some (c::cs)) ty e H n q K=qsc7 ty e (c::cs) n q (fun r=>K r H):=rfl
theorem htc7 {e:TypeId}{n:Nat}{q:Prop×List AV}{K:RV→List Root→Prop}:xkc7 (some []) ty e H n q K=smc7 ty e H n q K:=rfl
theorem nyc7 {k:TyK}{z:List AV}{n:Nat}:yi7 none k z n=zeros k z n:=rfl
theorem oxc7 {c:CK}{cs:List CK}{k:TyK}{z:List AV}{n:Nat}:yi7 (some (c::cs)) k z n=zeros k z n:=rfl
theorem tzc7 {k:TyK}{z:List AV}{n:Nat}:yi7 (some []) k z n = .own (List.replicate n z):=rfl
def zrc7 (wk:Option (List CK)) (ty:Ty) (e:TypeId) (H:List Root) (s x:RV) (K:RV→List Root→Prop):Prop :=
 match wk with
 | none=>wqb7 ty (.sl e) H s x K
 | some []=>wqb7 ty (.sl e) H s x K
 | some (c::cs)=>appW ty e (c::cs) s x (fun r=>K r H)
theorem nuc7 {e:TypeId}{s x:RV}{K:RV→List Root→Prop}:ecc7 ty (.sl e) H s x K=zrc7 (ty e).wk ty e H s x K:=rfl
theorem buc7 {e:TypeId}{s x:RV}{K:RV→List Root→Prop}:zrc7 none ty e H s x K=wqb7 ty (.sl e) H s x K:=rfl
theorem nwc7 {c:CK}{cs:List CK}{e:TypeId}{s x:RV}{K:RV→List Root→Prop}:zrc7 (some (c::cs)) ty e H s x K=appW ty e (c::cs) s x (fun r=>K r H):=rfl
theorem ttc7 {e:TypeId}{s x:RV}{K:RV→List Root→Prop}:zrc7 (some []) ty e H s x K=wqb7 ty (.sl e) H s x K:=rfl
def kwc7 (ty:Ty) (k:TyK) (rd:Operand→Bool×RV) (H:List Root) (n:Nat) (ps:List (Nat×Operand)) (K:RV→List Root→Prop):Prop :=
 match k with
 | .sl e=>xkc7 (ty e).wk ty e H n (bf7 (fun i=>(i*(ty e).sz,(ty e).sz)) rd (rep (ty e).zero n) ps) K
 | _=>False
theorem dwc7 [Pan] {u:TypeId}{n:Nat}{ps:Array (Nat×Operand)}:eff P ty pu tm rd H ⟨d,.buildSlice u n ps,t,p,af,gd⟩ K=kwc7 ty (ty u).k rd H n ps.toList (fun r H=>K ⟨uf7 tm true d r,H⟩):=by
 unfold eff kwc7
 dsimp only
 cases (ty u).k with
 | sl e =>
  unfold xkc7
  dsimp only
  match (ty e).wk with
  | none=>rfl
  | some []=>rfl
  | some (_::_)=>rfl
 | _=>rfl
theorem dlc7 {e:TypeId}{n:Nat}{ps:List (Nat×Operand)}{K:RV→List Root→Prop}:kwc7 ty (.sl e) rd H n ps K=xkc7 (ty e).wk ty e H n (bf7 (fun i=>(i*(ty e).sz,(ty e).sz)) rd (rep (ty e).zero n) ps) K:=rfl
theorem nmc7 [Pan] {u:TypeId}{x y:Operand}:eff P ty pu tm rd H ⟨d,.makeSlice u x y,t,p,af,gd⟩ K=kyb7 ty (ty u).k H (rd x).2 (rd y).2 (fun r H=>K ⟨uf7 tm true d r,H⟩):=rfl
theorem qtc7 [Pan] {x y:Operand}{u v:TypeId}:eff P ty pu tm rd H ⟨d,.call ⟨.builtin .append, #[x,y], #[u,v]⟩,t,p,af,gd⟩ K=(wAp pu (nwk ty u) (rd x).2∧apK ty (strOf (rd y).2) [u,v] u v H (rd x).2 (rd y).2 (fun r H=>K ⟨uf7 tm true d r,H⟩)):=rfl
theorem yzc7 {b:ByteArray}{ts:List TypeId}{u v:TypeId}{s x:RV}{K:RV→List Root→Prop}:apK ty (some b) ts u v H s x K=((ts=[u,v]∧(ty v).k = .str)∧onc7 ty (ty u).k H s b K):=rfl
theorem gzc7 {ts:List TypeId}{u v:TypeId}{s x:RV}{K:RV→List Root→Prop}:apK ty none ts u v H s x K=(ts=[u,u]∧ecc7 ty (ty u).k H s x K):=rfl
def qwc7 [Pan] (P:Program) (pu:Pu) (f:RV) (zs:List RV) (H:List Root) (K:RV→List Root→Prop):Prop :=
 match f with
 | .fn f caps=>lb7 P pu f (zs++caps.map .c) H K
 | _=>False
theorem upc7 [Pan] {x:Operand}{zs:Array Operand}{ts:Array TypeId}:eff P ty pu tm rd H ⟨d,.call ⟨.value x,zs,ts⟩,t,p,af,gd⟩ K=qwc7 P pu (rd x).2 (rds rd zs.toList) H (fun r H=>K ⟨uf7 tm true d r,H⟩):=rfl
theorem ltc7 [Pan] {u:TypeId}{x:Operand}{f:Nat}:eff P ty pu tm rd H ⟨d,.field u x f,t,p,af,gd⟩ K=psc7 (rlc7 P u f (rd x).2) (fun r=>K ⟨uf7 tm true d r,H⟩):=rfl
theorem etc7 [Pan] {u:TypeId}{x:Operand}:eff P ty pu tm rd H ⟨d,.makeInterface u x,t,p,af,gd⟩ K=(mgc7 P u=true∧K ⟨uf7 tm true d (.ifc u (rd x).2),H⟩):=rfl
theorem ivc7 [Pan] {x:Operand}:eff P ty pu tm rd H ⟨d,.panic x,t,p,af,gd⟩ K=rsc7 (rd x).2 H:=rfl
theorem zxc7 [Pan] {u:TypeId}{x:RV}:rsc7 (.ifc u x) H=Pan.px (.ifc u x) H:=rfl
theorem sxc7 {r:RV}{K:RV→Prop}:psc7 (some r) K=K r:=rfl
theorem iuc7 [Pan] {f:FuncId}{caps:List AV}{zs:List RV}{K:RV→List Root→Prop}:qwc7 P pu (.fn f caps) zs H K=lb7 P pu f (zs++caps.map .c) H K:=rfl
end
theorem cwc7 {k:IntKind}{n:Int}{p:RV→Prop}:(∃r,ksb7 (.c (.int k n)) r∧p r)=p (.c (.int k n)):=propext ⟨fun ⟨_,⟨_,e,e2⟩,h⟩=>by subst e;rcases e2 with e2 | e2 <;> (subst e2;exact h),fun h=>⟨_,⟨_,rfl,.inl rfl⟩,h⟩⟩
theorem nrc7 {b:Bool}{p:RV→Prop}:(∃r,ksb7 (.c (.bool b)) r∧p r)=p (.c (.bool b)):=propext ⟨fun ⟨_,⟨_,e,e2⟩,h⟩=>by subst e;rcases e2 with e2 | e2 <;> (subst e2;exact h),fun h=>⟨_,⟨_,rfl,.inl rfl⟩,h⟩⟩
def lpK {ι:Type} (vy:List Nat) (n:Nat) (inv:ι→Prop) (vals:ι→List RV) (H:ι→List Root) (μ:ι→Nat) (m:Nat) (σ':AS):Prop:=∃s',inv s'∧gets σ'.tm vy=xm7 (vals s')∧σ'.H.take n=H s'∧μ s'<m
theorem ec7 [Pan] {c:Code}{ι:Type}(fx vy:List Nat) (inv:ι→Prop) (vals:ι→List RV) (H:ι→List Root) (μ:ι→Nat) (hfx:mvb7 c fx=true) (h0:∃s,inv s∧gets σ.tm vy=xm7 (vals s)∧σ.H=H s)
  (hsc:∀s,inv s→(H s).length=σ.H.length∧wy7 σ.H.length (vals s)=true∧abb7 σ.H.length (H s)=true∧(vals s).length=vy.length)
  (round:∀s,inv s→awp P ty ord c (bm7 (lpK vy σ.H.length inv vals H μ (μ s)) Q) ⟨setT vy (vals s) (fxT σ.tm fx),H s⟩):awp P ty ord (.loop c) Q σ :=
 .inl ⟨ι,fx,vy,inv,vals,H,μ,hfx,h0,hsc,round⟩
def wwc7 {ι:Type} (d:Nat) (vy:List Nat) (n:Nat) (inv:ι→Prop) (vals:ι→List RV) (H:ι→List Root) (μ:ι→Nat) (m:Nat) (σ':AS):Prop:=∃s' ids,inv s'∧(ids.length=d∧okI n ids=true)∧renG n ids (gets σ'.tm vy)=xm7 (vals s')∧jeb7 n ids σ'.H=H s'∧μ s'<m
theorem qc7 [Pan] {c:Code}{ι:Type}(d:Nat) (fx vy:List Nat) (inv:ι→Prop) (vals:ι→List RV) (H:ι→List Root) (μ:ι→Nat) (hfx:mvb7 c fx=true) (h0:∃s,inv s∧gets σ.tm vy=xm7 (vals s)∧σ.H++List.replicate d .dead=H s)
  (hsc:∀s,inv s→(H s).length=σ.H.length+d)
  (round:∀s,inv s→awp P ty ord c (bm7 (wwc7 d vy σ.H.length inv vals H μ (μ s)) Q) ⟨setT vy (vals s) (fxT σ.tm fx),H s⟩):awp P ty ord (.loop c) Q σ :=
 .inr (.inl ⟨ι,d,fx,vy,inv,vals,H,μ,hfx,h0,hsc,round⟩)
theorem uzc7 {body:(Exit→AS→Prop)→AS→Prop}{u:Unit}{l:List Unit}:vo7 body (u::l) Q σ=body (bm7 (vo7 body l Q) Q) σ:=rfl
def opD:List Oper→Nat→Oper
 | [],_=>default
 | o::_,0=>o
 | _::l,n+1=>opD l n
theorem lnb7:∀(l:List Oper) (j:Nat),opD l j=l.getD j default
 | [],_=>rfl
 | _::_,0=>rfl
 | _::l,j+1=>by simp only[opD,List.getD_cons_succ];exact lnb7 l j
theorem ywb7 (i:Nat):ops.getD i default=opD ops.toList i:=by
 rw[lnb7];simp[List.getD_eq_getElem?_getD,Array.getD_eq_getD_getElem?]
theorem jyc7 [Pan] {i:Nat}{H0:List Root}{r:List Nat}{T T2:Tw}:an7 P ty ops H0 r (.br 0 i T T2) K σ=(ip7 P ty (some none) none ops σ (opD ops.toList i) (an7 P ty ops H0 r T K)∧an7 P ty ops H0 r T2 K σ):=by
 rw[← ywb7];exact propext ⟨fun h=>⟨h.1.2,h.2⟩,fun h=>⟨⟨trivial,h.1⟩,h.2⟩⟩
theorem ezc7 [Pan] {i:Nat}{H0:List Root}{r:List Nat}{T T2:Tw}:an7 P ty ops H0 r (.br 1 i T T2) K σ=(ip7 P ty none none ops σ (opD ops.toList i) (an7 P ty ops H0 r T K)∧an7 P ty ops H0 r T2 K σ):=by
 rw[← ywb7];exact propext ⟨fun h=>⟨h.1.2,h.2⟩,fun h=>⟨⟨trivial,h.1⟩,h.2⟩⟩
theorem gyc7 [Pan] {i k:Nat}{H0:List Root}{r:List Nat}{T T2:Tw}:an7 P ty ops H0 r (.br (k+2) i T T2) K σ=((plc7 (npc7 (aa7 H0 k)) (aa7 σ.H k)∧ip7 P ty (some (gR k (aa7 σ.H k))) none ops σ (opD ops.toList i) (an7 P ty ops H0 r T K))∧an7 P ty ops H0 r T2 K σ):=by
 rw[← ywb7];rfl
theorem czc7 {g:Bool}{ks:List Nat}:nkb7 ty (some g) ks σ o K=(gOk g (vy7 σ.rd o.op)∧(g=true→(opV ty g σ.rd (killL ks σ.H) o.op).1)∧putV g σ.tm σ.H o.dst (opV ty g σ.rd σ.H o.op) K):=rfl
theorem syc7 {fz:Bool}{t:TypeId}{sz:Nat}{r:Row}:doc7 (.live fz t sz r)=(fz=false∧0<r.len):=rfl
theorem oyc7:doc7 .dead=True:=rfl
theorem fzc7 {n:Nat}{fz:Bool}{t:TypeId}{sz:Nat}{r:Row}:plc7 n (.live fz t sz r)=(r.len=n∧0<r.len):=rfl
theorem ryc7 {n:Nat}:plc7 n .dead=True:=rfl
theorem pxc7 {k:Nat}{fz:Bool}{t:TypeId}{sz:Nat}{r:Row}:gR k (.live fz t sz r)=some k:=rfl
theorem dyc7 {k:Nat}:gR k .dead=none:=rfl
theorem xxc7 {fz:Bool}{t:TypeId}{sz:Nat}{r:Row}:npc7 (.live fz t sz r)=r.len:=rfl
theorem bzc7:npc7 .dead=0:=rfl
theorem dnc7 {i:Nat}{is:List Nat}:pick ops (i::is)=opD ops.toList i::pick ops is:=by
 simp[pick,lnb7,List.getD_eq_getElem?_getD,Array.getD_eq_getD_getElem?]
theorem qfc7:pick ops []=[]:=rfl
theorem t_n {n:AS→Prop}:bm7 n Q .normal σ=n σ:=rfl
theorem t_e {n:AS→Prop}{id:Nat}:bm7 n Q (.exit id) σ=Q (.exit id) σ:=rfl
theorem t_r {n:AS→Prop}:bm7 n Q .ret σ=Q .ret σ:=rfl
theorem b_n {id:Nat}:inB id Q .normal σ=Q .normal σ:=rfl
theorem b_e {id j:Nat}:inB id Q (.exit j) σ=if j=id then Q .normal σ else Q (.exit j) σ:=rfl
theorem b_r {id:Nat}:inB id Q .ret σ=Q .ret σ:=rfl
theorem c_t {b:Bool}{A B:Prop}:mdb7 (true,.c (.bool b)) A B=((b=true→A)∧(b=false→B)):=rfl
theorem r_r {rs:List ResultVar}{K:RV→List Root→Prop}:ldc7 ty rs K .ret σ=((eo7 ty σ rs).1∧K (one (eo7 ty σ rs).2) σ.H):=rfl
theorem r_n {rs:List ResultVar}{K:RV→List Root→Prop}:ldc7 ty rs K .normal σ=((eo7 ty σ rs).1∧K (one (eo7 ty σ rs).2) σ.H):=rfl
end
section
variable {n:Nat} {ids:List Nat}
theorem zjc7 {n:Nat}{ids:List Nat}:ne7 n ids .dead = .dead:=rfl
theorem qqc7 {n:Nat}{ids:List Nat}{fz:Bool}{t:TypeId}{sz:Nat}{l:List AV}:ne7 n ids (.live fz t sz (.box l)) = .live fz t sz (.box (znb7 n ids l)):=rfl
theorem eic7 {n:Nat}{ids:List Nat}{fz:Bool}{t:TypeId}{sz:Nat}{k:IntKind}{l:List Int}:ne7 n ids (.live fz t sz (.ints k l)) = .live fz t sz (.ints k l):=rfl
theorem oac7 {n:Nat}{ids:List Nat}{fz:Bool}{t:TypeId}{sz:Nat}{l:List Bool}:ne7 n ids (.live fz t sz (.bools l)) = .live fz t sz (.bools l):=rfl
theorem dpc7 {n:Nat}{ids:List Nat}{fz:Bool}{t:TypeId}{sz:Nat}{l:List (List AV)}:ne7 n ids (.live fz t sz (.gen l)) = .live fz t sz (.gen l):=rfl
theorem vmc7 {n:Nat}{ids:List Nat}{fz:Bool}{t:TypeId}{sz:Nat}{l:List (List AV)}:ne7 n ids (.live fz t sz (.own l)) = .live fz t sz (.own (pbb7 n ids l)):=rfl
theorem snc7 {id m i o:Nat}:fu7 n ids (.ptr id m i o)=mxb7 m i o (cob7 n ids id):=rfl
theorem lxc7 {id st len:Nat}:fu7 n ids (.h id st len)=mkH st len (cob7 n ids id):=rfl
theorem tqc7 {k:IntKind}{v:Int}:fu7 n ids (.int k v) = .int k v:=rfl
theorem jhc7 {b:Bool}:fu7 n ids (.bool b) = .bool b:=rfl
theorem unc7 {b:Nat}:fu7 n ids (.flt b) = .flt b:=rfl
theorem qmc7 {b:ByteArray}:fu7 n ids (.str b) = .str b:=rfl
theorem rgc7:fu7 n ids .nilp = .nilp:=rfl
theorem rjc7:fu7 n ids .nils = .nils:=rfl
theorem zfc7:fu7 n ids .junk = .junk:=rfl
theorem yuc7 {k sz:Nat}{f:Nat→Nat→AV}:fu7 n ids (.sl k sz f) = .sl k sz f:=rfl
theorem auc7 {k:Nat}{f:Nat→AV}:fu7 n ids (.rp k f) = .rp k f:=rfl
theorem ysc7 {m i o j:Nat}:mxb7 m i o (some j) = .ptr j m i o:=rfl
theorem duc7 {m i o:Nat}:mxb7 m i o none = .junk:=rfl
theorem suc7 {st len j:Nat}:mkH st len (some j) = .h j st len:=rfl
theorem juc7 {st len:Nat}:mkH st len none = .junk:=rfl
end
attribute [congr] rjb7 kpb7
def tyM:Nat→TyE
 | 2=>⟨1,8,.i .i64,[.int .i64 0],none⟩
 | 3=>⟨1,8,.i .i64,[.int .i64 0],none⟩
 | 4=>⟨1,1,.b,[.bool false],none⟩
 | 5=>⟨1,1,.i .u8,[.int .u8 0],none⟩
 | 6=>⟨1,1,.i .u8,[.int .u8 0],none⟩
 | 7=>⟨4,24,.st [(0,1),(1,1),(2,1),(3,1)],[.int .i64 0,.int .i64 0,.bool false,.int .u8 0],none⟩
 | 8=>⟨4,24,.st [(0,1),(1,1),(2,1),(3,1)],[.int .i64 0,.int .i64 0,.bool false,.int .u8 0],none⟩
 | 9=>⟨1,16,.str,[.str ⟨#[]⟩],none⟩
 | 10=>⟨1,16,.str,[.str ⟨#[]⟩],none⟩
 | 11=>⟨1,16,.str,[.str ⟨#[]⟩],none⟩
 | 12=>⟨1,8,.i .u64,[.int .u64 0],none⟩
 | 13=>⟨2,24,.st [(0,1),(1,1)],[.str ⟨#[]⟩,.int .u64 0],none⟩
 | 14=>⟨2,24,.st [(0,1),(1,1)],[.str ⟨#[]⟩,.int .u64 0],none⟩
 | 15=>⟨1,8,.sc,[.nilp],none⟩
 | 16=>⟨1,8,.sc,[.nilp],none⟩
 | 17=>⟨1,8,.sc,[.nilp],none⟩
 | 18=>⟨1,8,.st [(0,1)],[.nilp],none⟩
 | 19=>⟨1,8,.st [(0,1)],[.nilp],none⟩
 | 21=>⟨1,4,.i .i32,[.int .i32 0],none⟩
 | 22=>⟨1,24,.sl 121,[.nils],none⟩
 | 23=>⟨1,24,.sl 125,[.nils],none⟩
 | 24=>⟨1,24,.sl 5,[.nils],none⟩
 | 25=>⟨11,112,.st [(0,1),(1,1),(2,1),(3,1),(4,1),(5,1),(6,1),(7,1),(8,1),(9,1),(10,1)],[.int .u8 0,.int .u8 0,.int .u8 0,.int .u8 0,.int .u8 0,.nils,.nils,.nils,.nils,.bool false,.bool false],none⟩
 | 26=>⟨11,112,.st [(0,1),(1,1),(2,1),(3,1),(4,1),(5,1),(6,1),(7,1),(8,1),(9,1),(10,1)],[.int .u8 0,.int .u8 0,.int .u8 0,.int .u8 0,.int .u8 0,.nils,.nils,.nils,.nils,.bool false,.bool false],none⟩
 | 27=>⟨3,72,.st [(0,1),(1,1),(2,1)],[.nils,.nils,.nils],none⟩
 | 28=>⟨3,72,.st [(0,1),(1,1),(2,1)],[.nils,.nils,.nils],none⟩
 | 29=>⟨1,24,.sl 49,[.nils],none⟩
 | 30=>⟨2,32,.st [(0,1),(1,1)],[.nils,.int .u8 0],none⟩
 | 31=>⟨2,32,.st [(0,1),(1,1)],[.nils,.int .u8 0],none⟩
 | 32=>⟨1,2,.i .u16,[.int .u16 0],none⟩
 | 34=>⟨1,24,.sl 51,[.nils],none⟩
 | 38=>⟨1,24,.sl 69,[.nils],none⟩
 | 39=>⟨1,24,.sl 75,[.nils],none⟩
 | 40=>⟨2,48,.st [(0,1),(1,1)],[.nils,.nils],none⟩
 | 41=>⟨2,48,.st [(0,1),(1,1)],[.nils,.nils],none⟩
 | 42=>⟨1,24,.sl 60,[.nils],none⟩
 | 43=>⟨1,24,.sl 63,[.nils],none⟩
 | 44=>⟨2,48,.st [(0,1),(1,1)],[.nils,.nils],none⟩
 | 45=>⟨2,48,.st [(0,1),(1,1)],[.nils,.nils],none⟩
 | 46=>⟨5,104,.st [(0,2),(2,2),(4,1)],[.nils,.nils,.nils,.nils,.int .i64 0],none⟩
 | 47=>⟨5,104,.st [(0,2),(2,2),(4,1)],[.nils,.nils,.nils,.nils,.int .i64 0],none⟩
 | 49=>⟨1,1,.i .i8,[.int .i8 0],none⟩
 | 50=>⟨2,24,.st [(0,1),(1,1)],[.str ⟨#[]⟩,.int .i64 0],none⟩
 | 51=>⟨2,24,.st [(0,1),(1,1)],[.str ⟨#[]⟩,.int .i64 0],none⟩
 | 52=>⟨1,8,.i .i64,[.int .i64 0],none⟩
 | 57=>⟨1,8,.i .u64,[.int .u64 0],none⟩
 | 58=>⟨1,24,.sl 61,[.nils],none⟩
 | 60=>⟨1,24,.sl 2,[.nils],none⟩
 | 61=>⟨1,4,.i .u32,[.int .u32 0],none⟩
 | 62=>⟨3,40,.st [(0,1),(1,1),(2,1)],[.int .i64 0,.nils,.int .i64 0],none⟩
 | 63=>⟨3,40,.st [(0,1),(1,1),(2,1)],[.int .i64 0,.nils,.int .i64 0],none⟩
 | 65=>⟨2,16,.st [(0,1),(1,1)],[.int .i64 0,.int .i64 0],none⟩
 | 66=>⟨2,16,.st [(0,1),(1,1)],[.int .i64 0,.int .i64 0],none⟩
 | 67=>⟨1,24,.sl 66,[.nils],none⟩
 | 68=>⟨1,24,.st [(0,1)],[.nils],none⟩
 | 69=>⟨1,24,.st [(0,1)],[.nils],none⟩
 | 72=>⟨1,24,.sl 3,[.nils],none⟩
 | 74=>⟨2,32,.st [(0,1),(1,1)],[.int .i64 0,.nils],none⟩
 | 75=>⟨2,32,.st [(0,1),(1,1)],[.int .i64 0,.nils],none⟩
 | 76=>⟨2,16,.st [(0,1),(1,1)],[.int .i64 0,.int .i64 0],none⟩
 | 77=>⟨2,16,.st [(0,1),(1,1)],[.int .i64 0,.int .i64 0],none⟩
 | 78=>⟨1,24,.sl 123,[.nils],none⟩
 | 79=>⟨1,24,.sl 127,[.nils],none⟩
 | 80=>⟨9,136,.st [(0,1),(1,2),(3,2),(5,1),(6,1),(7,1),(8,1)],[.int .i64 0,.int .i64 0,.int .i64 0,.int .i64 0,.int .i64 0,.nils,.nils,.nils,.nils],none⟩
 | 81=>⟨9,136,.st [(0,1),(1,2),(3,2),(5,1),(6,1),(7,1),(8,1)],[.int .i64 0,.int .i64 0,.int .i64 0,.int .i64 0,.int .i64 0,.nils,.nils,.nils,.nils],none⟩
 | 90=>⟨1,8,.sc,[.nilp],none⟩
 | 98=>⟨1,8,.sc,[.nilp],none⟩
 | 99=>⟨4,48,.st [(0,1),(1,1),(2,1),(3,1)],[.nils,.int .i64 0,.int .i64 0,.int .i64 0],none⟩
 | 100=>⟨4,48,.st [(0,1),(1,1),(2,1),(3,1)],[.nils,.int .i64 0,.int .i64 0,.int .i64 0],none⟩
 | 104=>⟨1,8,.sc,[.nilp],none⟩
 | 105=>⟨2,32,.st [(0,1),(1,1)],[.nilp,.nils],none⟩
 | 106=>⟨2,32,.st [(0,1),(1,1)],[.nilp,.nils],none⟩
 | 120=>⟨2,2,.st [(0,1),(1,1)],[.int .u8 0,.int .u8 0],none⟩
 | 121=>⟨2,2,.st [(0,1),(1,1)],[.int .u8 0,.int .u8 0],none⟩
 | 122=>⟨2,16,.st [(0,1),(1,1)],[.int .i64 0,.int .i64 0],none⟩
 | 123=>⟨2,16,.st [(0,1),(1,1)],[.int .i64 0,.int .i64 0],none⟩
 | 124=>⟨4,4,.st [(0,1),(1,1),(2,1),(3,1)],[.int .u8 0,.int .u8 0,.int .u8 0,.int .u8 0],none⟩
 | 125=>⟨4,4,.st [(0,1),(1,1),(2,1),(3,1)],[.int .u8 0,.int .u8 0,.int .u8 0,.int .u8 0],none⟩
 | 126=>⟨4,32,.st [(0,1),(1,1),(2,1),(3,1)],[.int .i64 0,.int .i64 0,.int .i64 0,.int .i64 0],none⟩
 | 127=>⟨4,32,.st [(0,1),(1,1),(2,1),(3,1)],[.int .i64 0,.int .i64 0,.int .i64 0,.int .i64 0],none⟩
 | 131=>⟨1,8,.sc,[.nilp],none⟩
 | 132=>⟨1,8,.sc,[.nilp],none⟩
 | 139=>⟨1,24,.sl 151,[.nils],none⟩
 | 142=>⟨2,16,.st [(0,1),(1,1)],[.int .i64 0,.int .i64 0],none⟩
 | 143=>⟨2,16,.st [(0,1),(1,1)],[.int .i64 0,.int .i64 0],none⟩
 | 145=>⟨3,40,.st [(0,1),(1,1),(2,1)],[.nils,.int .i64 0,.int .i64 0],none⟩
 | 146=>⟨3,40,.st [(0,1),(1,1),(2,1)],[.nils,.int .i64 0,.int .i64 0],none⟩
 | 151=>⟨2,24,.st [(0,1),(1,1)],[.str ⟨#[]⟩,.int .i64 0],none⟩
 | 154=>⟨1,8,.sc,[.nilp],none⟩
 | 166=>⟨20,20,.ar 20 1,[.int .u8 0,.int .u8 0,.int .u8 0,.int .u8 0,.int .u8 0,.int .u8 0,.int .u8 0,.int .u8 0,.int .u8 0,.int .u8 0,.int .u8 0,.int .u8 0,.int .u8 0,.int .u8 0,.int .u8 0,.int .u8 0,.int .u8 0,.int .u8 0,.int .u8 0,.int .u8 0],none⟩
 | 168=>⟨1,24,.sl 202,[.nils],none⟩
 | 169=>⟨2,32,.st [(0,1),(1,1)],[.int .i64 0,.nils],none⟩
 | 170=>⟨2,32,.st [(0,1),(1,1)],[.int .i64 0,.nils],none⟩
 | 189=>⟨1,8,.sc,[.nilp],none⟩
 | 190=>⟨3,56,.st [(0,2),(2,1)],[.int .i64 0,.nils,.nils],none⟩
 | 191=>⟨3,56,.st [(0,2),(2,1)],[.int .i64 0,.nils,.nils],none⟩
 | 192=>⟨1,24,.sl 72,[.nils],none⟩
 | 201=>⟨3,24,.st [(0,1),(1,1),(2,1)],[.int .i64 0,.int .i64 0,.int .i64 0],none⟩
 | 202=>⟨3,24,.st [(0,1),(1,1),(2,1)],[.int .i64 0,.int .i64 0,.int .i64 0],none⟩
 | 207=>⟨1,8,.i .u64,[.int .u64 0],none⟩
 | 210=>⟨1,8,.sc,[.nilp],none⟩
 | 213=>⟨2,16,.st [(0,1),(1,1)],[.int .i64 0,.int .i64 0],none⟩
 | 214=>⟨2,16,.st [(0,1),(1,1)],[.int .i64 0,.int .i64 0],none⟩
 | 220=>⟨2,48,.ar 2 1,[.nils,.nils],none⟩
 | 222=>⟨1,24,.sl 214,[.nils],none⟩
 | 223=>⟨1,24,.sl 214,[.nils],none⟩
 | 224=>⟨1,24,.st [(0,1)],[.nils],none⟩
 | 225=>⟨1,24,.st [(0,1)],[.nils],none⟩
 | 227=>⟨1,8,.sc,[.nilp],none⟩
 | 230=>⟨1,8,.i .u64,[.int .u64 0],none⟩
 | 238=>⟨4,40,.st [(0,1),(1,1),(2,1),(3,1)],[.nilp,.nilp,.nilp,.str ⟨#[]⟩],none⟩
 | 239=>⟨4,40,.st [(0,1),(1,1),(2,1),(3,1)],[.nilp,.nilp,.nilp,.str ⟨#[]⟩],none⟩
 | 240=>⟨0,0,.ar 0 1,[],none⟩
 | 241=>⟨0,0,.st [(0,0)],[],none⟩
 | 242=>⟨0,0,.st [(0,0)],[],none⟩
 | 243=>⟨1,1,.i .u8,[.int .u8 0],none⟩
 | 244=>⟨1,1,.i .u8,[.int .u8 0],none⟩
 | 246=>⟨1,4,.i .i32,[.int .i32 0],none⟩
 | 247=>⟨1,4,.i .i32,[.int .i32 0],none⟩
 | _=>⟨0,0,.no,[],none⟩
def ty:Ty:=fun t=>if t<252 then tyM t else ⟨0,0,.no,[],none⟩
theorem ovc7 (t:Nat):ty t=if t<252 then tyM t else ⟨0,0,.no,[],none⟩:=rfl
theorem zb7:ud7 Tryz.prog ty:=jjc7 (n:=252) (by kernel_rfl) (fun t h=>by
 show (if t<252 then tyM t else _).k = .no
 rw[if_neg (Nat.not_lt.2 h)])
end Go.Proofs.YtedahhjopmkbbaaGreat.Ab
