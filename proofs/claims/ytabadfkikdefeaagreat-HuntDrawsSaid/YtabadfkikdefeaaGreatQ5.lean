/- Texts of the proof, joined: A8, A9, A10, Ty. -/
import Derived.Test.YtabadfkikdefeaaGreatProg
import Derived.Test.YtabadfkikdefeaaGreatQ4
set_option linter.all false
set_option maxRecDepth 100000
set_option maxHeartbeats 6400000
namespace Go.Proofs.YtabadfkikdefeaaGreat.Ab
open Go.RowKit
section
variable {P:Program} {ty:Ty} {E:Env} {nt:Nat} {M M':Mp} {σ σ':AS} {a a':Act} {w w':World}
def okC (nt:Nat) (ord:Nat→List Nat×Nat×Option DD):Code→Bool
 | .region id ops dr=>qf7 nt ops&&(!dr || rfb7 ops (ord id))
 | .seq a b=>okC nt ord a&&okC nt ord b
 | .cond _ a b=>okC nt ord a&&okC nt ord b
 | .block _ a=>okC nt ord a
 | .loop a=>okC nt ord a
 | _=>true
def at7 (c:Code) (t:Nat):Prop:=t∈asg c
theorem least (p:Nat→Prop) (h:∃n,p n):∃n,p n∧∀m,p m→n≤m:=by
 obtain⟨n,hn⟩:=h
 induction n using Nat.strongRecOn with
 | _ n ih =>
  by_cases hc:∃m,m<n∧p m
  ·obtain⟨m,hm,hp⟩:=hc;exact ih m hm hp
  ·exact⟨n,hn,fun m hm=>Nat.le_of_not_lt fun hlt=>hc ⟨m,hlt,hm⟩⟩
theorem wp_loop_ghost {ι:Type}{c:Code}{Q:Exit→Act→World→Prop}(I:ι→Act→World→Prop) (μ:ι→Nat) (s0:ι) {a:Act}{w:World}(h0:I s0 a w)
  (round:∀s a w,I s a w→c.wp P (Exit.then (fun a' w'=>∃s',I s' a' w'∧μ s'<μ s) Q) a w):(Code.loop c).wp P Q a w:=by
 classical
 have hl:∀(a:Act) (w:World),(∃n,∃s,I s a w∧μ s=n)→∃n,(∃s,I s a w∧μ s=n)∧∀m,(∃s,I s a w∧μ s=m)→n≤m:=fun a w h=>least _ h
 let f:Act→World→Nat:=fun a w=>if h:∃n,∃s,I s a w∧μ s=n then Classical.choose (hl a w h) else 0
 have hf:∀a w s,I s a w→(∃s',I s' a w∧μ s'=f a w)∧f a w≤μ s:=by
  intro a w s hs
  have h:∃n,∃s,I s a w∧μ s=n:=⟨_,s,hs,rfl⟩
  have:=Classical.choose_spec (hl a w h)
  have e:f a w=Classical.choose (hl a w h):=dif_pos h
  rw[e]
  exact⟨this.1,this.2 _ ⟨s,hs,rfl⟩⟩
 refine wp_loop (fun a w=>∃s,I s a w) f ⟨s0,h0⟩ fun a w ⟨s,hs⟩=>?_
 obtain⟨⟨s1,h1,h2⟩,-⟩:=hf a w s hs
 refine wp_mono (round s1 a w h1) fun e a' w' q=>?_
 cases e with
 | normal =>
  obtain⟨s',q1,q2⟩:=q
  exact⟨⟨s',q1⟩,by have:=(hf a' w' s' q1).2;omega⟩
 | _=>exact q
theorem lk7:∀(vy:List Nat) (vs:List RV) (tm tm0:Tm),gets tm0 vy=gh7 vs→∀t,(t∈vy∧lk (mq7 vy vs tm) t=lk tm0 t)∨(t ∉ vy∧lk (mq7 vy vs tm) t=lk tm t)
 | [],vs,tm,tm0,_,t=>.inr ⟨by simp,by cases vs <;> rfl⟩
 | v::vy,[],tm,tm0,h,t=>by simp[gets,gh7]at h
 | v::vy,x::vs,tm,tm0,h,t=>by
  simp only[gets,gh7,List.cons.injEq]at h
  simp only[mq7,lk]
  by_cases e:v=t
  ·subst e
   exact .inl ⟨List.mem_cons_self ..,by rw[if_pos rfl,h.1]⟩
  ·rw[if_neg e]
   rcases lk7 vy vs tm tm0 h.2 t with ⟨h1,h2⟩ | ⟨h1,h2⟩
   ·exact .inl ⟨List.mem_cons_of_mem _ h1,h2⟩
   ·exact .inr ⟨by simp only[List.mem_cons,not_or];exact⟨fun e2=>e e2.symm,h1⟩,h2⟩
theorem wk7 (tm:Tm):∀(fx:List Nat) (t:Nat),(t∈fx∧lk (fxT tm fx) t=lk tm t)∨(t ∉ fx∧lk (fxT tm fx) t=(true,.c .junk))
 | [],t=>.inr ⟨by simp,rfl⟩
 | x::fx,t=>by
  simp only[fxT,lk]
  by_cases e:x=t
  ·subst e;exact .inl ⟨List.mem_cons_self ..,by rw[if_pos rfl]⟩
  ·rw[if_neg e]
   rcases wk7 tm fx t with ⟨h1,h2⟩ | ⟨h1,h2⟩
   ·exact .inl ⟨List.mem_cons_of_mem _ h1,h2⟩
   ·exact .inr ⟨by simp only[List.mem_cons,not_or];exact⟨fun e2=>e e2.symm,h1⟩,h2⟩
theorem ag7 {c:Code}{fx:List Nat}(h:wdb7 c fx=true) {t:Nat}(ht:t∈fx):¬at7 c t:=by
 have:=List.all_eq_true.1 h t ht
 simpa[at7]using this
theorem Con.take {H:List Root}{k:Nat}{x:AV}{v:Value}(hk:k≤H.length) (hs:x.scp k=true) (h:Con M H w x v):Con M (H.take k) w x v:=by
 have hlen:(H.take k).length=k:=by simp;omega
 cases x with
 | ptr id n i o =>
  have hid:id<k:=by simpa[AV.scp]using hs
  exact⟨⟨by omega,h.1.2⟩,fun fz t sz r hr=>by rw[ke7,if_pos hid]at hr;exact h.2 _ _ _ _ hr⟩
 | h id st len =>
  have hid:id<k:=by simpa[AV.scp]using hs
  exact⟨⟨by omega,h.1.2⟩,fun fz t sz r hr=>by rw[ke7,if_pos hid]at hr;exact h.2 _ _ _ _ hr⟩
 | junk=>trivial
 | _=>exact h
theorem mb7.take {H:List Root}{k:Nat}(hk:k≤H.length):∀{l:List AV}{vs:List Value},pw7 k l=true→mb7 M H w l vs→mb7 M (H.take k) w l vs
 | [],_,_,h=>h
 | x::l,_,hs,⟨v,r,e,h1,h2⟩=>by
  simp only[pw7,Bool.and_eq_true]at hs
  exact⟨v,r,e,h1.take hk hs.1,mb7.take hk hs.2 h2⟩
mutual
theorem ha7.take {H:List Root}{k:Nat}(hk:k≤H.length):∀{x:RV}{v:Value},vmb7 k x=true→ha7 M H w x v→ha7 M (H.take k) w x v
 | .c _,_,hs,h=>Con.take hk hs h
 | .agg _,_,hs,⟨vs,e,h⟩=>⟨vs,e,mb7.take hk hs h⟩
 | .fn _ _ _,_,hs,⟨vs,e,h⟩=>⟨vs,e,mb7.take hk hs h⟩
 | .tup _,_,hs,⟨vs,e,h⟩=>⟨vs,e,ab7.take hk hs h⟩
 | .ifc _ _,_,hs,⟨u,e,h⟩=>⟨u,e,ha7.take hk hs h⟩
theorem ab7.take {H:List Root}{k:Nat}(hk:k≤H.length):∀{x:List RV}{vs:List Value},wq7 k x=true→ab7 M H w x vs→ab7 M (H.take k) w x vs
 | [],_,_,h=>h
 | x::l,_,hs,⟨v,r,e,h1,h2⟩=>by
  simp only[wq7,Bool.and_eq_true]at hs
  exact⟨v,r,e,ha7.take hk hs.1 h1,ab7.take hk hs.2 h2⟩
end
theorem qj7 {H:List Root}{x:AV}{v:Value}(h:Con M H w x v):x.scp H.length=true:=by
 cases x with
 | ptr=>simpa[AV.scp]using h.1.1
 | h=>simpa[AV.scp]using h.1.1
 | _=>rfl
theorem qg7 {k:Nat}:∀{H:List Root},vv7 k H=true→∀{id:Nat}{fz:Bool}{t:TypeId}{sz:Nat}{l:List AV},aa7 H id = .live fz t sz (.box l)→pw7 k l=true
 | [],_,_,_,_,_,_,h=>by cases h
 | .live fz t sz (.box l)::H,hs,0,_,_,_,_,h=>by
  simp only[vv7,Bool.and_eq_true]at hs
  cases h;exact hs.1
 | .live _ _ _ (.box _)::H,hs,id+1,_,_,_,_,h=>by
  simp only[vv7,Bool.and_eq_true]at hs
  exact qg7 hs.2 h
 | .dead::H,hs,0,_,_,_,_,h=>by cases h
 | .live _ _ _ (.ints ..)::H,hs,0,_,_,_,_,h=>by cases h
 | .live _ _ _ (.bools ..)::H,hs,0,_,_,_,_,h=>by cases h
 | .live _ _ _ (.gen ..)::H,hs,0,_,_,_,_,h=>by cases h
 | .live _ _ _ (.own ..)::H,hs,0,_,_,_,_,h=>by cases h
 | .dead::H,hs,id+1,_,_,_,_,h=>qg7 (H:=H) hs h
 | .live _ _ _ (.ints ..)::H,hs,id+1,_,_,_,_,h=>qg7 (H:=H) hs h
 | .live _ _ _ (.bools ..)::H,hs,id+1,_,_,_,_,h=>qg7 (H:=H) hs h
 | .live _ _ _ (.gen ..)::H,hs,id+1,_,_,_,_,h=>qg7 (H:=H) hs h
 | .live _ _ _ (.own _)::H,hs,id+1,_,_,_,_,h=>by
  simp only[vv7,Bool.and_eq_true]at hs
  exact qg7 hs.2 h
theorem gw7 {k:Nat}:∀{l:List (List AV)},ns7 k l=true→∀i,pw7 k (l.getD i [])=true
 | [],_,_=>rfl
 | _::_,h,0=>by simp only[ns7,Bool.and_eq_true]at h;exact h.1
 | _::l,h,i+1=>by simp only[ns7,Bool.and_eq_true]at h;exact gw7 (l:=l) h.2 i
theorem kg7 {k:Nat}:∀{H:List Root},vv7 k H=true→∀{id:Nat}{fz:Bool}{t:TypeId}{sz:Nat}{l:List (List AV)},aa7 H id = .live fz t sz (.own l)→ns7 k l=true
 | [],_,_,_,_,_,_,h=>by cases h
 | .live fz t sz (.own l)::H,hs,0,_,_,_,_,h=>by
  simp only[vv7,Bool.and_eq_true]at hs
  cases h;exact hs.1
 | .live _ _ _ (.own _)::H,hs,id+1,_,_,_,_,h=>by
  simp only[vv7,Bool.and_eq_true]at hs
  exact kg7 hs.2 h
 | .live _ _ _ (.box _)::H,hs,id+1,_,_,_,_,h=>by
  simp only[vv7,Bool.and_eq_true]at hs
  exact kg7 hs.2 h
 | .dead::H,hs,0,_,_,_,_,h=>by cases h
 | .live _ _ _ (.box ..)::H,hs,0,_,_,_,_,h=>by cases h
 | .live _ _ _ (.ints ..)::H,hs,0,_,_,_,_,h=>by cases h
 | .live _ _ _ (.bools ..)::H,hs,0,_,_,_,_,h=>by cases h
 | .live _ _ _ (.gen ..)::H,hs,0,_,_,_,_,h=>by cases h
 | .dead::H,hs,id+1,_,_,_,_,h=>kg7 (H:=H) hs h
 | .live _ _ _ (.ints ..)::H,hs,id+1,_,_,_,_,h=>kg7 (H:=H) hs h
 | .live _ _ _ (.bools ..)::H,hs,id+1,_,_,_,_,h=>kg7 (H:=H) hs h
 | .live _ _ _ (.gen ..)::H,hs,id+1,_,_,_,_,h=>kg7 (H:=H) hs h
theorem vr7 {k:Nat}:∀{l:List AV},pw7 k l=true→∀j,(nth l j).scp k=true
 | [],_,_=>rfl
 | x::l,hs,0=>by simp only[pw7,Bool.and_eq_true]at hs;exact hs.1
 | x::l,hs,j+1=>by simp only[pw7,Bool.and_eq_true]at hs;exact vr7 hs.2 j
theorem Rel.take {H:List Root}{k:Nat}(h:Rel E M H w) (hk:k≤H.length) (hs:vv7 k (H.take k)=true):Rel E M (H.take k) w:=by
 have lift:∀{id:Nat} {fz:Bool} {t:TypeId} {sz:Nat} {r:Row},aa7 (H.take k) id = .live fz t sz r→aa7 H id = .live fz t sz r:=fun {id fz t sz r} hr=>by
  rw[ke7]at hr
  split at hr
  ·exact hr
  ·cases hr
 refine⟨h.bel,fun id fz t sz r hr=>h.low _ _ _ _ _ (lift hr),fun id fz t sz r hr=>?_,fun id t sz r hr=>h.froz _ _ _ _ (lift hr),fun id t sz r hr=>h.thaw _ _ _ _ (lift hr),fun i j t s r t' s' r' hi hj=>h.inj _ _ _ _ _ _ _ _ (lift hi) (lift hj),h.rlt,h.src,h.tau.keep rfl (fun _ _ _=>rfl) (fun b q hq=>(h.tau.new b q hq).2) fun b q j fz t s r hq hj=>h.tau.row _ _ _ _ _ _ _ hq (lift hj)⟩
 obtain⟨cur,h1,h2,h3,h4,h5,h6⟩:=h.row _ _ _ _ _ (lift hr)
 refine⟨cur,h1,h2,h3,h4,h5,fun i hi o ho=>?_⟩
 obtain⟨v,k1,k2,k3⟩:=h6 i hi o ho
 refine⟨v,k1,k2, ?_⟩
 unfold vd7 at k3 ⊢
 cases r with
 | box l =>
  simp only[Row.isBox,if_true]at k3 ⊢
  exact k3.take hk (vr7 (qg7 hs hr) o)
 | own l =>
  simp only[Row.isBox,if_true]at k3 ⊢
  exact k3.take hk (vr7 (gw7 (kg7 hs hr) i) o)
 | _=>exact k3
def dq7 (σ:AS) (fx vy:List Nat) (vs:List RV) (H:List Root):AS:=⟨mq7 vy vs (fxT σ.tm fx),H⟩
theorem uu7 {k:Nat}{vy:List Nat}{vs:List RV}{tm:Tm}(hs:wq7 k vs=true):∀t,t∈vy→vs.length=vy.length→∃x,lk (mq7 vy vs tm) t=(true,x)∧vmb7 k x=true:=by
 induction vy generalizing vs with
 | nil=>intro t ht;cases ht
 | cons v vy ih =>
  intro t ht hl
  cases vs with
  | nil=>simp at hl
  | cons x vs =>
   simp only[wq7,Bool.and_eq_true]at hs
   simp only[mq7,lk]
   by_cases e:v=t
   ·rw[if_pos e];exact⟨x,rfl,hs.1⟩
   ·rw[if_neg e]
    rcases List.mem_cons.1 ht with rfl | ht
    ·exact absurd rfl e
    ·exact ih hs.2 t ht (by simpa using hl)
theorem oj7 {c:Code}{Q R:Exit→Act→World→Prop}(hq:∀e a w,Q e a w→R e a w):∀{n:Nat}{a:Act}{w:World},Code.rounds P c Q n a w→Code.rounds P c R n a w
 | 0,_,_,h=>h
 | n+1,_,_,h=>by
  rw[rounds_succ]at h ⊢
  refine wp_mono h fun e a w q=>?_
  cases e with
  | normal=>exact oj7 hq q
  | _=>exact hq _ _ _ q
def vkb7 [Pan] (E:Env) (nt:Nat) (M:Mp) (σ:AS) (a:Act) (w:World) (ds:Nat→Prop) (Q:Exit→AS→Prop) (e:Exit) (a':Act) (w':World):Prop :=
 ((∀ch,e ≠ .panic ch)∧After E nt M σ a w ds (Q e) a' w')∨∃ch,e = .panic ch∧a'.defers=E.df∧bl7 E M σ.H w ch w'
theorem vkb7.mono [Pan] {ds ds1:Nat→Prop}{Q:Exit→AS→Prop}{e:Exit}(h:vkb7 E nt M σ a w ds1 Q e a' w') (h1:∀t,ds1 t→ds t):vkb7 E nt M σ a w ds Q e a' w':=by
 rcases h with ⟨hp,M1,σ1,q1,q2,q3⟩ | ⟨ch,rfl,hdf,hP⟩
 ·exact .inl ⟨hp,M1,σ1,q1,q2.mono h1,q3⟩
 ·exact .inr ⟨ch,rfl,hdf,hP⟩
theorem ef7 [Pan] (hT:qb7 P ty) (hm:P.follows .mixedOrders=true) {ord:Nat→List Nat×Nat×Option DD}:∀(c:Code),okC nt ord c=true→∀{Q:Exit→AS→Prop}{M:Mp}{σ:AS}{a:Act}{w:World},St E nt M σ a w→awp P ty ord c Q σ →
  c.wp P (vkb7 E nt M σ a w (at7 c) Q) a w
 | .skip,_,Q,M,σ,a,w,h,hw=>wp_skip (.inl ⟨fun _ e=>(by cases e),M,σ,h,Stp.refl _ _ _ _ _,hw⟩)
 | .exit id,_,Q,M,σ,a,w,h,hw=>wp_exit (.inl ⟨fun _ e=>(by cases e),M,σ,h,Stp.refl _ _ _ _ _,hw⟩)
 | .ret,_,Q,M,σ,a,w,h,hw=>wp_ret (.inl ⟨fun _ e=>(by cases e),M,σ,h,Stp.refl _ _ _ _ _,hw⟩)
 | .region id ops dr,hc,Q,M,σ,a,w,h,hw=>by
  simp only[okC,Bool.and_eq_true]at hc
  have hds:∀t,we7 ops.toList t→at7 (.region id ops dr) t:=fun t ⟨o,ho,e⟩=>List.mem_filterMap.2 ⟨o,ho,e⟩
  cases dr with
  | true =>
   simp only[awp,if_true]at hw
   exact dbb7 hT hm (by simpa using hc.2) hc.1 h hw (fun a' w' ⟨M2,σ2,r1,r2,r3⟩=>.inl ⟨fun _ e=>(by cases e),M2,σ2,r1,r2.mono hds,r3⟩) (fun c a d v w hh=>hh.elim (fun hh=>absurd rfl (hh.1 c)) fun ⟨ch,e,hd,hp⟩=>.inr ⟨ch,e,(by cases d <;> exact hd),hp⟩) fun a' ch w' hd hp=>.inr ⟨ch,rfl,hd,hp⟩
  | false =>
   simp only[awp,Bool.false_eq_true,if_false]at hw
   exact wp_region_list (fz7 hT ops.toList h (fc7 hc.1) hw (fun a' w' ⟨M2,σ2,r1,r2,r3⟩=>.inl ⟨fun _ e=>(by cases e),M2,σ2,r1,r2.mono hds,r3⟩) fun a' ch w' hd hp=>.inr ⟨ch,rfl,hd,hp⟩)
 | .seq x y,hc,Q,M,σ,a,w,h,hw=>by
  simp only[okC,Bool.and_eq_true]at hc
  refine wp_seq (wp_mono (ef7 hT hm x hc.1 h (Q:=wi7 (awp P ty ord y Q) Q) hw) fun e a1 w1 hA=>?_)
  rcases hA with ⟨hp,M1,σ1,q1,q2,q3⟩ | ⟨ch,rfl,hdf,hP⟩
  case inr=>exact .inr ⟨ch,rfl,hdf,hP⟩
  cases e with
  | normal =>
   refine wp_mono (ef7 hT hm y hc.2 q1 q3) fun e a2 w2 hB=>?_
   rcases hB with ⟨hp2,M2,σ2,r1,r2,r3⟩ | ⟨ch,rfl,hdf,hP⟩
   ·exact .inl ⟨hp2,M2,σ2,r1,q2.trans r2 (fun t ht=>List.mem_append_left _ ht) (fun t ht=>List.mem_append_right _ ht),r3⟩
   ·exact .inr ⟨ch,rfl,hdf,hP.step q2.kp q2.len⟩
  | panic ch=>exact absurd rfl (hp ch)
  | exit id=>exact .inl ⟨hp,M1,σ1,q1,q2.mono fun t ht=>List.mem_append_left _ ht,q3⟩
  | goto l=>exact .inl ⟨hp,M1,σ1,q1,q2.mono fun t ht=>List.mem_append_left _ ht,q3⟩
  | ret=>exact .inl ⟨hp,M1,σ1,q1,q2.mono fun t ht=>List.mem_append_left _ ht,q3⟩
  | outgrown=>exact .inl ⟨hp,M1,σ1,q1,q2.mono fun t ht=>List.mem_append_left _ ht,q3⟩
 | .cond x y z,hc,Q,M,σ,a,w,h,hw=>by
  simp only[okC,Bool.and_eq_true]at hc
  have hw':sbb7 (σ.rd x) (awp P ty ord y Q σ) (awp P ty ord z Q σ):=hw
  unfold sbb7 at hw'
  split at hw'
  ·rename_i b hb
   have hv:=h.rd (x:=x) (by rw[hb])
   rw[hb]at hv
   have hv':a.eval x = .bool b:=hv
   refine wp_cond hv' ?_
   cases b with
   | true=>exact wp_mono (ef7 hT hm y hc.1 h (hw'.1 rfl)) fun e a1 w1 hA=>hA.mono fun t ht=>List.mem_append_left _ ht
   | false=>exact wp_mono (ef7 hT hm z hc.2 h (hw'.2 rfl)) fun e a1 w1 hA=>hA.mono fun t ht=>List.mem_append_right _ ht
  ·exact hw'.elim
 | .block id x,hc,Q,M,σ,a,w,h,hw=>by
  refine wp_block (wp_mono (ef7 hT hm x hc h (Q:=inB id Q) hw) fun e a1 w1 hA=>?_)
  rcases hA with ⟨hp,M1,σ1,q1,q2,q3⟩ | ⟨ch,rfl,hdf,hP⟩
  case inr=>exact .inr ⟨ch,rfl,hdf,hP⟩
  cases e with
  | exit j =>
   simp only[Exit.inBlock]
   simp only[inB]at q3
   split
   ·rename_i e;rw[if_pos e]at q3;exact .inl ⟨fun _ e=>(by cases e),M1,σ1,q1,q2,q3⟩
   ·rename_i e;rw[if_neg e]at q3;exact .inl ⟨hp,M1,σ1,q1,q2,q3⟩
  | normal=>exact .inl ⟨hp,M1,σ1,q1,q2,q3⟩
  | panic ch=>exact absurd rfl (hp ch)
  | goto l=>exact .inl ⟨hp,M1,σ1,q1,q2,q3⟩
  | ret=>exact .inl ⟨hp,M1,σ1,q1,q2,q3⟩
  | outgrown=>exact .inl ⟨hp,M1,σ1,q1,q2,q3⟩
 | .loop x,hc,Q,M,σ,a,w,h,hw=>by
  rcases (show slb7 (awp P ty ord x) x Q σ∨cfb7 (awp P ty ord x) x Q σ∨∃l:List Unit,if7 (awp P ty ord x) l Q σ from hw) with hw | hw | ⟨l,hw⟩
  case inr.inr =>
   have go:∀(l:List Unit) {M:Mp} {σ:AS} {a:Act} {w:World},St E nt M σ a w→if7 (awp P ty ord x) l Q σ→Code.rounds P x (vkb7 E nt M σ a w (at7 x) Q) l.length a w:=by
    intro l
    induction l with
    | nil=>intro M σ a w _ h;exact h.elim
    | cons u l ih =>
     intro M σ a w h hw
     show Code.rounds P x _ (l.length+1) a w
     rw[rounds_succ]
     refine wp_mono (ef7 hT hm x hc h (Q:=wi7 (if7 (awp P ty ord x) l Q) Q) hw) fun e a1 w1 hA=>?_
     rcases hA with ⟨hp,M1,σ1,q1,q2,q3⟩ | ⟨ch,rfl,hdf,hP⟩
     case inr=>exact .inr ⟨ch,rfl,hdf,hP⟩
     cases e with
     | normal =>
      refine oj7 (fun e a2 w2 hB=>?_) (ih q1 q3)
      rcases hB with ⟨hp2,M2,σ2,r1,r2,r3⟩ | ⟨ch,rfl,hdf,hP⟩
      ·exact .inl ⟨hp2,M2,σ2,r1,q2.trans r2 (fun _ h=>h) (fun _ h=>h),r3⟩
      ·exact .inr ⟨ch,rfl,hdf,hP.step q2.kp q2.len⟩
     | panic ch=>exact absurd rfl (hp ch)
     | exit id=>exact .inl ⟨hp,M1,σ1,q1,q2,q3⟩
     | goto l=>exact .inl ⟨hp,M1,σ1,q1,q2,q3⟩
     | ret=>exact .inl ⟨hp,M1,σ1,q1,q2,q3⟩
     | outgrown=>exact .inl ⟨hp,M1,σ1,q1,q2,q3⟩
   exact wp_loop_rounds _ (go l h hw)
  case inr.inl =>
   obtain⟨ι,d,fx,vy,inv,vals,H,μ,hfx,⟨s0,i0,g0,e0⟩,hsc,round⟩:=hw
   have mk:∀{M1 σ1 a1 w1 s},inv s→St E nt M1 σ1 a1 w1→Stp M σ a w M1 σ1 a1 w1 (at7 x)→gets σ1.tm vy=gh7 (vals s)→σ1.H=H s→St E nt M1 (dq7 σ fx vy (vals s) (H s)) a1 w1∧Stp M σ a w M1 (dq7 σ fx vy (vals s) (H s)) a1 w1 (at7 x):=by
    intro M1 σ1 a1 w1 s hs q1 q2 hg hH
    have s1:=hsc s hs
    have hkp:Kp M σ.H w M1 (H s) w1:=fun x v c=>by
     rw[← hH]
     exact q2.kp x v c
    refine⟨⟨?_,fun t ht=>?_,fun t ht=>?_,q1.sz,q1.df⟩,⟨by show σ.H.length≤(H s).length;omega,hkp,q2.tm⟩⟩
    ·show Rel E M1 (H s) w1
     rw[← hH]
     exact q1.rel
    ·show ha7 M1 (H s) w1 (lk (mq7 vy (vals s) (fxT σ.tm fx)) t).2 _
     have ht':(lk (mq7 vy (vals s) (fxT σ.tm fx)) t).1=true:=ht
     rcases lk7 vy (vals s) (fxT σ.tm fx) σ1.tm hg t with ⟨m1,m2⟩ | ⟨m1,m2⟩
     ·rw[m2]at ht' ⊢
      rw[← hH]
      exact q1.tms t ht'
     ·rw[m2]at ht' ⊢
      rcases wk7 σ.tm fx t with ⟨f1,f2⟩ | ⟨f1,f2⟩
      ·rw[f2]at ht' ⊢
       rw[q2.tm t (ag7 hfx f1)]
       exact hkp.R (h.tms t ht')
      ·rw[f2];trivial
    ·have ht':(lk (mq7 vy (vals s) (fxT σ.tm fx)) t).1=false:=ht
     rcases lk7 vy (vals s) (fxT σ.tm fx) σ1.tm hg t with ⟨m1,m2⟩ | ⟨m1,m2⟩
     ·rw[m2]at ht'
      exact q1.off t ht'
     ·rw[m2]at ht'
      rcases wk7 σ.tm fx t with ⟨f1,f2⟩ | ⟨f1,f2⟩
      ·rw[f2]at ht'
       rw[q2.tm t (ag7 hfx f1)]
       exact h.off t ht'
      ·rw[f2]at ht';cases ht'
   have hd:St E nt M ⟨σ.tm,σ.H++List.replicate d .dead⟩ a w:=⟨h.rel.dead d,fun t ht=>(h.tms t ht).dead d,h.off,h.sz,h.df⟩
   have hstart:=mk i0 hd ⟨by simp,fun x v c=>c.dead d,fun _ _=>rfl⟩ g0 e0
   refine wp_loop_ghost (fun s a1 w1=>∃M1,inv s∧St E nt M1 (dq7 σ fx vy (vals s) (H s)) a1 w1∧Stp M σ a w M1 (dq7 σ fx vy (vals s) (H s)) a1 w1 (at7 x)) μ s0 ⟨M,i0,hstart⟩ ?_
   rintro s a1 w1 ⟨M1,hs,q1,q2⟩
   refine wp_mono (ef7 hT hm x hc q1 (round s hs)) fun e a2 w2 hA=>?_
   rcases hA with ⟨hp,M2,σ2,r1,r2,r3⟩ | ⟨ch,rfl,hdf,hP⟩
   case inr=>exact .inr ⟨ch,rfl,hdf,hP.step q2.kp q2.len⟩
   have r4:=q2.trans r2 (fun _ h=>h) (fun _ h=>h)
   cases e with
   | normal =>
    obtain⟨s',ids,t1,⟨o1,o2⟩,t2,t3,t4⟩:=r3
    have st:=r1.ren r4.len o2
    refine⟨s',⟨ix7 σ.H.length ids M2,t1,mk t1 st ⟨?_,fun x v c=>?_,r4.tm⟩ ?_ t3⟩,t4⟩
    ·show σ.H.length≤(hp7 σ.H.length ids σ2.H).length
     rw[ne7 r4.len];omega
    ·have:=(r4.kp x v c).ren (ids:=ids) r4.len
     rw[yh7 (qj7 c)]at this
     exact this
    ·show gets (oeb7 σ.H.length ids σ2.tm) vy=_
     rw[lp7];exact t2
   | panic ch=>exact absurd rfl (hp ch)
   | exit id=>exact .inl ⟨hp,M2,σ2,r1,r4,r3⟩
   | goto l=>exact .inl ⟨hp,M2,σ2,r1,r4,r3⟩
   | ret=>exact .inl ⟨hp,M2,σ2,r1,r4,r3⟩
   | outgrown=>exact .inl ⟨hp,M2,σ2,r1,r4,r3⟩
  obtain⟨ι,fx,vy,inv,vals,H,μ,hfx,⟨s0,i0,g0,e0⟩,hsc,round⟩:=hw
  have mk:∀{M1 σ1 a1 w1 s},inv s→St E nt M1 σ1 a1 w1→Stp M σ a w M1 σ1 a1 w1 (at7 x)→gets σ1.tm vy=gh7 (vals s)→σ1.H.take σ.H.length=H s→St E nt M1 (dq7 σ fx vy (vals s) (H s)) a1 w1∧Stp M σ a w M1 (dq7 σ fx vy (vals s) (H s)) a1 w1 (at7 x):=by
   intro M1 σ1 a1 w1 s hs q1 q2 hg hH
   obtain⟨s1,s2,s3,s4⟩:=hsc s hs
   have hkp:Kp M σ.H w M1 (H s) w1:=fun x v c=>by
    rw[← hH]
    exact (q2.kp x v c).take q2.len (qj7 c)
   refine⟨⟨?_,fun t ht=>?_,fun t ht=>?_,q1.sz,q1.df⟩,⟨by show σ.H.length≤(H s).length;omega,hkp,q2.tm⟩⟩
   ·show Rel E M1 (H s) w1
    rw[← hH]
    exact q1.rel.take q2.len (by rw[hH];exact s3)
   ·show ha7 M1 (H s) w1 (lk (mq7 vy (vals s) (fxT σ.tm fx)) t).2 _
    have ht':(lk (mq7 vy (vals s) (fxT σ.tm fx)) t).1=true:=ht
    rcases lk7 vy (vals s) (fxT σ.tm fx) σ1.tm hg t with ⟨m1,m2⟩ | ⟨m1,m2⟩
    ·obtain⟨y,y1,y2⟩:=uu7 (tm:=fxT σ.tm fx) s2 t m1 s4
     rw[m2]at ht' ⊢
     rw[m2]at y1
     have:=q1.tms t ht'
     rw[y1]at this ⊢
     rw[← hH]
     exact ha7.take q2.len y2 this
    ·rw[m2]at ht' ⊢
     rcases wk7 σ.tm fx t with ⟨f1,f2⟩ | ⟨f1,f2⟩
     ·rw[f2]at ht' ⊢
      rw[q2.tm t (ag7 hfx f1)]
      exact hkp.R (h.tms t ht')
     ·rw[f2];trivial
   ·have ht':(lk (mq7 vy (vals s) (fxT σ.tm fx)) t).1=false:=ht
    rcases lk7 vy (vals s) (fxT σ.tm fx) σ1.tm hg t with ⟨m1,m2⟩ | ⟨m1,m2⟩
    ·obtain⟨y,y1,y2⟩:=uu7 (tm:=fxT σ.tm fx) s2 t m1 s4
     rw[y1]at ht';cases ht'
    ·rw[m2]at ht'
     rcases wk7 σ.tm fx t with ⟨f1,f2⟩ | ⟨f1,f2⟩
     ·rw[f2]at ht'
      rw[q2.tm t (ag7 hfx f1)]
      exact h.off t ht'
     ·rw[f2]at ht';cases ht'
  have hstart:=mk i0 h (Stp.refl _ _ _ _ _) g0 (by rw[List.take_length];exact e0)
  refine wp_loop_ghost (fun s a1 w1=>∃M1,inv s∧St E nt M1 (dq7 σ fx vy (vals s) (H s)) a1 w1∧Stp M σ a w M1 (dq7 σ fx vy (vals s) (H s)) a1 w1 (at7 x)) μ s0 ⟨M,i0,hstart⟩ ?_
  rintro s a1 w1 ⟨M1,hs,q1,q2⟩
  refine wp_mono (ef7 hT hm x hc q1 (round s hs)) fun e a2 w2 hA=>?_
  rcases hA with ⟨hp,M2,σ2,r1,r2,r3⟩ | ⟨ch,rfl,hdf,hP⟩
  case inr=>exact .inr ⟨ch,rfl,hdf,hP.step q2.kp q2.len⟩
  have r4:=q2.trans r2 (fun _ h=>h) (fun _ h=>h)
  cases e with
  | normal =>
   obtain⟨s',t1,t2,t3,t4⟩:=r3
   exact⟨s',⟨M2,t1,mk t1 r1 r4 t2 t3⟩,t4⟩
  | panic ch=>exact absurd rfl (hp ch)
  | exit id=>exact .inl ⟨hp,M2,σ2,r1,r4,r3⟩
  | goto l=>exact .inl ⟨hp,M2,σ2,r1,r4,r3⟩
  | ret=>exact .inl ⟨hp,M2,σ2,r1,r4,r3⟩
  | outgrown=>exact .inl ⟨hp,M2,σ2,r1,r4,r3⟩
 | .label l,_,Q,M,σ,a,w,h,hw=>(by cases hw)
 | .goto l,_,Q,M,σ,a,w,h,hw=>(by cases hw)
 | .scope b,_,Q,M,σ,a,w,h,hw=>(by cases hw)
 | .rangeFunc ..,_,Q,M,σ,a,w,h,hw=>(by cases hw)
 | .refuse y,_,Q,M,σ,a,w,h,hw=>(by cases hw)
end
def Eqv:AV→AV→Prop
 | .sl n sz f,y=>∃g,y = .sl n sz g∧∀i,i<n→∀j,j<sz→Eqv (f i j) (g i j)
 | .nils,y=>y = .nils∨∃sz g,y = .sl 0 sz g
 | .int k n,y=>y = .int k n
 | .bool b,y=>y = .bool b
 | .flt b,y=>y = .flt b
 | .str b,y=>y = .str b
 | .nilp,y=>y = .nilp
 | .rp n f,y=>y = .rp n f
 | .ptr ..,_=>False
 | .h ..,_=>False
 | .ws ..,_=>False
 | .wu ..,_=>False
 | .wp ..,_=>False
 | .junk,y=>y = .junk
def qrb7:List AV→List AV→Prop
 | [],m=>m=[]
 | a::l,m=>∃b r,m=b::r∧(a=b∨Eqv a b)∧qrb7 l r
def mcb7:RV→RV→Prop
 | .c a,y=>∃b,y = .c b∧(a=b∨Eqv a b)
 | .agg l,y=>∃m,y = .agg m∧qrb7 l m
 | _,_=>False
def fx7:List RV→List RV→Prop
 | [],m=>m=[]
 | a::l,m=>∃b r,m=b::r∧(a=b∨mcb7 a b)∧fx7 l r
def wx7:RV→RV→Prop
 | .tup l,y=>∃m,y = .tup m∧fx7 l m
 | x,y=>mcb7 x y
theorem lb7.eqv {rho:Nat→Prop}{w:World}:∀{x y:AV}{v:Value},lb7 rho w x v→Eqv x y→lb7 rho w y v
 | .sl n sz f,y,v,⟨a,b,off,c,h1,h2,h3,h4,h5⟩,⟨g,e,hg⟩=>by
  subst e
  refine⟨a,b,off,c,h1,h2,h3,h4,fun i hi j hj=>?_⟩
  obtain⟨u,hu,hc⟩:=h5 i hi j hj
  exact⟨u,hu,hc.eqv (hg i hi j hj)⟩
 | .nils,y,v,h,e=>by
  rcases e with rfl | ⟨sz,g,rfl⟩
  ·exact h
  ·exact⟨none,0,0,0,h,Nat.le_refl _,Nat.zero_le _,fun h=>absurd h (Nat.not_lt_zero _),fun i hi=>absurd hi (Nat.not_lt_zero _)⟩
 | .int ..,_,_,h,e=>by cases e;exact h
 | .bool _,_,_,h,e=>by cases e;exact h
 | .flt _,_,_,h,e=>by cases e;exact h
 | .str _,_,_,h,e=>by cases e;exact h
 | .nilp,_,_,h,e=>by cases e;exact h
 | .rp ..,_,_,h,e=>by cases e;exact h
 | .junk,_,_,_,e=>by cases e;trivial
 | .ptr ..,_,_,h,_=>h.elim
 | .h ..,_,_,h,_=>h.elim
theorem lb7.eqv' {rho:Nat→Prop}{w:World}{x y:AV}{v:Value}(h:lb7 rho w x v) (e:x=y∨Eqv x y):lb7 rho w y v:=by
 rcases e with rfl | e
 ·exact h
 ·exact h.eqv e
def vc7 (rho:Nat→Prop) (w:World):RV→Value→Prop
 | .c a,v=>lb7 rho w a v
 | .agg l,v=>∃vs:List Value,v = .agg vs.toArray∧hc7 rho w l vs
 | .fn f caps nb,v=>∃vs:List Value,v = .func (.func f) (vs.take nb).toArray (vs.drop nb).toArray∧hc7 rho w caps vs
 | .tup _,_=>False
 | .ifc ..,_=>False
def kb7 (rho:Nat→Prop) (w:World):List RV→List Value→Prop
 | [],vs=>vs=[]
 | a::l,vs=>∃v r,vs=v::r∧vc7 rho w a v∧kb7 rho w l r
def uc7 (rho:Nat→Prop) (w:World):RV→Value→Prop
 | .tup l,v=>∃vs:List Value,v = .tuple vs.toArray∧kb7 rho w l vs
 | x,v=>vc7 rho w x v
section
variable {rho rho':Nat→Prop} {w w':World}
theorem hc7.eqv:∀{l m:List AV}{vs:List Value},hc7 rho w l vs→qrb7 l m→hc7 rho w m vs
 | [],_,_,h,e=>by cases e;exact h
 | _::_,_,_,⟨v,r,h,h1,h2⟩,⟨b,m,e,e1,e2⟩=>by subst e;exact⟨v,r,h,h1.eqv' e1,hc7.eqv h2 e2⟩
theorem vc7.eqv:∀{x y:RV}{v:Value},vc7 rho w x v→mcb7 x y→vc7 rho w y v
 | .c _,_,_,h,⟨b,e,e1⟩=>by subst e;exact lb7.eqv' h e1
 | .agg _,_,_,⟨vs,h,h1⟩,⟨m,e,e1⟩=>by subst e;exact⟨vs,h,h1.eqv e1⟩
theorem kb7.eqv:∀{l m:List RV}{vs:List Value},kb7 rho w l vs→fx7 l m→kb7 rho w m vs
 | [],_,_,h,e=>by cases e;exact h
 | _::_,_,_,⟨v,r,h,h1,h2⟩,⟨b,m,e,e1,e2⟩=>by
  subst e
  refine⟨v,r,h, ?_,kb7.eqv h2 e2⟩
  rcases e1 with rfl | e1
  ·exact h1
  ·exact h1.eqv e1
theorem uc7.eqv {x y:RV}{v:Value}(h:uc7 rho w x v) (e:wx7 x y):uc7 rho w y v:=by
 cases x with
 | ifc=>exact e.elim
 | tup l =>
  obtain⟨m,rfl,e⟩:=e
  obtain⟨vs,h1,h2⟩:=h
  exact⟨vs,h1,h2.eqv e⟩
 | c a=>obtain⟨b,rfl,e⟩:=e;exact lb7.eqv' h e
 | agg l=>obtain⟨b,rfl,e⟩:=e;obtain⟨vs,h1,h2⟩:=h;exact⟨vs,h1,h2.eqv e⟩
 | fn=>exact e.elim
theorem hc7.keep (hb:∀b,rho b→w'.heap[b]? = w.heap[b]?) (hr:∀b,rho b→rho' b):∀{l:List AV}{vs:List Value},hc7 rho w l vs→hc7 rho' w' l vs
 | [],_,h=>h
 | _::_,_,⟨v,r,h,h1,h2⟩=>⟨v,r,h,h1.keep hb hr,hc7.keep hb hr h2⟩
theorem vc7.keep (hb:∀b,rho b→w'.heap[b]? = w.heap[b]?) (hr:∀b,rho b→rho' b):∀{x:RV}{v:Value},vc7 rho w x v→vc7 rho' w' x v
 | .c _,_,h=>lb7.keep hb hr h
 | .agg _,_,⟨vs,h,h1⟩=>⟨vs,h,h1.keep hb hr⟩
 | .fn ..,_,⟨vs,h,h1⟩=>⟨vs,h,h1.keep hb hr⟩
theorem kb7.keep (hb:∀b,rho b→w'.heap[b]? = w.heap[b]?) (hr:∀b,rho b→rho' b):∀{l:List RV}{vs:List Value},kb7 rho w l vs→kb7 rho' w' l vs
 | [],_,h=>h
 | _::_,_,⟨v,r,h,h1,h2⟩=>⟨v,r,h,h1.keep hb hr,kb7.keep hb hr h2⟩
theorem uc7.keep (hb:∀b,rho b→w'.heap[b]? = w.heap[b]?) (hr:∀b,rho b→rho' b) {x:RV}{v:Value}(h:uc7 rho w x v):uc7 rho' w' x v:=by
 cases x with
 | ifc=>exact h.elim
 | tup l=>obtain⟨vs,h1,h2⟩:=h;exact⟨vs,h1,h2.keep hb hr⟩
 | c a=>exact vc7.keep (x:=.c a) hb hr h
 | agg l=>exact vc7.keep (x:=.agg l) hb hr h
 | fn f l nb=>exact vc7.keep (x:=.fn f l nb) hb hr h
variable {M:Mp} {H:List Root}
theorem hc7.up:∀{l:List AV}{vs:List Value},hc7 M.rho w l vs→mb7 M H w l vs
 | [],_,h=>h
 | _::_,_,⟨v,r,h,h1,h2⟩=>⟨v,r,h,Con.of0 h1,hc7.up h2⟩
theorem vc7.up:∀{x:RV}{v:Value},vc7 M.rho w x v→ha7 M H w x v
 | .c _,_,h=>Con.of0 h
 | .agg _,_,⟨vs,h,h1⟩=>⟨vs,h,h1.up⟩
 | .fn ..,_,⟨vs,h,h1⟩=>⟨vs,h,h1.up⟩
theorem kb7.up:∀{l:List RV}{vs:List Value},kb7 M.rho w l vs→ab7 M H w l vs
 | [],_,h=>h
 | _::_,_,⟨v,r,h,h1,h2⟩=>⟨v,r,h,h1.up,kb7.up h2⟩
theorem uc7.up {x:RV}{v:Value}(h:uc7 M.rho w x v):ha7 M H w x v:=by
 cases x with
 | ifc=>exact h.elim
 | tup l=>obtain⟨vs,h1,h2⟩:=h;exact⟨vs,h1,h2.up⟩
 | c a=>exact vc7.up (x:=.c a) h
 | agg l=>exact vc7.up (x:=.agg l) h
 | fn f l nb=>exact vc7.up (x:=.fn f l nb) h
end
def cf7 (P:Program) (f:FuncId) (args:List RV) (post:RV→Prop):Prop :=
 Enters P f∧∀(rho:Nat→Prop) (w:World) (vs:List Value),uh7 rho w→(∀b,rho b→b<w.heap.size)→kb7 rho w args vs →
  Calls P f vs.toArray w fun e w'=>∃r v rho',e = .returned v∧post r∧uc7 rho' w' r v∧(∀b,rho' b→rho b∨(w.heap.size≤b∧b<w'.heap.size))∧Below w.heap.size w w'
def yx7 (H:List Root):RV→RV
 | .c a=>.c (frz H a)
 | .agg l=>.agg (hh7 H l)
 | .fn f l nb=>.fn f (hh7 H l) nb
 | .tup l=>.tup l
 | .ifc t x=>.ifc t x
def zl7 (H:List Root):List RV→List RV
 | []=>[]
 | a::l=>yx7 H a::zl7 H l
def ncb7 (H:List Root):RV→RV
 | .tup l=>.tup (zl7 H l)
 | x=>yx7 H x
def okR (H:List Root):RV→Prop
 | .c a=>bb7 H [a]
 | .agg l=>bb7 H l
 | .fn _ l _=>bb7 H l
 | .tup _=>False
 | .ifc .. => False
def yl7 (H:List Root):List RV→Prop
 | []=>True
 | a::l=>okR H a∧yl7 H l
def okT (H:List Root):RV→Prop
 | .tup l=>yl7 H l
 | x=>okR H x
def rn7 (H:List Root):RV→List Root
 | .c a=>frzH H [a]
 | .agg l=>frzH H l
 | .fn _ l _=>frzH H l
 | .tup _=>H
 | .ifc .. => H
def rf7:List Root→List RV→List Root
 | H,[]=>H
 | H,a::l=>rf7 (rn7 H a) l
section
variable {P:Program} {ty:Ty} {E:Env} {nt:Nat} {M M':Mp} {H:List Root} {σ σ':AS} {a a':Act} {w w':World}
theorem sh7:∀(l:List AV) {H:List Root},(∀id st len,AV.h id st len∈l→∃fz t sz r,aa7 H id = .live fz t sz r)→(∀x,frz (frzH H l) x=frz H x)∧(∀m,bb7 H m→bb7 (frzH H l) m)∧∀id,(∃fz t sz r,aa7 H id = .live fz t sz r)→∃fz t sz r,aa7 (frzH H l) id = .live fz t sz r
 | [],_,_=>⟨fun _=>rfl,fun _ h=>h,fun _ h=>h⟩
 | a::l,H,h=>by
  have plain:frzH H (a::l)=frzH H l→(∀x,frz (frzH H (a::l)) x=frz H x)∧(∀m,bb7 H m→bb7 (frzH H (a::l)) m)∧∀id,(∃fz t sz r,aa7 H id = .live fz t sz r)→∃fz t sz r,aa7 (frzH H (a::l)) id = .live fz t sz r:=fun e=>by
   obtain⟨h1,h2,h3⟩:=sh7 l (H:=H) (fun id st len hm=>h id st len (List.mem_cons_of_mem _ hm))
   rw[e]
   exact⟨h1,h2,h3⟩
  cases a with
  | h id st len =>
   obtain⟨fz,t,sz,r,hr⟩:=h id st len (List.mem_cons_self ..)
   have hlive:∀id',(∃fz t sz r,aa7 H id' = .live fz t sz r)→∃fz t sz r,aa7 (ca7 H id (aa7 H id).mark) id' = .live fz t sz r:=fun id' ⟨f,t2,s2,r2,h2⟩=>by
    rw[re7 hr]
    by_cases e:id'=id
    ·exact⟨true,t,sz,r,by rw[if_pos e]⟩
    ·exact⟨f,t2,s2,r2,by rw[if_neg e];exact h2⟩
   obtain⟨h1,h2,h3⟩:=sh7 l (H:=ca7 H id (aa7 H id).mark) (fun id' st len hm=>hlive _ (h id' st len (List.mem_cons_of_mem _ hm)))
   exact⟨fun x=>by simp only[frzH];rw[h1,lv7 hr],fun m hm=>h2 m (tf7 hr m hm),fun id' h'=>h3 id' (hlive id' h')⟩
  | _=>exact plain rfl
theorem fb7:∀{l:List AV},bb7 H l→∀id st len,AV.h id st len∈l→∃fz t sz r,aa7 H id = .live fz t sz r
 | a::l,h,id,st,len,hm=>by
  rcases List.mem_cons.1 hm with rfl | hm2
  ·have:=h.1
   unfold an7 at this
   split at this
   ·rename_i fz t sz r hr;exact⟨fz,t,sz,r,hr⟩
   ·exact this.elim
  ·cases a with
   | h=>exact fb7 h.2 id st len hm2
   | ptr=>exact h.elim
   | junk=>exact h.elim
   | ws=>exact h.elim
   | wu=>exact h.elim
   | wp=>exact h.elim
   | int=>exact fb7 (l:=l) h id st len hm2
   | bool=>exact fb7 (l:=l) h id st len hm2
   | flt=>exact fb7 (l:=l) h id st len hm2
   | str=>exact fb7 (l:=l) h id st len hm2
   | nilp=>exact fb7 (l:=l) h id st len hm2
   | nils=>exact fb7 (l:=l) h id st len hm2
   | sl=>exact fb7 (l:=l) h id st len hm2
   | rp=>exact fb7 (l:=l) h id st len hm2
theorem zq7 {H':List Root}(h:∀x,frz H' x=frz H x):∀l:List AV,hh7 H' l=hh7 H l
 | []=>rfl
 | x::l=>by simp[hh7,h,zq7 h l]
theorem cn7 {H':List Root}(h:∀x,frz H' x=frz H x):∀l:List RV,zl7 H' l=zl7 H l
 | []=>rfl
 | x::l=>by cases x <;> simp[zl7,yx7,h,zq7 h,cn7 h l]
theorem bk7 (h:Rel E M H w) {x:RV}{v:Value}(ho:okR H x) (hc:ha7 M H w x v):∃M',(M'.phi=M.phi∧M'.off=M.off)∧(∀b,M.rho b→M'.rho b)∧Rel E M' (rn7 H x) w∧Kp M H w M' (rn7 H x) w∧vc7 M'.rho w (yx7 H x) v ∧
  (∀y,frz (rn7 H x) y=frz H y)∧(∀m,bb7 H m→bb7 (rn7 H x) m):=by
 cases x with
 | ifc=>exact ho.elim
 | c a =>
  obtain⟨M',e1,e2,e3,e4,e5⟩:=mh7 [a] h ho
  obtain⟨f1,f2,-⟩:=sh7 [a] (fb7 ho)
  obtain⟨u,r,e,c1,-⟩:=e5 [v] ⟨v,[],rfl,hc,rfl⟩
  cases e
  exact⟨M',e1,e2,e3,e4,c1,f1,f2⟩
 | agg l =>
  obtain⟨M',e1,e2,e3,e4,e5⟩:=mh7 l h ho
  obtain⟨f1,f2,-⟩:=sh7 l (fb7 ho)
  obtain⟨vs,rfl,c⟩:=hc
  exact⟨M',e1,e2,e3,e4,⟨vs,rfl,e5 vs c⟩,f1,f2⟩
 | fn f l nb =>
  obtain⟨M',e1,e2,e3,e4,e5⟩:=mh7 l h ho
  obtain⟨f1,f2,-⟩:=sh7 l (fb7 ho)
  obtain⟨vs,rfl,c⟩:=hc
  exact⟨M',e1,e2,e3,e4,⟨vs,rfl,e5 vs c⟩,f1,f2⟩
 | tup l=>exact ho.elim
theorem kj7 {H':List Root}(hm:∀m,bb7 H m→bb7 H' m):∀{l:List RV},yl7 H l→yl7 H' l
 | [],_=>trivial
 | .c _::_,h=>⟨hm _ h.1,kj7 hm h.2⟩
 | .agg _::_,h=>⟨hm _ h.1,kj7 hm h.2⟩
 | .fn .. :: _,h=>⟨hm _ h.1,kj7 hm h.2⟩
theorem hj7:∀(l:List RV) {M:Mp}{H:List Root}{vs:List Value},Rel E M H w→yl7 H l→ab7 M H w l vs→∃M',(M'.phi=M.phi∧M'.off=M.off)∧(∀b,M.rho b→M'.rho b)∧Rel E M' (rf7 H l) w∧Kp M H w M' (rf7 H l) w∧kb7 M'.rho w (zl7 H l) vs
 | [],M,H,vs,h,_,hc=>⟨M,⟨rfl,rfl⟩,fun _ h=>h,h,Kp.refl _ _ _,hc⟩
 | x::l,M,H,_,h,ho,⟨v,r,e,h1,h2⟩=>by
  subst e
  obtain⟨M1,e1,e2,e3,e4,e5,e6,e7⟩:=bk7 h ho.1 h1
  obtain⟨M2,k1,k2,k3,k4,k5⟩:=hj7 l e3 (kj7 e7 ho.2) (e4.RL h2)
  refine⟨M2,⟨k1.1.trans e1.1,k1.2.trans e1.2⟩,fun b hb=>k2 b (e2 b hb),k3,e4.trans k4,v,r,rfl,e5.keep (fun _ _=>rfl) k2, ?_⟩
  rwa [cn7 e6]at k5
theorem zgb7 (h:Rel E M H w) {x:RV}{v:Value}(ho:okT H x) (hc:ha7 M H w x v):∃M' H',Rel E M' H' w∧uc7 M'.rho w (ncb7 H x) v:=by
 cases x with
 | ifc=>exact ho.elim
 | tup l =>
  obtain⟨vs,rfl,c⟩:=hc
  obtain⟨M',-,-,e3,-,e5⟩:=hj7 l h ho c
  exact⟨M',_,e3,vs,rfl,e5⟩
 | c a=>obtain⟨M',-,-,e3,-,e5,-⟩:=bk7 (x:=.c a) h ho hc;exact⟨M',_,e3,e5⟩
 | agg l=>obtain⟨M',-,-,e3,-,e5,-⟩:=bk7 (x:=.agg l) h ho hc;exact⟨M',_,e3,e5⟩
 | fn f l nb=>obtain⟨M',-,-,e3,-,e5,-⟩:=bk7 (x:=.fn f l nb) h ho hc;exact⟨M',_,e3,e5⟩
section
variable (ty)
def oib7 (σ:AS):ResultVar→Vo
 | .tmp t=>((lk σ.tm t).1=true,(lk σ.tm t).2)
 | .cell a t=>((lk σ.tm a).1=true∧(gl7 (ty t) σ.H (lk σ.tm a).2).1,(gl7 (ty t) σ.H (lk σ.tm a).2).2)
def xh7 (σ:AS):List ResultVar→Prop×List RV
 | []=>(True,[])
 | r::l=>((oib7 ty σ r).1∧(xh7 σ l).1,(oib7 ty σ r).2::(xh7 σ l).2)
def one:List RV→RV
 | [x]=>x
 | l=>.tup l
def sjb7 (rs:List ResultVar) (K:RV→List Root→Prop):Exit→AS→Prop
 | .ret,σ=>(xh7 ty σ rs).1∧K (one (xh7 ty σ rs).2) σ.H
 | .normal,σ=>(xh7 ty σ rs).1∧K (one (xh7 ty σ rs).2) σ.H
 | _,_=>False
end
def yq7 (a:Act):ResultVar→Sem Value
 | .tmp t=>pure (a.tmps.getD t undef)
 | .cell x t=>do loadVar t (← asAddr (a.tmps.getD x undef))
theorem fhb7 (hT:qb7 P ty) (h:St E nt M σ a w) {r:ResultVar}(ho:(oib7 ty σ r).1):∃v,ha7 M σ.H w (oib7 ty σ r).2 v∧(yq7 a r).run P w = .ok v w:=by
 cases r with
 | tmp t=>exact⟨_,h.tms t ho,rfl⟩
 | cell x t =>
  obtain⟨h1,h2⟩:=ho
  have hc:=h.tms x h1
  obtain⟨v,k1,k2⟩:=yt7 hT h.rel t hc h2
  refine⟨v,k1, ?_⟩
  have k3:=k2 w Same.refl
  show (do loadVar t (← asAddr (a.tmps.getD x undef)):Sem Value).run P w=_
  obtain⟨u,hu⟩:∃u,u=a.tmps.getD x undef:=⟨_,rfl⟩
  rw[← hu]at k3 ⊢
  clear hu
  cases u <;> first | (simp[Instr.loadAt,Instr.sureAddr,stuck]at k3;done) | skip
  rename_i p
  cases p with
  | none=>simp[Instr.loadAt,Instr.sureAddr,stuck]at k3
  | some ad =>
   simp only[Instr.loadAt,Instr.sureAddr]at k3
   simpa[asAddr]using k3
theorem uab7 (hT:qb7 P ty) (h:St E nt M σ a w):∀(rs:List ResultVar),(xh7 ty σ rs).1→∃vs,ab7 M σ.H w (xh7 ty σ rs).2 vs∧(rs.mapM (yq7 a)).run P w = .ok vs w
 | [],_=>⟨[],rfl,rfl⟩
 | r::rs,ho=>by
  obtain⟨v,h1,h2⟩:=fhb7 hT h ho.1
  obtain⟨vs,h3,h4⟩:=uab7 hT h rs ho.2
  refine⟨v::vs,⟨v,vs,rfl,h1,h3⟩, ?_⟩
  rw[List.mapM_cons,Sem.run_bind,h2]
  simp only[Result.andThen]
  rw[Sem.run_bind,h4]
  rfl
theorem sk7:∀{l:List RV}{vs:List Value},ab7 M H w l vs→vs.length=l.length
 | [],_,h=>by cases h;rfl
 | _::_,_,⟨v,r,e,_,h⟩=>by subst e;simp[sk7 h]
theorem wf7 (hT:qb7 P ty) (h:St E nt M σ a w) {fn:Func}{rs:List ResultVar}(hr:fn.results.toList=rs) (ho:(xh7 ty σ rs).1):∃v,ha7 M σ.H w (one (xh7 ty σ rs).2) v∧(results fn a.tmps).run P w = .ok v w:=by
 obtain⟨vs,h1,h2⟩:=uab7 hT h rs ho
 have hrun:(results fn a.tmps).run P w = .ok (if h:vs.toArray.size=1 then vs.toArray[0] else .tuple vs.toArray) w:=by
  have hfun:∀f:ResultVar→Sem Value,(∀r,f r=yq7 a r)→fn.results.mapM f=fn.results.mapM (yq7 a):=fun f hf=>by rw[funext hf]
  unfold results
  rw[Sem.run_bind,hfun _ (fun r=>by cases r <;> rfl),Array.mapM_eq_mapM_toList,hr]
  have:((List.toArray <$> rs.mapM (yq7 a)):Sem (Array Value)).run P w = .ok vs.toArray w:=by
   rw[map_eq_pure_bind,Sem.run_bind,h2];rfl
  rw[this]
  rfl
 refine⟨_, ?_,hrun⟩
 have hl:=sk7 h1
 generalize (xh7 ty σ rs).2=l at h1 hl
 match l,vs,h1,hl with
 | [x],[v],⟨v',r,e,c1,c2⟩,_=>cases e;exact c1
 | [],[],h1,_=>exact⟨[],rfl,h1⟩
 | x::y::l,v::u::vs,h1,_ =>
  have:¬(v::u::vs).toArray.size=1:=by simp
  rw[dif_neg this]
  exact⟨_,rfl,h1⟩
def dv7:Nat→List RV→Tm
 | _,[]=>[]
 | k,x::l=>(k,true,x)::dv7 (k+1) l
theorem zs7:∀(l:List RV) (k t:Nat) (vs:List Value),ab7 M H w l vs→(lk (dv7 k l) t).1=true∧(∀v,(k≤t∧vs[t-k]? = some v)→ha7 M H w (lk (dv7 k l) t).2 v)∧((t<k∨k+vs.length≤t)→(lk (dv7 k l) t).2 = .c .junk)
 | [],k,t,vs,h=>by cases h;exact⟨rfl,fun v h=>by simp at h,fun _=>rfl⟩
 | x::l,k,t,_,⟨v,r,e,h1,h2⟩=>by
  subst e
  simp only[dv7,lk]
  by_cases e:k=t
  ·subst e
   rw[if_pos rfl]
   exact⟨rfl,fun u hu=>by simp at hu;subst hu;exact h1,fun h=>by simp at h;omega⟩
  ·rw[if_neg e]
   obtain⟨i1,i2,i3⟩:=zs7 l (k+1) t r h2
   refine⟨i1,fun u ⟨hu1,hu2⟩=>i2 u ⟨by omega, ?_⟩,fun h=>i3 (by simp at h;omega)⟩
   rw[show t-k=(t-(k+1))+1 by omega]at hu2
   simpa using hu2
theorem Rel.env (h:Rel E M H w) (d:List Deferred):Rel ⟨E.W0,E.rho0,d,E.ex,E.exk⟩ M H w:=⟨⟨h.bel.os,h.bel.tape,h.bel.output,h.bel.size,h.bel.block⟩,h.low,h.row,h.froz,h.thaw,h.inj,h.rlt,h.src,h.tau⟩
theorem Rel.env2 {d:List Deferred}(h:Rel ⟨E.W0,E.rho0,d,E.ex,E.exk⟩ M H w):Rel E M H w:=⟨⟨h.bel.os,h.bel.tape,h.bel.output,h.bel.size,h.bel.block⟩,h.low,h.row,h.froz,h.thaw,h.inj,h.rlt,h.src,h.tau⟩
theorem St.enter (h:Rel E M H w) (hdf:E.df=[]) {args:List RV}{vs:List Value}(hc:ab7 M H w args vs) {n:Nat}(hn:args.length≤n):St E n M ⟨dv7 0 args,H⟩ ⟨vs.toArray++Array.replicate (n-vs.toArray.size) undef,[]⟩ w:=by
 have hl:=sk7 hc
 refine⟨h,fun t ht=>?_,fun t ht=>?_,by simp;omega,hdf.symm⟩
 ·obtain⟨i1,i2,i3⟩:=zs7 args 0 t vs hc
  show ha7 M H w (lk (dv7 0 args) t).2 ((vs.toArray++Array.replicate (n-vs.toArray.size) undef).getD t undef)
  by_cases hlt:t<vs.length
  ·have:(vs.toArray++Array.replicate (n-vs.toArray.size) undef).getD t undef=vs[t]:=by
    rw[Array.getD_eq_getD_getElem?,Array.getElem?_append_left (by simpa using hlt)]
    simp[hlt]
   rw[this]
   exact i2 _ ⟨Nat.zero_le _,by simp[hlt]⟩
  ·rw[i3 (.inr (by omega))];trivial
 ·obtain⟨i1,-⟩:=zs7 args 0 t vs hc
  have ht':(lk (dv7 0 args) t).1=false:=ht
  rw[i1]at ht';cases ht'
def ctb7 (post:RV→Prop) (r:RV) (H:List Root):Prop:=okT H r∧∃r',wx7 (ncb7 H r) r'∧post r'
theorem jj7 (hT : qb7 P ty) (hm : P.follows .mixedOrders = true) {f : FuncId} {fn : Func} {c : Code} (ord : Nat → List Nat × Nat × Option DD) (hf : P.funcs[f]? = some fn) (hb : fn.body = some c) (hname : (fn.name == "runtime.NumGoroutine") = false) {n : Nat} (hnt : fn.ntmps = n) {rs : List ResultVar} (hr : fn.results.toList = rs)
  (hok:okC n ord c=true) {args:List RV} (hn:args.length≤n) {post:RV→Prop}
  (h:awp P ty ord c (sjb7 ty rs (ctb7 post)) ⟨dv7 0 args,[]⟩):cf7 P f args post:=by
 refine⟨⟨fn,c,hf,hname,hb⟩,fun rho w vs hgl hrho hc=>calls_of_wp hf hb ?_⟩
 have hrel:Rel (Env.of w rho) ⟨fun _=>0,fun _=>0,rho,fun _=>none⟩ [] w:=⟨Bel.of _ _,fun _ _ _ _ _ h=>(by cases h),fun _ _ _ _ _ h=>(by cases h),fun _ _ _ _ h=>(by cases h),fun _ _ _ _ h=>(by cases h),fun _ _ _ _ _ _ _ _ h=>(by cases h),hrho,⟨fun b hb=>.inl hb,hgl⟩,⟨fun _ _ h=>(by cases h),fun _ _ _ _ _ _ _ h=>(by cases h),fun _ _ _ h=>(by cases h)⟩⟩
 have hst:=St.enter hrel rfl (kb7.up (M:=⟨fun _=>0,fun _=>0,rho,fun _=>none⟩) (H:=[]) hc) (n:=n) hn
 rw[hnt]
 refine wp_mono (ef7 hT hm c hok hst h) fun e a' w' hA=>?_
 rcases hA with ⟨hp,M',σ',q1,q2,q3⟩ | ⟨ch,rfl,-,hP⟩
 case inr=>exact (pa7 hP).elim
 have fin:(xh7 ty σ' rs).1∧(okT σ'.H (one (xh7 ty σ' rs).2)∧∃r',wx7 (ncb7 σ'.H (one (xh7 ty σ' rs).2)) r'∧post r')→a'.defers=[]∧∃v,(results fn a'.tmps).run P w' = .ok v w'∧∃r v' rho',Ending.returned v = .returned v'∧post r∧uc7 rho' w' r v'∧(∀b,rho' b→rho b∨(w.heap.size≤b∧b<w'.heap.size))∧Below w.heap.size w w':=by
  rintro⟨h1,h2,r',h3,h4⟩
  obtain⟨v,k1,k2⟩:=wf7 hT q1 hr h1
  obtain⟨M2,H2,k3,k4⟩:=zgb7 q1.rel h2 k1
  refine⟨q1.df,v,k2,r',v,M2.rho,rfl,h4,k4.eqv h3,fun b hb=>?_,q1.rel.belN⟩
  rcases k3.src.1 b hb with h | h | h
  ·exact .inl h
  ·exact .inr ⟨h,k3.rlt b hb⟩
  ·exact h.elim
 cases e with
 | normal=>exact fin q3
 | ret=>exact fin q3
 | panic ch=>exact absurd rfl (hp ch)
 | exit id=>exact q3.elim
 | goto l=>exact q3.elim
 | outgrown=>exact q3.elim
def AV.scal:AV→Bool
 | .int .. | .bool _ | .flt _ | .str _ | .nilp | .nils=>true
 | _=>false
def vw7:List AV→Bool
 | []=>true
 | a::l=>a.scal&&vw7 l
def ieb7:RV→Bool
 | .c a=>a.scal
 | .agg l=>vw7 l
 | _=>false
def zm7:List RV→Bool
 | []=>true
 | a::l=>ieb7 a&&zm7 l
def io7:RV→Bool
 | .tup l=>zm7 l
 | x=>ieb7 x
theorem cv7 {rho rho':Nat→Prop}{x:AV}{v:Value}(hs:x.scal=true) (h:lb7 rho w x v):lb7 rho' w' x v:=by
 cases x <;> first | exact h | cases hs
theorem or7 {rho rho':Nat→Prop}:∀{l:List AV}{vs:List Value},vw7 l=true→hc7 rho w l vs→hc7 rho' w' l vs
 | [],_,_,h=>h
 | _::_,_,hs,⟨v,r,e,h1,h2⟩=>by
  simp only[vw7,Bool.and_eq_true]at hs
  exact⟨v,r,e,cv7 hs.1 h1,or7 hs.2 h2⟩
theorem yj7 {rho rho':Nat→Prop}{x:RV}{v:Value}(hs:ieb7 x=true) (h:vc7 rho w x v):vc7 rho' w' x v:=by
 cases x with
 | c a=>exact cv7 hs h
 | agg l=>obtain⟨vs,e,h⟩:=h;exact⟨vs,e,or7 hs h⟩
 | fn=>cases hs
 | tup=>cases hs
 | ifc=>cases hs
theorem en7 {rho rho':Nat→Prop}:∀{l:List RV}{vs:List Value},zm7 l=true→kb7 rho w l vs→kb7 rho' w' l vs
 | [],_,_,h=>h
 | _::_,_,hs,⟨v,r,e,h1,h2⟩=>by
  simp only[zm7,Bool.and_eq_true]at hs
  exact⟨v,r,e,yj7 hs.1 h1,en7 hs.2 h2⟩
theorem op7 {rho rho':Nat→Prop}{x:RV}{v:Value}(hs:io7 x=true) (h:uc7 rho w x v):uc7 rho' w' x v:=by
 cases x with
 | ifc=>cases hs
 | tup l=>obtain⟨vs,e,h⟩:=h;exact⟨vs,e,en7 hs h⟩
 | c a=>exact yj7 (x:=.c a) hs h
 | agg l=>exact yj7 (x:=.agg l) hs h
 | fn f l nb=>cases hs
theorem hf7 [Pan] {pu:Pu}{f:FuncId}{args args':List RV}{post:RV→Prop}{K:RV→List Root→Prop}(hp:cf7 P f args' post) (ho:yl7 H args) (he:fx7 (zl7 H args) args') (hs:∀r,post r→io7 r=true) (hK:∀r,post r→K r H):ga7 P pu f args H K:=by
 refine⟨hp.1,fun E M w vs h hc=>?_⟩
 obtain⟨M1,e1,e2,e3,e4,e5⟩:=hj7 args h ho hc
 refine (hp.2 M1.rho w vs e3.glob e3.rlt (e5.eqv he)).mono ?_
 rintro e w' ⟨r,v,rho',rfl,h1,h2,h3,h4⟩
 exact .inl ⟨M,H,r,v,rfl,h.below h4,Kp.below h h4,uc7.up (op7 (hs r h1) h2),fun _ _=>ac7.below h4,Nat.le_refl _,hK r h1⟩
theorem nm7:∀l:List RV,fx7 l l
 | []=>rfl
 | _::l=>⟨_,_,rfl,.inl rfl,nm7 l⟩
def sw7 (H:List Root):AV→AV
 | .ptr id n i o=>match aa7 H id with
  | .live _ _ sz (.box l)=>.rp (sz-o) (fun j=>nth l (o+j))
  | _=>.junk
 | .h id st len=>frz H (.h id st len)
 | a=>a
def frL:List AV→Bool
 | []=>true
 | a::l=>a.fr&&frL l
def hl7 (H:List Root):AV→Prop
 | .ptr id n i o=>match aa7 H id with
  | .live _ _ sz (.box l)=>(n=1∧i=0∧l.length=sz)∧frL l=true
  | _=>False
 | .h id st len=>an7 H id st len
 | a=>a.fr=true
def tdb7 (H:List Root):List AV→List AV
 | []=>[]
 | a::l=>sw7 H a::tdb7 H l
def cp7 (H:List Root):List AV→Prop
 | []=>True
 | a::l=>hl7 H a∧cp7 H l
def cdb7 (H:List Root):RV→RV
 | .c a=>.c (sw7 H a)
 | .agg l=>.agg (tdb7 H l)
 | .fn f l nb=>.fn f (tdb7 H l) nb
 | .tup l=>.tup l
 | .ifc t x=>.ifc t x
def lo7 (H:List Root):RV→Prop
 | .c a=>hl7 H a
 | .agg l=>cp7 H l
 | .fn _ l _=>cp7 H l
 | .tup _=>False
 | .ifc .. => False
def jq7 (H:List Root):List RV→List RV
 | []=>[]
 | a::l=>cdb7 H a::jq7 H l
def zg7 (H:List Root):List RV→Prop
 | []=>True
 | a::l=>lo7 H a∧zg7 H l
def jp7 (M:Mp) (H:List Root) (b:Nat):Prop:=M.rho b∨∃id fz ty sz r,aa7 H id = .live fz ty sz r∧M.phi id=b
theorem az7 {M:Mp}{H:List Root}{w:World}{rho:Nat→Prop}{x:AV}{v:Value}(hx:x.fr=true) (hr:∀b,M.rho b→rho b) (h:Con M H w x v):lb7 rho w x v:=by
 cases x <;> first | (cases hx;done) | exact lb7.keep (fun _ _=>rfl) hr h
theorem hfb7:∀{l:List AV}{j:Nat},frL l=true→j<l.length→(nth l j).fr=true
 | a::l,0,h,_=>by simp only[frL,Bool.and_eq_true]at h;exact h.1
 | a::l,j+1,h,hj=>by simp only[frL,Bool.and_eq_true]at h;exact hfb7 (l:=l) h.2 (by simpa using hj)
theorem ay7 (h:Rel E M H w) {x:AV}{v:Value}(ho:hl7 H x) (hc:Con M H w x v):lb7 (jp7 M H) w (sw7 H x) v:=by
 cases x with
 | ptr id n i o =>
  simp only[hl7]at ho
  simp only[sw7]
  split at ho
  ·rename_i fz t sz l hr
   obtain⟨⟨rfl,rfl,hl⟩,hf⟩:=ho
   have hv:=(hc.2 _ _ _ _ hr).2 rfl
   obtain⟨cur,c1,c2,c3,c4,c5,c6⟩:=h.row _ _ _ _ _ hr
   refine⟨M.phi id,M.off id+o,by rw[hv];simp,.inr ⟨id,fz,t,sz,_,hr,rfl⟩,fun j hj=>?_⟩
   obtain⟨u,u1,u2,u3⟩:=c6 0 Nat.one_pos (o+j) (by omega)
   have u3:Con M H w (nth l (o+j)) u:=u3
   refine⟨u, ?_,az7 (hfb7 hf (by omega)) (fun _=>.inl) u3⟩
   simp only[World.cell?,c1]
   rw[Nat.add_assoc]
   simpa using u1
  ·exact ho.elim
 | h id st len =>
  simp only[hl7,an7]at ho
  split at ho
  ·rename_i fz t sz r hr
   obtain⟨e,hb⟩:=ho
   show lb7 _ w (frz H (.h id st len)) v
   simp only[frz,hr]
   obtain⟨cap,cur,ad,rfl,k1,k2,k3,k4,k7⟩:=(hc.2 _ _ _ _ hr).2 e
   obtain⟨cur2,c1,c2,c3,c4,c5,c6⟩:=h.row _ _ _ _ _ hr
   refine⟨_,M.phi id,M.off id+st*sz,cap,rfl,k1,k2,fun _=>⟨congrArg some (k7 (by omega)),.inr ⟨id,fz,t,sz,r,hr,rfl⟩⟩,fun i hi j hj=>?_⟩
   obtain⟨u,u1,u2,u3⟩:=c6 (st+i) (by omega) j hj
   unfold vd7 at u3
   rw[hb]at u3
   refine⟨u, ?_,lb7.keep (fun _ _=>rfl) (fun _=>.inl) (by simpa using u3)⟩
   rw[show M.off id+st*sz+i*sz+j=M.off id+(st+i)*sz+j by rw[Nat.add_mul];omega]
   simp[World.cell?,c1,u1]
  ·exact ho.elim
 | _=>exact az7 ho (fun _=>.inl) hc
theorem gp7 (h:Rel E M H w):∀{l:List AV}{vs:List Value},cp7 H l→mb7 M H w l vs→hc7 (jp7 M H) w (tdb7 H l) vs
 | [],_,_,hc=>hc
 | _::_,_,ho,⟨v,r,e,h1,h2⟩=>⟨v,r,e,ay7 h ho.1 h1,gp7 h ho.2 h2⟩
theorem tcb7 (h:Rel E M H w) {x:RV}{v:Value}(ho:lo7 H x) (hc:ha7 M H w x v):vc7 (jp7 M H) w (cdb7 H x) v:=by
 cases x with
 | c a=>exact ay7 h ho hc
 | agg l=>obtain⟨vs,e,hc⟩:=hc;exact⟨vs,e,gp7 h ho hc⟩
 | fn f l nb=>obtain⟨vs,e,hc⟩:=hc;exact⟨vs,e,gp7 h ho hc⟩
 | tup=>exact ho.elim
 | ifc=>exact ho.elim
theorem up7 (h:Rel E M H w):∀{l:List RV}{vs:List Value},zg7 H l→ab7 M H w l vs→kb7 (jp7 M H) w (jq7 H l) vs
 | [],_,_,hc=>hc
 | _::_,_,ho,⟨v,r,e,h1,h2⟩=>⟨v,r,e,tcb7 h ho.1 h1,up7 h ho.2 h2⟩
theorem hab7 [Pan] {pu:Pu}{f:FuncId}{args args':List RV}{post:RV→Prop}{K:RV→List Root→Prop}(hp:cf7 P f args' post) (ho:zg7 H args) (he:jq7 H args=args') (hs:∀r,post r→io7 r=true) (hK:∀r,post r→K r H):ga7 P pu f args H K:=by
 refine⟨hp.1,fun E M w vs h hc=>?_⟩
 have e5:=up7 h ho hc
 rw[he]at e5
 refine (hp.2 (jp7 M H) w vs (h.glob.mono fun _=>.inl) (fun b hb=>?_) e5).mono ?_
 ·rcases hb with hb | ⟨id,fz,t,sz,r,hr,rfl⟩
  ·exact h.rlt b hb
  ·exact h.lt hr
 ·rintro e w' ⟨r,v,rho',rfl,h1,h2,h3,h4⟩
  exact .inl ⟨M,H,r,v,rfl,h.below h4,Kp.below h h4,uc7.up (op7 (hs r h1) h2),fun _ _=>ac7.below h4,Nat.le_refl _,hK r h1⟩
theorem sm7:∀(l:List RV) (H:List Root),(rf7 H l).length=H.length
 | [],_=>rfl
 | x::l,H=>by
  simp only[rf7]
  rw[sm7 l]
  cases x <;> simp[rn7,dd7]
theorem sib7 [Pan] {pu:Pu}{f:FuncId}{args args':List RV}{post:RV→Prop}{K:RV→List Root→Prop}(hp:cf7 P f args' post) (ho:yl7 H args) (he:fx7 (zl7 H args) args') (hK:∀r,post r→K r (rf7 H args)):ga7 P pu f args H K:=by
 refine⟨hp.1,fun E M w vs h hc=>?_⟩
 obtain⟨M1,e1,e2,e3,e4,e5⟩:=hj7 args h ho hc
 refine (hp.2 M1.rho w vs e3.glob e3.rlt (e5.eqv he)).mono ?_
 rintro e w' ⟨r,v,rho',rfl,h1,h2,h3,h4⟩
 have h5:=e3.below h4
 have h6:=Kp.below e3 h4
 have hkp:Kp M1 (rf7 H args) w' ⟨M1.phi,M1.off,fun b=>M1.rho b∨(w.heap.size≤b∧b<w'.heap.size),M1.tau⟩ (rf7 H args) w':=by
  intro x v c
  cases x with
  | ptr=>exact c
  | h=>exact c
  | ws=>exact c
  | wu=>exact c
  | wp=>exact c
  | junk=>trivial
  | _=>exact lb7.keep (fun _ _=>rfl) (fun _ h=>.inl h) c
 refine .inl ⟨⟨M1.phi,M1.off,fun b=>M1.rho b∨(w.heap.size≤b∧b<w'.heap.size),M1.tau⟩,rf7 H args,r,v,rfl, ?_,(e4.trans h6).trans hkp,uc7.up (uc7.keep (fun _ _=>rfl) h3 h2),fun _ _=>ac7.below h4,by rw[sm7];exact Nat.le_refl _,hK r h1⟩
 refine⟨h5.bel,h5.low,fun id fz t sz q hr=>(h5.row id fz t sz q hr).keep hkp (fun _ _=>rfl) (fun _ h=>.inl h) rfl,fun id t sz q hr=>.inl (h5.froz id t sz q hr),fun id t sz q hr=>?_,h5.inj,fun b hb=>?_,⟨fun b hb=>?_,h5.src.2.mono fun _=>.inl⟩,h5.tau.keep rfl (fun _ _ _=>rfl) (fun b q hq=>?_) h5.tau.row⟩
 ·rintro (hb | ⟨hb,-⟩)
  ·exact h5.thaw id t sz q hr hb
  ·have hlt:M1.phi id<w.heap.size:=e3.lt hr
   have hb:w.heap.size≤M1.phi id:=hb
   omega
 ·rcases hb with hb | ⟨-,hb⟩
  ·exact h5.rlt b hb
  ·exact hb
 ·rcases hb with hb | ⟨hb,-⟩
  ·exact h5.src.1 b hb
  ·exact .inr (.inl (Nat.le_trans e3.bel.size hb))
 ·rintro (hb | ⟨hb,-⟩)
  ·exact (h5.tau.new b q hq).2 hb
  ·have:=e3.tau.lt hq;omega
def kB (P:Program) (ty:Ty) (t:TypeId):TyK→Bool
 | .i k=>match P.underlying t with
  | some (.int k')=>decide (k=k')
  | _=>false
 | .b=>match P.underlying t with
  | some .bool=>true
  | _=>false
 | .str=>match P.underlying t with
  | some .string=>true
  | _=>false
 | .sc=>match P.underlying t with
  | some (.struct _)=>false
  | some (.array ..)=>false
  | some _=>true
  | none=>false
 | .st fs=>match P.underlying t with
  | some (.struct fields)=>decide (fields.toList.map (fun f=>(f.offset,P.cellsOf f.type))=fs)&&fields.toList.all (fun f=>(P.info? f.type).isSome)
  | _=>false
 | .ar n esz=>match P.underlying t with
  | some (.array n' e)=>decide (n=n')&&decide (P.cellsOf e=esz)&&(P.info? e).isSome
  | _=>false
 | .sl e=>match P.underlying t with
  | some (.slice e')=>decide (e=e')&&(match (ty e).k with | .no=>false | _=>true)
  | _=>false
 | .no=>true
def tyB (P:Program) (ty:Ty) (t:TypeId):Bool :=
 kB P ty t (ty t).k&&(match (ty t).k with
  | .no=>true
  | _=>match P.info? t with
   | some i=>decide (i.size=(ty t).sz)&&decide (i.bytes=(ty t).bytes)&&(match i.zero with
    | some z=>zvL (ty t).zero z.cells.toList&&decide (z.cells.size=(ty t).sz)
    | none=>false)
   | none=>false)
theorem urb7 {t:TypeId}:∀{k:TyK},kB P ty t k=true→kOk P ty t k
 | .i k,h=>by
  simp only[kB]at h
  split at h
  ·rename_i k' hu;simp only[decide_eq_true_eq]at h;subst h;exact hu
  ·cases h
 | .b,h=>by
  simp only[kB]at h
  split at h
  ·rename_i hu;exact hu
  ·cases h
 | .str,h=>by
  simp only[kB]at h
  split at h
  ·rename_i hu;exact hu
  ·cases h
 | .sc,h=>by
  simp only[kB]at h
  split at h
  ·cases h
  ·cases h
  ·rename_i d h1 h2 hu
   refine⟨d,hu, ?_⟩
   cases d <;> first | trivial | (exact h1 _ rfl) | (exact h2 _ _ rfl)
  ·cases h
 | .st fs,h=>by
  simp only[kB]at h
  split at h
  ·rename_i fields hu
   simp only[Bool.and_eq_true,decide_eq_true_eq,List.all_eq_true]at h
   exact⟨fields,hu,h.1,h.2⟩
  ·cases h
 | .ar n esz,h=>by
  simp only[kB]at h
  split at h
  ·rename_i n' e hu
   simp only[Bool.and_eq_true,decide_eq_true_eq]at h
   obtain⟨⟨rfl,h2⟩,h3⟩:=h
   exact⟨e,hu,h2,h3⟩
  ·cases h
 | .sl e,h=>by
  simp only[kB]at h
  split at h
  ·rename_i e' hu
   simp only[Bool.and_eq_true,decide_eq_true_eq]at h
   obtain⟨rfl,h2⟩:=h
   exact⟨hu,by split at h2 <;> first | (cases h2;done) | (split <;> simp_all)⟩
  ·cases h
 | .no,_=>trivial
theorem xmb7 {t:TypeId}(h:tyB P ty t=true):ekb7 P ty t:=by
 unfold tyB at h
 rw[Bool.and_eq_true]at h
 obtain⟨h1,h2⟩:=h
 refine⟨urb7 h1, ?_⟩
 cases hk:(ty t).k
 case no=>trivial
 all_goals
  rw[hk]at h2
  simp only at h2
  split at h2
  ·rename_i i hi
   simp only[Bool.and_eq_true,decide_eq_true_eq]at h2
   obtain⟨⟨h3,h4⟩,h5⟩:=h2
   split at h5
   ·rename_i z hz
    simp only[Bool.and_eq_true,decide_eq_true_eq]at h5
    exact⟨i,z,hi,h3,h4,hz,h5.1,h5.2⟩
   ·cases h5
  ·cases h2
theorem ohb7 {n:Nat}(h:(List.range n).all (tyB P ty)=true) (h2:∀t,n≤t→(ty t).k = .no):qb7 P ty:=by
 intro t
 by_cases e:t<n
 ·exact xmb7 (List.all_eq_true.1 h t (List.mem_range.2 e))
 ·exact⟨by rw[h2 t (Nat.le_of_not_lt e)];trivial,by rw[h2 t (Nat.le_of_not_lt e)];trivial⟩
end
section
variable {P:Program} {ty:Ty} {ord:Nat→List Nat×Nat×Option DD} {Q:Exit→AS→Prop} {K:AS→Prop} {σ:AS} {nf:Nat} {ops:Array Oper} {o:Oper} {l:List Oper} {pu:Pu} {tm:Tm} {rd:Operand→Bool×RV} {H:List Root}
theorem hib7 (g:Bool):gOk g []=True:=rfl
theorem ksb7 (g:Bool) (l:List Bool):gOk g (true::l)=gOk g l:=by simp[gOk]
theorem hqb7 (g:Bool) (l:List Bool):gOk g (g::l)=gOk g l:=by simp[gOk]
theorem zqb7 (g h:Bool) (l:List Bool):gOk (g&&h) (h::l)=gOk (g&&h) l:=by cases g <;> cases h <;> simp[gOk]
theorem wpb7 (g h:Bool) (l:List Bool):gOk (g&&h) (g::l)=gOk (g&&h) l:=by cases g <;> cases h <;> simp[gOk]
theorem isb7 (b c:Bool):odb7 b c false=(b&&c):=by cases b <;> rfl
theorem orb7 (b c:Bool):odb7 b true c=(b || c):=by cases b <;> rfl
theorem ur7 [Pan] {pu:Pu}{f:FuncId}{a a':List RV}{H H':List Root}{K:RV→List Root→Prop}(h:a=a') (h2:H=H'):ga7 P pu f a H K=ga7 P pu f a' H' K:=by rw[h,h2]
theorem tnb7 [Pan]:awp P ty ord .skip Q σ=Q .normal σ:=rfl
theorem jqb7 [Pan] {id:Nat}:awp P ty ord (.region id ops true) Q σ=ojb7 P ty ops (ord id) (Q .normal) σ:=rfl
theorem dlb7 [Pan] {id:Nat}:awp P ty ord (.region id ops false) Q σ=xl7 P ty ops.toList.length none ops ops.toList (Q .normal) σ:=rfl
theorem psb7 [Pan] {a b:Code}:awp P ty ord (.seq a b) Q σ=awp P ty ord a (wi7 (awp P ty ord b Q) Q) σ:=rfl
theorem wmb7 [Pan] {x:Operand}{a b:Code}:awp P ty ord (.cond x a b) Q σ=sbb7 (σ.rd x) (awp P ty ord a Q σ) (awp P ty ord b Q σ):=rfl
theorem ehb7 [Pan] {id:Nat}{a:Code}:awp P ty ord (.block id a) Q σ=awp P ty ord a (inB id Q) σ:=rfl
theorem xjb7 [Pan] {id:Nat}:awp P ty ord (.exit id) Q σ=Q (.exit id) σ:=rfl
theorem lpb7 [Pan]:awp P ty ord .ret Q σ=Q .ret σ:=rfl
theorem dvb7 [Pan] {n:Nat}{l:List Nat}:ojb7 P ty ops (l,n,none) K σ=ht7 P ty ops (l,n,none) K σ:=rfl
theorem wtb7 [Pan] {n k:Nat}{l:List Nat}:ojb7 P ty ops (l,n,some (.r k)) K σ=ht7 P ty ops (l,n,some k) K σ:=rfl
theorem lub7 [Pan] {n:Nat}{l ks r fins:List Nat}{T:Tw}:ojb7 P ty ops (l,n,some (.t ks T r fins)) K σ=(fl7 σ.H ks∧mo7 ty ops ks (pick ops l) (jf7 P ty ops σ.H r T K) σ):=rfl
theorem qtb7 [Pan] {n:Nat}{dd:Option Nat}:ht7 P ty ops ([],n,dd) K σ=xl7 P ty n dd ops ops.toList K σ:=rfl
theorem evb7 [Pan] {n i:Nat}{is:List Nat}{dd:Option Nat}:ht7 P ty ops (i::is,n,dd) K σ=xl7 P ty n dd ops (pick ops (i::is)) K σ:=rfl
theorem ptb7 {ks:List Nat}:mo7 ty ops ks [] K σ=K σ:=rfl
theorem fvb7 {ks:List Nat}{l:List Oper}:mo7 ty ops ks (o::l) K σ=wt7 ty (guardOf σ.tm ops o.guard) ks σ o (mo7 ty ops ks l K):=rfl
theorem ztb7 [Pan] {H0:List Root}{r:List Nat}:jf7 P ty ops H0 r .d K σ=xl7 P ty r.length none ops (pick ops r) K σ:=rfl
theorem jtb7 [Pan] {H0:List Root}{r:List Nat}:jf7 P ty ops H0 r .no K σ=True:=rfl
theorem qub7 {H:List Root}:killL [] H=H:=rfl
theorem pub7 {k:Nat}{ks:List Nat}{H:List Root}:killL (k::ks) H=killL ks (ca7 H k .dead):=rfl
theorem hub7 {H:List Root}:fl7 H []=True:=rfl
theorem bvb7 {k:Nat}{ks:List Nat}{H:List Root}:fl7 H (k::ks)=(ihb7 (aa7 H k)∧fl7 H ks):=rfl
theorem npb7 [Pan] {dd:Option Nat}:xl7 P ty nf dd ops [] K σ=K σ:=rfl
theorem zmb7 [Pan] {dd:Option Nat}:xl7 P ty nf dd ops (o::l) K σ=mk7 P ty (ez7 nf l.length dd) dd ops σ o (xl7 P ty nf dd ops l K):=rfl
def ujb7:Option (List CK)→Bool
 | some (_::_)=>false
 | _=>true
def vob7 (ty:Ty) (k:TyK):Bool :=
 match k with
 | .sl e=>ujb7 (ty e).wk
 | _=>true
theorem utb7 {n:Nat}{dd:Option Nat}:isW (ez7 nf n dd)=(n<nf):=by
 unfold ez7 isW
 by_cases h:nf≤n
 ·rw[if_pos h];exact propext ⟨fun h=>h.elim,fun h2=>by omega⟩
 ·rw[if_neg h];exact propext ⟨fun _=>by omega,fun _=>trivial⟩
theorem qsb7 {n:Nat}{dd:Option Nat}{x:RV}:wOn (ez7 nf n dd) x=(n<nf∨wD dd x):=by
 unfold ez7
 by_cases h:nf≤n
 ·rw[if_pos h];exact propext ⟨.inr,fun h2=>h2.elim (fun h3=>by omega) id⟩
 ·rw[if_neg h];exact propext ⟨fun _=>.inl (by omega),fun _=>trivial⟩
theorem kub7 {x:RV}:wD none x=False:=rfl
theorem uub7 {k id m i o:Nat}:wD (some k) (.c (.ptr id m i o))=(id=k):=rfl
theorem eqb7 {n:Nat}{dd:Option Nat}{b:Bool}{x:RV}:wAp (ez7 nf n dd) b x=(n<nf∨wAp (some dd) b x):=by
 unfold ez7
 by_cases h:nf≤n
 ·rw[if_pos h];exact propext ⟨.inr,fun h2=>h2.elim (fun h3=>by omega) id⟩
 ·rw[if_neg h];exact propext ⟨fun _=>.inl (by omega),fun _=>trivial⟩
theorem hsb7 {b:Bool}{x:RV}:wAp none b x=True:=by cases b <;> rfl
theorem lqb7 {x:RV}:wOn none x=True:=rfl
theorem rqb7 {g:Option Nat}{x:RV}:wOn (some g) x=wD g x:=rfl
theorem frb7 {g:Option Nat}:wAp (some g) true (.c .nils)=True:=rfl
theorem dsb7 {g:Option Nat}{id st n:Nat}:wAp (some g) true (.c (.h id st n))=aD g (.c (.h id st n)):=rfl
theorem kvb7 {k id st n:Nat}:aD (some k) (.c (.h id st n))=(id=k):=rfl
theorem jub7 {x:RV}:aD none x=False:=rfl
theorem aqb7 {e:TypeId}:vob7 ty (.sl e)=ujb7 (ty e).wk:=rfl
theorem elb7:ujb7 none=true:=rfl
theorem fkb7:ujb7 (some [])=true:=rfl
theorem mlb7 {c:CK}{cs:List CK}:ujb7 (some (c::cs))=false:=rfl
theorem erb7 {t:TypeId}:nwk ty t=vob7 ty (ty t).k:=by
 unfold nwk vob7 ujb7
 cases (ty t).k with
 | sl e=>rfl
 | _=>rfl
theorem stb7 [Pan] {dd:Option Nat}:mk7 P ty pu dd ops σ o K=if isV o.op=true then rr7 ty (guardOf σ.tm ops o.guard) dd σ o K else stb dd (iv7 σ.H)∧imb7 P ty (guardOf σ.tm ops o.guard) pu σ o K:=rfl
theorem mpb7 {A:Nat→Prop}:stb none A=True:=rfl
theorem qpb7 {A:Nat→Prop}{k:Nat}:stb (some k) A=A k:=rfl
theorem yrb7 [Pan] {g:Bool}:imb7 P ty (some g) pu σ o K=(gOk g (bm7 σ.rd o.op)∧agb7 g (eff P ty pu σ.tm σ.rd σ.H o K) (K ⟨wb7 σ.tm g o.dst (.c .junk),σ.H⟩)):=rfl
theorem ax7 {g g':Bool}{A B:Prop}(h:g=g'):agb7 g A B=agb7 g' A B:=by rw[h]
theorem vtb7 {A B:Prop}:agb7 true A B=A:=by simp[agb7]
theorem ytb7 {g:Bool}{A B:Prop}:agb7 g A B=((g=true→A)∧(g=false→B)):=rfl
def putV (g:Bool) (tm:Tm) (H:List Root) (d:Option Nat) (q:Vo) (K:AS→Prop):Prop:=(g=true→q.1)∧K ⟨wb7 tm g d q.2,H⟩
theorem epb7 {g:Bool}{dd:Option Nat}:rr7 ty (some g) dd σ o K=(gOk g (bm7 σ.rd o.op)∧stb dd (fun k=>iv7 σ.H k∧(g=true→(opV ty g σ.rd (ca7 σ.H k .dead) o.op).1))∧putV g σ.tm σ.H o.dst (opV ty g σ.rd σ.H o.op) K):=rfl
theorem wkb7 {d:Option Nat}{p:Prop}{v:RV}:putV true tm H d (p,v) K=(p∧K ⟨wb7 tm true d v,H⟩):=by simp[putV]
theorem ukb7 {g:Bool}{d:Option Nat}{p:Prop}{v:RV}:putV g tm H d (p,v) K=((g=true→p)∧K ⟨wb7 tm g d v,H⟩):=rfl
theorem omb7 {g:Bool}{d:Option Nat}:putV g tm H d no K=((g=true→False)∧K ⟨wb7 tm g d (.c .junk),H⟩):=rfl
theorem xnb7 {t:Nat}{g:Bool}{v:RV}:wb7 tm g (some t) v=(t,g,v)::tm:=rfl
theorem xkb7 {g:Bool}{v:RV}:wb7 tm g none v=tm:=rfl
section
variable {d:Option Nat} {t:TypeId} {p:String} {af:Array Edge} {gd:Option (Nat×Bool)}
theorem arb7 [Pan] {u:TypeId}{x:Operand}:eff P ty pu tm rd H ⟨d,.box u x,t,p,af,gd⟩ K=(((oa7 (rd x).2).length=(ty u).sz∧0<(ty u).sz∧njL (oa7 (rd x).2)=true)∧K ⟨wb7 tm true d (.c (.ptr H.length 1 0 0)),H++[.live false u (ty u).sz (.box (oa7 (rd x).2))]⟩):=rfl
theorem thb7 [Pan] {u:TypeId}:eff P ty pu tm rd H ⟨d,.alloc u,t,p,af,gd⟩ K=((0<(ty u).sz∧kN (ty u).k)∧K ⟨wb7 tm true d (.c (.ptr H.length 1 0 0)),H++[.live false u (ty u).sz (.box (ty u).zero)]⟩):=rfl
theorem wib7 [Pan] {u:TypeId}{x v:Operand}:eff P ty pu tm rd H ⟨d,.store u x v,t,p,af,gd⟩ K=(wOn pu (rd x).2∧vjb7 (ty u) H (rd x).2 (rd v).2 (fun H=>K ⟨wb7 tm true d (.c .junk),H⟩)):=rfl
def tjb7 (wk:Option (List CK)) (ty:Ty) (e:TypeId) (H:List Root) (n:Nat) (q:Prop×List AV) (K:RV→List Root→Prop):Prop :=
 match wk with
 | none=>jjb7 ty e H n q K
 | some []=>llb7 ty e H n q K
 | some (c::cs)=>job7 ty e (c::cs) n q (fun r=>K r H)
theorem dqb7 {e:TypeId}{n:Nat}{q:Prop×List AV}{K:RV→List Root→Prop}:tjb7 none ty e H n q K=jjb7 ty e H n q K:=rfl
theorem zrb7 {c:CK}{cs:List CK}{e:TypeId}{n:Nat}{q:Prop×List AV}{K:RV→List Root→Prop}:tjb7 (some (c::cs)) ty e H n q K=job7 ty e (c::cs) n q (fun r=>K r H):=rfl
theorem osb7 {e:TypeId}{n:Nat}{q:Prop×List AV}{K:RV→List Root→Prop}:tjb7 (some []) ty e H n q K=llb7 ty e H n q K:=rfl
theorem zub7 {k:TyK}{z:List AV}{n:Nat}:jd7 none k z n=zeros k z n:=rfl
theorem sub7 {c:CK}{cs:List CK}{k:TyK}{z:List AV}{n:Nat}:jd7 (some (c::cs)) k z n=zeros k z n:=rfl
theorem tub7 {k:TyK}{z:List AV}{n:Nat}:jd7 (some []) k z n = .own (List.replicate n z):=rfl
def uob7 (wk:Option (List CK)) (ty:Ty) (e:TypeId) (H:List Root) (s x:RV) (K:RV→List Root→Prop):Prop :=
 match wk with
 | none=>uw7 ty (.sl e) H s x K
 | some []=>uw7 ty (.sl e) H s x K
 | some (c::cs)=>appW ty e (c::cs) s x (fun r=>K r H)
theorem yqb7 {e:TypeId}{s x:RV}{K:RV→List Root→Prop}:pcb7 ty (.sl e) H s x K=uob7 (ty e).wk ty e H s x K:=rfl
theorem lsb7 {e:TypeId}{s x:RV}{K:RV→List Root→Prop}:uob7 none ty e H s x K=uw7 ty (.sl e) H s x K:=rfl
theorem cqb7 {c:CK}{cs:List CK}{e:TypeId}{s x:RV}{K:RV→List Root→Prop}:uob7 (some (c::cs)) ty e H s x K=appW ty e (c::cs) s x (fun r=>K r H):=rfl
theorem vrb7 {e:TypeId}{s x:RV}{K:RV→List Root→Prop}:uob7 (some []) ty e H s x K=uw7 ty (.sl e) H s x K:=rfl
def mrb7 (ty:Ty) (k:TyK) (rd:Operand→Bool×RV) (H:List Root) (n:Nat) (ps:List (Nat×Operand)) (K:RV→List Root→Prop):Prop :=
 match k with
 | .sl e=>tjb7 (ty e).wk ty e H n (sb7 (fun i=>(i*(ty e).sz,(ty e).sz)) rd (rep (ty e).zero n) ps) K
 | _=>False
theorem csb7 [Pan] {u:TypeId}{n:Nat}{ps:Array (Nat×Operand)}:eff P ty pu tm rd H ⟨d,.buildSlice u n ps,t,p,af,gd⟩ K=mrb7 ty (ty u).k rd H n ps.toList (fun r H=>K ⟨wb7 tm true d r,H⟩):=by
 unfold eff mrb7
 dsimp only
 cases (ty u).k with
 | sl e =>
  unfold tjb7
  dsimp only
  match (ty e).wk with
  | none=>rfl
  | some []=>rfl
  | some (_::_)=>rfl
 | _=>rfl
theorem dob7 {e:TypeId}{n:Nat}{ps:List (Nat×Operand)}{K:RV→List Root→Prop}:mrb7 ty (.sl e) rd H n ps K=tjb7 (ty e).wk ty e H n (sb7 (fun i=>(i*(ty e).sz,(ty e).sz)) rd (rep (ty e).zero n) ps) K:=rfl
theorem plb7 [Pan] {u:TypeId}{x y:Operand}:eff P ty pu tm rd H ⟨d,.makeSlice u x y,t,p,af,gd⟩ K=obb7 ty (ty u).k H (rd x).2 (rd y).2 (fun r H=>K ⟨wb7 tm true d r,H⟩):=rfl
theorem wqb7 [Pan] {x y:Operand}{u v:TypeId}:eff P ty pu tm rd H ⟨d,.call ⟨.builtin .append, #[x,y], #[u,v]⟩,t,p,af,gd⟩ K=(wAp pu (nwk ty u) (rd x).2∧apK ty (strOf (rd y).2) [u,v] u v H (rd x).2 (rd y).2 (fun r H=>K ⟨wb7 tm true d r,H⟩)):=rfl
theorem gvb7 {b:ByteArray}{ts:List TypeId}{u v:TypeId}{s x:RV}{K:RV→List Root→Prop}:apK ty (some b) ts u v H s x K=((ts=[u,v]∧(ty v).k = .str)∧inb7 ty (ty u).k H s b K):=rfl
theorem oub7 {ts:List TypeId}{u v:TypeId}{s x:RV}{K:RV→List Root→Prop}:apK ty none ts u v H s x K=(ts=[u,u]∧pcb7 ty (ty u).k H s x K):=rfl
def rob7 [Pan] (P:Program) (pu:Pu) (f:RV) (zs:List RV) (H:List Root) (K:RV→List Root→Prop):Prop :=
 match f with
 | .fn f caps nb=>ga7 P pu f ((caps.take nb).map .c++(zs++(caps.drop nb).map .c)) H K
 | _=>False
theorem wnb7 [Pan] {x:Operand}{zs:Array Operand}{ts:Array TypeId}:eff P ty pu tm rd H ⟨d,.call ⟨.value x,zs,ts⟩,t,p,af,gd⟩ K=rob7 P pu (rd x).2 (rds rd zs.toList) H (fun r H=>K ⟨wb7 tm true d r,H⟩):=rfl
theorem nrb7 [Pan] {u:TypeId}{x:Operand}{f:Nat}:eff P ty pu tm rd H ⟨d,.field u x f,t,p,af,gd⟩ K=qob7 (glb7 P u f (rd x).2) (fun r=>K ⟨wb7 tm true d r,H⟩):=rfl
theorem nsb7 [Pan] {u:TypeId}{x:Operand}:eff P ty pu tm rd H ⟨d,.makeInterface u x,t,p,af,gd⟩ K=(cib7 P u=true∧K ⟨wb7 tm true d (.ifc u (rd x).2),H⟩):=rfl
theorem ppb7 [Pan] {x:Operand}:eff P ty pu tm rd H ⟨d,.panic x,t,p,af,gd⟩ K=gob7 (rd x).2 H:=rfl
theorem mub7 [Pan] {u:TypeId}{x:RV}:gob7 (.ifc u x) H=Pan.px (.ifc u x) H:=rfl
theorem jvb7 {r:RV}{K:RV→Prop}:qob7 (some r) K=K r:=rfl
theorem enb7 [Pan] {f:FuncId}{caps:List AV}{nb:Nat}{zs:List RV}{K:RV→List Root→Prop}:rob7 P pu (.fn f caps nb) zs H K=ga7 P pu f ((caps.take nb).map .c++(zs++(caps.drop nb).map .c)) H K:=rfl
theorem bnb7 [Pan] {f:FuncId}{a:AV}{caps:List AV}{zs:List RV}{K:RV→List Root→Prop}:rob7 P pu (.fn f (a::caps) 1) zs H K=ga7 P pu f (.c a::(zs++caps.map .c)) H K:=rfl
theorem zpb7 [Pan] {f:FuncId}{caps:List AV}{zs:List RV}{K:RV→List Root→Prop}:rob7 P pu (.fn f caps) zs H K=ga7 P pu f (zs++caps.map .c) H K:=rfl
end
theorem kpb7 {k:IntKind}{n:Int}{p:RV→Prop}:(∃r,wx7 (.c (.int k n)) r∧p r)=p (.c (.int k n)):=propext ⟨fun ⟨_,⟨_,e,e2⟩,h⟩=>by subst e;rcases e2 with e2 | e2 <;> (subst e2;exact h),fun h=>⟨_,⟨_,rfl,.inl rfl⟩,h⟩⟩
theorem knb7 {b:Bool}{p:RV→Prop}:(∃r,wx7 (.c (.bool b)) r∧p r)=p (.c (.bool b)):=propext ⟨fun ⟨_,⟨_,e,e2⟩,h⟩=>by subst e;rcases e2 with e2 | e2 <;> (subst e2;exact h),fun h=>⟨_,⟨_,rfl,.inl rfl⟩,h⟩⟩
def lpK {ι:Type} (vy:List Nat) (n:Nat) (inv:ι→Prop) (vals:ι→List RV) (H:ι→List Root) (μ:ι→Nat) (m:Nat) (σ':AS):Prop:=∃s',inv s'∧gets σ'.tm vy=gh7 (vals s')∧σ'.H.take n=H s'∧μ s'<m
def zsb7 {ι:Type} (d:Nat) (vy:List Nat) (n:Nat) (inv:ι→Prop) (vals:ι→List RV) (H:ι→List Root) (μ:ι→Nat) (m:Nat) (σ':AS):Prop:=∃s' ids,inv s'∧(ids.length=d∧okI n ids=true)∧renG n ids (gets σ'.tm vy)=gh7 (vals s')∧hp7 n ids σ'.H=H s'∧μ s'<m
theorem zj7 [Pan] {c:Code}{ι:Type}(d:Nat) (fx vy:List Nat) (inv:ι→Prop) (vals:ι→List RV) (H:ι→List Root) (μ:ι→Nat) (hfx:wdb7 c fx=true) (h0:∃s,inv s∧gets σ.tm vy=gh7 (vals s)∧σ.H++List.replicate d .dead=H s)
  (hsc:∀s,inv s→(H s).length=σ.H.length+d)
  (round:∀s,inv s→awp P ty ord c (wi7 (zsb7 d vy σ.H.length inv vals H μ (μ s)) Q) ⟨mq7 vy (vals s) (fxT σ.tm fx),H s⟩):awp P ty ord (.loop c) Q σ :=
 .inr (.inl ⟨ι,d,fx,vy,inv,vals,H,μ,hfx,h0,hsc,round⟩)
theorem jx7 [Pan] {c:Code}(l:List Unit) (h:if7 (awp P ty ord c) l Q σ):awp P ty ord (.loop c) Q σ:=.inr (.inr ⟨l,h⟩)
theorem otb7 {body:(Exit→AS→Prop)→AS→Prop}{u:Unit}{l:List Unit}:if7 body (u::l) Q σ=body (wi7 (if7 body l Q) Q) σ:=rfl
def opD:List Oper→Nat→Oper
 | [],_=>default
 | o::_,0=>o
 | _::l,n+1=>opD l n
theorem gab7:∀(l:List Oper) (j:Nat),opD l j=l.getD j default
 | [],_=>rfl
 | _::_,0=>rfl
 | _::l,j+1=>by simp only[opD,List.getD_cons_succ];exact gab7 l j
theorem xbb7 (i:Nat):ops.getD i default=opD ops.toList i:=by
 rw[gab7];simp[List.getD_eq_getElem?_getD,Array.getD_eq_getD_getElem?]
theorem cvb7 [Pan] {i:Nat}{H0:List Root}{r:List Nat}{T T2:Tw}:jf7 P ty ops H0 r (.br 0 i T T2) K σ=(mk7 P ty (some none) none ops σ (opD ops.toList i) (jf7 P ty ops H0 r T K)∧jf7 P ty ops H0 r T2 K σ):=by
 rw[← xbb7];exact propext ⟨fun h=>⟨h.1.2,h.2⟩,fun h=>⟨⟨trivial,h.1⟩,h.2⟩⟩
theorem yub7 [Pan] {i:Nat}{H0:List Root}{r:List Nat}{T T2:Tw}:jf7 P ty ops H0 r (.br 1 i T T2) K σ=(mk7 P ty none none ops σ (opD ops.toList i) (jf7 P ty ops H0 r T K)∧jf7 P ty ops H0 r T2 K σ):=by
 rw[← xbb7];exact propext ⟨fun h=>⟨h.1.2,h.2⟩,fun h=>⟨⟨trivial,h.1⟩,h.2⟩⟩
theorem ntb7 [Pan] {i k:Nat}{H0:List Root}{r:List Nat}{T T2:Tw}:jf7 P ty ops H0 r (.br (k+2) i T T2) K σ=((jkb7 (znb7 (aa7 H0 k)) (aa7 σ.H k)∧mk7 P ty (some (gR k (aa7 σ.H k))) none ops σ (opD ops.toList i) (jf7 P ty ops H0 r T K))∧jf7 P ty ops H0 r T2 K σ):=by
 rw[← xbb7];rfl
theorem dub7 {g:Bool}{ks:List Nat}:wt7 ty (some g) ks σ o K=(gOk g (bm7 σ.rd o.op)∧(g=true→(opV ty g σ.rd (killL ks σ.H) o.op).1)∧putV g σ.tm σ.H o.dst (opV ty g σ.rd σ.H o.op) K):=rfl
theorem gub7 {fz:Bool}{t:TypeId}{sz:Nat}{r:Row}:ihb7 (.live fz t sz r)=(fz=false∧0<r.len):=rfl
theorem ivb7:ihb7 .dead=True:=rfl
theorem ktb7 {n:Nat}{fz:Bool}{t:TypeId}{sz:Nat}{r:Row}:jkb7 n (.live fz t sz r)=(r.len=n∧0<r.len):=rfl
theorem fub7 {n:Nat}:jkb7 n .dead=True:=rfl
theorem bub7 {k:Nat}{fz:Bool}{t:TypeId}{sz:Nat}{r:Row}:gR k (.live fz t sz r)=some k:=rfl
theorem iub7 {k:Nat}:gR k .dead=none:=rfl
theorem xtb7 {fz:Bool}{t:TypeId}{sz:Nat}{r:Row}:znb7 (.live fz t sz r)=r.len:=rfl
theorem eub7:znb7 .dead=0:=rfl
theorem skb7 {i:Nat}{is:List Nat}:pick ops (i::is)=opD ops.toList i::pick ops is:=by
 simp[pick,gab7,List.getD_eq_getElem?_getD,Array.getD_eq_getD_getElem?]
theorem vgb7:pick ops []=[]:=rfl
theorem t_n {n:AS→Prop}:wi7 n Q .normal σ=n σ:=rfl
theorem t_e {n:AS→Prop}{id:Nat}:wi7 n Q (.exit id) σ=Q (.exit id) σ:=rfl
theorem t_r {n:AS→Prop}:wi7 n Q .ret σ=Q .ret σ:=rfl
theorem b_n {id:Nat}:inB id Q .normal σ=Q .normal σ:=rfl
theorem b_e {id j:Nat}:inB id Q (.exit j) σ=if j=id then Q .normal σ else Q (.exit j) σ:=rfl
theorem b_r {id:Nat}:inB id Q .ret σ=Q .ret σ:=rfl
theorem c_t {b:Bool}{A B:Prop}:sbb7 (true,.c (.bool b)) A B=((b=true→A)∧(b=false→B)):=rfl
theorem r_r {rs:List ResultVar}{K:RV→List Root→Prop}:sjb7 ty rs K .ret σ=((xh7 ty σ rs).1∧K (one (xh7 ty σ rs).2) σ.H):=rfl
theorem r_n {rs:List ResultVar}{K:RV→List Root→Prop}:sjb7 ty rs K .normal σ=((xh7 ty σ rs).1∧K (one (xh7 ty σ rs).2) σ.H):=rfl
end
section
variable {n:Nat} {ids:List Nat}
theorem eib7 {n:Nat}{ids:List Nat}:nd7 n ids .dead = .dead:=rfl
theorem fob7 {n:Nat}{ids:List Nat}{fz:Bool}{t:TypeId}{sz:Nat}{l:List AV}:nd7 n ids (.live fz t sz (.box l)) = .live fz t sz (.box (xx7 n ids l)):=rfl
theorem cjb7 {n:Nat}{ids:List Nat}{fz:Bool}{t:TypeId}{sz:Nat}{k:IntKind}{l:List Int}:nd7 n ids (.live fz t sz (.ints k l)) = .live fz t sz (.ints k l):=rfl
theorem sdb7 {n:Nat}{ids:List Nat}{fz:Bool}{t:TypeId}{sz:Nat}{l:List Bool}:nd7 n ids (.live fz t sz (.bools l)) = .live fz t sz (.bools l):=rfl
theorem eob7 {n:Nat}{ids:List Nat}{fz:Bool}{t:TypeId}{sz:Nat}{l:List (List AV)}:nd7 n ids (.live fz t sz (.gen l)) = .live fz t sz (.gen l):=rfl
theorem emb7 {n:Nat}{ids:List Nat}{fz:Bool}{t:TypeId}{sz:Nat}{l:List (List AV)}:nd7 n ids (.live fz t sz (.own l)) = .live fz t sz (.own (go7 n ids l)):=rfl
theorem lkb7 {id m i o:Nat}:im7 n ids (.ptr id m i o)=acb7 m i o (jbb7 n ids id):=rfl
theorem rub7 {id st len:Nat}:im7 n ids (.h id st len)=mkH st len (jbb7 n ids id):=rfl
theorem nlb7 {k:IntKind}{v:Int}:im7 n ids (.int k v) = .int k v:=rfl
theorem ahb7 {b:Bool}:im7 n ids (.bool b) = .bool b:=rfl
theorem nkb7 {b:Nat}:im7 n ids (.flt b) = .flt b:=rfl
theorem amb7 {b:ByteArray}:im7 n ids (.str b) = .str b:=rfl
theorem mhb7:im7 n ids .nilp = .nilp:=rfl
theorem ghb7:im7 n ids .nils = .nils:=rfl
theorem aib7:im7 n ids .junk = .junk:=rfl
theorem xqb7 {k sz:Nat}{f:Nat→Nat→AV}:im7 n ids (.sl k sz f) = .sl k sz f:=rfl
theorem esb7 {k:Nat}{f:Nat→AV}:im7 n ids (.rp k f) = .rp k f:=rfl
theorem rrb7 {m i o j:Nat}:acb7 m i o (some j) = .ptr j m i o:=rfl
theorem wrb7 {m i o:Nat}:acb7 m i o none = .junk:=rfl
theorem fpb7 {st len j:Nat}:mkH st len (some j) = .h j st len:=rfl
theorem irb7 {st len:Nat}:mkH st len none = .junk:=rfl
end
attribute [congr] ur7 ax7
def tyM:Nat→TyE
 | 2=>⟨1,8,.i .i64,[.int .i64 0],none⟩
 | 3=>⟨1,8,.i .i64,[.int .i64 0],none⟩
 | 4=>⟨1,1,.b,[.bool false],none⟩
 | 5=>⟨1,1,.i .u8,[.int .u8 0],none⟩
 | 6=>⟨1,1,.i .u8,[.int .u8 0],none⟩
 | 7=>⟨4,24,.st [(0,1),(1,1),(2,1),(3,1)],[.int .i64 0,.int .i64 0,.bool false,.int .u8 0],none⟩
 | 8=>⟨4,24,.st [(0,1),(1,1),(2,1),(3,1)],[.int .i64 0,.int .i64 0,.bool false,.int .u8 0],none⟩
 | 9=>⟨1,16,.str,[.str ⟨#[]⟩],none⟩
 | 10=>⟨1,16,.str,[.str ⟨#[]⟩],none⟩
 | 11=>⟨1,16,.str,[.str ⟨#[]⟩],none⟩
 | 12=>⟨1,8,.i .u64,[.int .u64 0],none⟩
 | 13=>⟨2,24,.st [(0,1),(1,1)],[.str ⟨#[]⟩,.int .u64 0],none⟩
 | 14=>⟨2,24,.st [(0,1),(1,1)],[.str ⟨#[]⟩,.int .u64 0],none⟩
 | 15=>⟨1,8,.sc,[.nilp],none⟩
 | 16=>⟨1,8,.sc,[.nilp],none⟩
 | 17=>⟨1,8,.sc,[.nilp],none⟩
 | 18=>⟨1,8,.st [(0,1)],[.nilp],none⟩
 | 19=>⟨1,8,.st [(0,1)],[.nilp],none⟩
 | 21=>⟨1,4,.i .i32,[.int .i32 0],none⟩
 | 22=>⟨1,24,.sl 163,[.nils],none⟩
 | 23=>⟨1,24,.sl 165,[.nils],none⟩
 | 24=>⟨1,24,.sl 5,[.nils],none⟩
 | 25=>⟨11,112,.st [(0,1),(1,1),(2,1),(3,1),(4,1),(5,1),(6,1),(7,1),(8,1),(9,1),(10,1)],[.int .u8 0,.int .u8 0,.int .u8 0,.int .u8 0,.int .u8 0,.nils,.nils,.nils,.nils,.bool false,.bool false],none⟩
 | 26=>⟨11,112,.st [(0,1),(1,1),(2,1),(3,1),(4,1),(5,1),(6,1),(7,1),(8,1),(9,1),(10,1)],[.int .u8 0,.int .u8 0,.int .u8 0,.int .u8 0,.int .u8 0,.nils,.nils,.nils,.nils,.bool false,.bool false],none⟩
 | 27=>⟨3,72,.st [(0,1),(1,1),(2,1)],[.nils,.nils,.nils],none⟩
 | 28=>⟨3,72,.st [(0,1),(1,1),(2,1)],[.nils,.nils,.nils],none⟩
 | 29=>⟨1,1,.i .i8,[.int .i8 0],none⟩
 | 30=>⟨1,24,.sl 29,[.nils],none⟩
 | 31=>⟨2,32,.st [(0,1),(1,1)],[.nils,.int .u8 0],none⟩
 | 32=>⟨2,32,.st [(0,1),(1,1)],[.nils,.int .u8 0],none⟩
 | 34=>⟨1,24,.sl 124,[.nils],none⟩
 | 35=>⟨1,24,.sl 70,[.nils],none⟩
 | 36=>⟨2,48,.st [(0,1),(1,1)],[.nils,.nils],none⟩
 | 37=>⟨2,48,.st [(0,1),(1,1)],[.nils,.nils],none⟩
 | 38=>⟨1,24,.sl 78,[.nils],none⟩
 | 39=>⟨1,24,.sl 136,[.nils],none⟩
 | 40=>⟨2,48,.st [(0,1),(1,1)],[.nils,.nils],none⟩
 | 41=>⟨2,48,.st [(0,1),(1,1)],[.nils,.nils],none⟩
 | 42=>⟨5,104,.st [(0,2),(2,2),(4,1)],[.nils,.nils,.nils,.nils,.int .i64 0],none⟩
 | 43=>⟨5,104,.st [(0,2),(2,2),(4,1)],[.nils,.nils,.nils,.nils,.int .i64 0],none⟩
 | 47=>⟨1,8,.i .i64,[.int .i64 0],none⟩
 | 52=>⟨2,16,.st [(0,1),(1,1)],[.int .i64 0,.int .i64 0],none⟩
 | 53=>⟨2,16,.st [(0,1),(1,1)],[.int .i64 0,.int .i64 0],none⟩
 | 54=>⟨1,24,.sl 87,[.nils],none⟩
 | 55=>⟨1,24,.sl 167,[.nils],none⟩
 | 56=>⟨9,136,.st [(0,1),(1,2),(3,2),(5,1),(6,1),(7,1),(8,1)],[.int .i64 0,.int .i64 0,.int .i64 0,.int .i64 0,.int .i64 0,.nils,.nils,.nils,.nils],none⟩
 | 57=>⟨9,136,.st [(0,1),(1,2),(3,2),(5,1),(6,1),(7,1),(8,1)],[.int .i64 0,.int .i64 0,.int .i64 0,.int .i64 0,.int .i64 0,.nils,.nils,.nils,.nils],none⟩
 | 68=>⟨1,24,.sl 3,[.nils],none⟩
 | 69=>⟨2,32,.st [(0,1),(1,1)],[.int .i64 0,.nils],none⟩
 | 70=>⟨2,32,.st [(0,1),(1,1)],[.int .i64 0,.nils],none⟩
 | 78=>⟨1,24,.sl 2,[.nils],none⟩
 | 86=>⟨2,16,.st [(0,1),(1,1)],[.int .i64 0,.int .i64 0],none⟩
 | 87=>⟨2,16,.st [(0,1),(1,1)],[.int .i64 0,.int .i64 0],none⟩
 | 88=>⟨1,24,.sl 268,[.nils],none⟩
 | 89=>⟨1,8,.i .u64,[.int .u64 0],none⟩
 | 90=>⟨4,48,.st [(0,1),(1,1),(2,1),(3,1)],[.nils,.int .u8 0,.int .u64 0,.int .u64 0],none⟩
 | 91=>⟨4,48,.st [(0,1),(1,1),(2,1),(3,1)],[.nils,.int .u8 0,.int .u64 0,.int .u64 0],none⟩
 | 93=>⟨1,8,.sc,[.flt 0],none⟩
 | 94=>⟨4,48,.st [(0,1),(1,1),(2,1),(3,1)],[.nils,.int .i64 0,.flt 0,.flt 0],none⟩
 | 95=>⟨4,48,.st [(0,1),(1,1),(2,1),(3,1)],[.nils,.int .i64 0,.flt 0,.flt 0],none⟩
 | 99=>⟨5,40,.st [(0,1),(1,1),(2,1),(3,1),(4,1)],[.int .i64 0,.int .i64 0,.int .i64 0,.int .i64 0,.bool false],none⟩
 | 100=>⟨5,40,.st [(0,1),(1,1),(2,1),(3,1),(4,1)],[.int .i64 0,.int .i64 0,.int .i64 0,.int .i64 0,.bool false],none⟩
 | 104=>⟨1,24,.sl 110,[.nils],none⟩
 | 107=>⟨1,8,.sc,[.nilp],none⟩
 | 108=>⟨1,8,.i .i64,[.int .i64 0],none⟩
 | 109=>⟨5,40,.st [(0,1),(1,1),(2,1),(3,1),(4,1)],[.int .i64 0,.int .i64 0,.int .i64 0,.int .i64 0,.int .i64 0],none⟩
 | 110=>⟨5,40,.st [(0,1),(1,1),(2,1),(3,1),(4,1)],[.int .i64 0,.int .i64 0,.int .i64 0,.int .i64 0,.int .i64 0],none⟩
 | 114=>⟨1,8,.sc,[.nilp],none⟩
 | 115=>⟨3,40,.st [(0,1),(1,1),(2,1)],[.nils,.int .i64 0,.bool false],none⟩
 | 116=>⟨3,40,.st [(0,1),(1,1),(2,1)],[.nils,.int .i64 0,.bool false],none⟩
 | 120=>⟨2,16,.st [(0,1),(1,1)],[.int .i64 0,.int .i64 0],none⟩
 | 121=>⟨2,16,.st [(0,1),(1,1)],[.int .i64 0,.int .i64 0],none⟩
 | 122=>⟨1,24,.sl 121,[.nils],none⟩
 | 123=>⟨1,24,.st [(0,1)],[.nils],none⟩
 | 124=>⟨1,24,.st [(0,1)],[.nils],none⟩
 | 125=>⟨1,8,.sc,[.nilp],none⟩
 | 126=>⟨2,32,.st [(0,1),(1,1)],[.nilp,.nils],none⟩
 | 127=>⟨2,32,.st [(0,1),(1,1)],[.nilp,.nils],none⟩
 | 135=>⟨3,40,.st [(0,1),(1,1),(2,1)],[.int .i64 0,.nils,.int .i64 0],none⟩
 | 136=>⟨3,40,.st [(0,1),(1,1),(2,1)],[.int .i64 0,.nils,.int .i64 0],none⟩
 | 144=>⟨1,8,.sc,[.nilp],none⟩
 | 152=>⟨1,24,.sl 160,[.nils],none⟩
 | 155=>⟨1,8,.sc,[.nilp],none⟩
 | 156=>⟨4,48,.st [(0,1),(1,1),(2,1),(3,1)],[.nils,.int .i64 0,.int .i64 0,.int .i64 0],none⟩
 | 157=>⟨4,48,.st [(0,1),(1,1),(2,1),(3,1)],[.nils,.int .i64 0,.int .i64 0,.int .i64 0],none⟩
 | 159=>⟨2,24,.st [(0,1),(1,1)],[.str ⟨#[]⟩,.int .i64 0],none⟩
 | 160=>⟨2,24,.st [(0,1),(1,1)],[.str ⟨#[]⟩,.int .i64 0],none⟩
 | 162=>⟨2,2,.st [(0,1),(1,1)],[.int .u8 0,.int .u8 0],none⟩
 | 163=>⟨2,2,.st [(0,1),(1,1)],[.int .u8 0,.int .u8 0],none⟩
 | 164=>⟨4,4,.st [(0,1),(1,1),(2,1),(3,1)],[.int .u8 0,.int .u8 0,.int .u8 0,.int .u8 0],none⟩
 | 165=>⟨4,4,.st [(0,1),(1,1),(2,1),(3,1)],[.int .u8 0,.int .u8 0,.int .u8 0,.int .u8 0],none⟩
 | 166=>⟨4,32,.st [(0,1),(1,1),(2,1),(3,1)],[.int .i64 0,.int .i64 0,.int .i64 0,.int .i64 0],none⟩
 | 167=>⟨4,32,.st [(0,1),(1,1),(2,1),(3,1)],[.int .i64 0,.int .i64 0,.int .i64 0,.int .i64 0],none⟩
 | 172=>⟨1,8,.sc,[.nilp],none⟩
 | 177=>⟨1,8,.sc,[.nilp],none⟩
 | 184=>⟨1,24,.sl 191,[.nils],none⟩
 | 191=>⟨1,8,.i .u64,[.int .u64 0],none⟩
 | 193=>⟨1,24,.sl 195,[.nils],none⟩
 | 195=>⟨1,24,.sl 4,[.nils],none⟩
 | 201=>⟨3,24,.st [(0,1),(1,1),(2,1)],[.int .i64 0,.int .i64 0,.int .i64 0],none⟩
 | 202=>⟨3,24,.st [(0,1),(1,1),(2,1)],[.int .i64 0,.int .i64 0,.int .i64 0],none⟩
 | 210=>⟨1,8,.sc,[.nilp],none⟩
 | 211=>⟨29,440,.st [(0,9),(9,5),(14,5),(19,1),(20,4),(24,5)],[.int .i64 0,.int .i64 0,.int .i64 0,.int .i64 0,.int .i64 0,.nils,.nils,.nils,.nils,.nils,.nils,.nils,.nils,.int .i64 0,.nils,.nils,.nils,.nils,.int .i64 0,.flt 0,.nils,.int .i64 0,.flt 0,.flt 0,.int .i64 0,.int .i64 0,.int .i64 0,.int .i64 0,.bool false],none⟩
 | 212=>⟨29,440,.st [(0,9),(9,5),(14,5),(19,1),(20,4),(24,5)],[.int .i64 0,.int .i64 0,.int .i64 0,.int .i64 0,.int .i64 0,.nils,.nils,.nils,.nils,.nils,.nils,.nils,.nils,.int .i64 0,.nils,.nils,.nils,.nils,.int .i64 0,.flt 0,.nils,.int .i64 0,.flt 0,.flt 0,.int .i64 0,.int .i64 0,.int .i64 0,.int .i64 0,.bool false],none⟩
 | 213=>⟨2,32,.st [(0,1),(1,1)],[.nils,.int .i64 0],none⟩
 | 214=>⟨2,32,.st [(0,1),(1,1)],[.nils,.int .i64 0],none⟩
 | 215=>⟨0,0,.st [],[],none⟩
 | 216=>⟨0,0,.st [],[],none⟩
 | 218=>⟨1,8,.sc,[.nilp],none⟩
 | 219=>⟨1,24,.sl 230,[.nils],none⟩
 | 222=>⟨2,16,.st [(0,1),(1,1)],[.int .i64 0,.int .i64 0],none⟩
 | 223=>⟨2,16,.st [(0,1),(1,1)],[.int .i64 0,.int .i64 0],none⟩
 | 225=>⟨3,40,.st [(0,1),(1,1),(2,1)],[.nils,.int .i64 0,.int .i64 0],none⟩
 | 226=>⟨3,40,.st [(0,1),(1,1),(2,1)],[.nils,.int .i64 0,.int .i64 0],none⟩
 | 230=>⟨2,24,.st [(0,1),(1,1)],[.str ⟨#[]⟩,.int .i64 0],none⟩
 | 241=>⟨1,24,.sl 260,[.nils],none⟩
 | 242=>⟨2,32,.st [(0,1),(1,1)],[.int .i64 0,.nils],none⟩
 | 243=>⟨2,32,.st [(0,1),(1,1)],[.int .i64 0,.nils],none⟩
 | 259=>⟨3,24,.st [(0,1),(1,1),(2,1)],[.int .i64 0,.int .i64 0,.int .i64 0],none⟩
 | 260=>⟨3,24,.st [(0,1),(1,1),(2,1)],[.int .i64 0,.int .i64 0,.int .i64 0],none⟩
 | 261=>⟨2,48,.st [(0,1),(1,1)],[.nils,.nils],none⟩
 | 262=>⟨2,48,.st [(0,1),(1,1)],[.nils,.nils],none⟩
 | 268=>⟨1,4,.i .u32,[.int .u32 0],none⟩
 | 273=>⟨2,48,.ar 2 1,[.nils,.nils],none⟩
 | 280=>⟨20,20,.ar 20 1,[.int .u8 0,.int .u8 0,.int .u8 0,.int .u8 0,.int .u8 0,.int .u8 0,.int .u8 0,.int .u8 0,.int .u8 0,.int .u8 0,.int .u8 0,.int .u8 0,.int .u8 0,.int .u8 0,.int .u8 0,.int .u8 0,.int .u8 0,.int .u8 0,.int .u8 0,.int .u8 0],none⟩
 | 286=>⟨1,8,.sc,[.nilp],none⟩
 | 287=>⟨3,56,.st [(0,2),(2,1)],[.int .i64 0,.nils,.nils],none⟩
 | 288=>⟨3,56,.st [(0,2),(2,1)],[.int .i64 0,.nils,.nils],none⟩
 | 289=>⟨1,24,.sl 68,[.nils],none⟩
 | 303=>⟨1,8,.sc,[.nilp],none⟩
 | 306=>⟨2,16,.st [(0,1),(1,1)],[.int .i64 0,.int .i64 0],none⟩
 | 307=>⟨2,16,.st [(0,1),(1,1)],[.int .i64 0,.int .i64 0],none⟩
 | 324=>⟨1,24,.sl 307,[.nils],none⟩
 | 325=>⟨1,24,.sl 307,[.nils],none⟩
 | 326=>⟨1,24,.st [(0,1)],[.nils],none⟩
 | 327=>⟨1,24,.st [(0,1)],[.nils],none⟩
 | 329=>⟨1,8,.sc,[.nilp],none⟩
 | 337=>⟨1,8,.i .i64,[.int .i64 0],none⟩
 | 340=>⟨1,8,.i .u64,[.int .u64 0],none⟩
 | 356=>⟨1,24,.sl 93,[.nils],none⟩
 | 361=>⟨4,40,.st [(0,1),(1,1),(2,1),(3,1)],[.nilp,.nilp,.nilp,.str ⟨#[]⟩],none⟩
 | 362=>⟨4,40,.st [(0,1),(1,1),(2,1),(3,1)],[.nilp,.nilp,.nilp,.str ⟨#[]⟩],none⟩
 | 363=>⟨0,0,.ar 0 1,[],none⟩
 | 364=>⟨0,0,.st [(0,0)],[],none⟩
 | 365=>⟨0,0,.st [(0,0)],[],none⟩
 | 366=>⟨1,1,.i .u8,[.int .u8 0],none⟩
 | 367=>⟨1,1,.i .u8,[.int .u8 0],none⟩
 | 369=>⟨1,4,.i .i32,[.int .i32 0],none⟩
 | 370=>⟨1,4,.i .i32,[.int .i32 0],none⟩
 | _=>⟨0,0,.no,[],none⟩
def ty:Ty:=fun t=>if t<376 then tyM t else ⟨0,0,.no,[],none⟩
theorem vpb7 (t:Nat):ty t=if t<376 then tyM t else ⟨0,0,.no,[],none⟩:=rfl
theorem bc7:qb7 Tryz.prog ty:=ohb7 (n:=376) (by kernel_rfl) (fun t h=>by
 show (if t<376 then tyM t else _).k = .no
 rw[if_neg (Nat.not_lt.2 h)])
end Go.Proofs.YtabadfkikdefeaaGreat.Ab
