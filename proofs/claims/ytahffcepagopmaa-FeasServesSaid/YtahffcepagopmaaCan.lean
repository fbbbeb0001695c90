/- wharfagelaw18.Can, by the abstract machine. -/
import Derived.Test.YtahffcepagopmaaR2
set_option linter.all false
set_option maxRecDepth 100000
set_option maxHeartbeats 6400000
namespace Go.Proofs.Ytahffcepagopmaa.Ab
open Go.RowKit
theorem tz7 {x:ba7} (gd:Good x) {t:List da7} {l:List Int} {ok:Bool}:∀ j,(wn7 x t l ok j).ok = true → ok = true ∧ (0 ≤ (wn7 x t l ok j).now ∧ (wn7 x t l ok j).now ≤ x.fin) ∧ ∀ i,i < j → 0 ≤ l.getD i 0 ∧ l.getD i 0 ≤ x.fin
 | 0,h=>⟨h,⟨Int.le_refl _,gd.fin.1⟩,fun i hi=>absurd hi (Nat.not_lt_zero _)⟩
 | j + 1,h=>by
  have h':((wn7 x t l ok j).ok && (decide ((wn7 x t l ok j).now ≤ l.getD j 0) && (decide (va7 x (wn7 x t l ok j).node (1 + (t.getD j ⟨0,0⟩).sat) ≤ l.getD j 0 - (wn7 x t l ok j).now) && decide (l.getD j 0 ≤ x.fin)))) = true:=h
  simp only [Bool.and_eq_true,decide_eq_true_eq] at h'
  obtain ⟨h0,h1,h2,h3⟩:=h'
  obtain ⟨g1,g2,g3⟩:=tz7 gd j h0
  refine ⟨g1, ?_,fun i hi => ?_⟩
  ·show 0 ≤ l.getD j 0 ∧ l.getD j 0 ≤ x.fin; omega
  ·by_cases e:i = j
   ·subst e; omega
   ·exact g3 i (by omega)
theorem wkb7 {x:ba7} {t:List da7} {l:List Int} {ok:Bool} (ht:∀ s ∈ t,0 ≤ s.sat ∧ s.sat < x.sats.length):∀ j,j ≤ t.length → 0 ≤ (wn7 x t l ok j).node ∧ (wn7 x t l ok j).node < nodes x
 | 0,_=>⟨Int.le_refl _,by show (0:Int) < (nodes x:Int); unfold nodes; omega⟩
 | j + 1,hj=>by
  have:=ht _ (ub7 (l:=t) (k:=j) (by omega) ⟨0,0⟩)
  show 0 ≤ 1 + (t.getD j ⟨0,0⟩).sat ∧ 1 + (t.getD j ⟨0,0⟩).sat < (nodes x:Int)
  unfold nodes; omega
theorem qs7 {x:ba7} {p:sa7} {t:qb7} (gd:Good x):∀ k,fc7 x p t k = true → ∀ m,m < k → ∀ i,i < (p.trucks.getD m []).length → 0 ≤ (t.trucks.getD m []).getD i 0 ∧ (t.trucks.getD m []).getD i 0 ≤ x.fin
 | 0,_,m,hm=>absurd hm (Nat.not_lt_zero _)
 | k + 1,h,m,hm=>by
  have h':((wn7 x (p.trucks.getD k []) (t.trucks.getD k []) (fc7 x p t k) (p.trucks.getD k []).length).ok && _) = true:=h
  rw [Bool.and_eq_true] at h'
  obtain ⟨g1,g2,g3⟩:=tz7 gd _ h'.1
  by_cases e:m = k
  ·subst e; exact g3
  ·exact qs7 gd k g1 m (by omega)
theorem of7 {α:Type} {l:List α} {k:Nat} (h:k < l.length) (z:α):l.getD k z = l[k]:=by
 rw [List.getD_eq_getElem?_getD,List.getElem?_eq_getElem h]; rfl
theorem mjb7 (x:ba7) {c:Int} (h:bc7 x c) (g:Good x):zi7 Try.prog 29 [.agg (qf7 x), .c (I6 c)] (fun r=>r = .c (.int .i64 (1 + x.sats.length + c))):=by
 refine kk7 xy7 (by kernel_rfl) (fun _=>([],0,none)) Try.func29 rfl (by kernel_rfl) Try.ntmps29 (congrArg Array.toList Try.results29) (by kernel_rfl) (by simp) ?_
 simp -implicitDefEqProofs only [go_sem, ↓reduceIte,reduceCtorEq,Nat.reduceAdd,Nat.reduceLT,Nat.reduceEqDiff,Nat.reduceMul,Nat.reduceLeDiff,Nat.reduceSub,qf7]
 have:=g.sats; have:=g.custs; unfold bc7 at h
 omega
theorem hcb7 {x:ba7} {p:sa7} {t:qb7} (k:Nat) (h:gi7 x p t k = none):∀ n,k ≤ n → gi7 x p t n = none:=by
 intro n hn
 obtain ⟨m,rfl⟩:∃ m,n = k + m:=⟨n - k,by omega⟩
 clear hn
 induction m with
 | zero=>exact h
 | succ m ih=>rw [← Nat.add_assoc]; simp only [gi7,ih,Option.bind_none]
theorem wr7 {x:ba7} (g:Good x) {c:Int} (h:bc7 x c):(0 ≤ (tb7 x c).opn ∧ (tb7 x c).opn ≤ 1000000000) ∧ 0 ≤ (tb7 x c).stay ∧ (tb7 x c).stay ≤ 1000000000:=by
 unfold bc7 at h
 have:=g.cust (tb7 x c) (ub7 (by omega) _)
 exact ⟨this.2.1,this.2.2.2⟩
theorem bmb7 {x:ba7} (g:Good x) {b:pa7} {r:zc7} {ok:Bool} (hs:0 ≤ b.sat ∧ b.sat < x.sats.length) (hc:∀ c ∈ b.stops,bc7 x c):∀ j,j ≤ b.stops.length → ∀ {st},mcb7 x b r ok j = some st →
  (0 ≤ st.node ∧ st.node < (nodes x:Int)) ∧ (ok = true → (ok = true → 0 ≤ r.out ∧ r.out ≤ x.fin) → 0 ≤ st.now ∧ st.now ≤ 2000000000)
 | 0,_,st,h=>by
  cases h
  have:=g.fin
  exact ⟨by show 0 ≤ 1 + b.sat ∧ 1 + b.sat < (nodes x:Int); unfold nodes; omega,fun h1 h2=>by have:=h2 h1; show 0 ≤ r.out ∧ r.out ≤ 2000000000; omega⟩
 | j + 1,hj,st,h=>by
  simp only [mcb7] at h
  cases hq:mcb7 x b r ok j with
  | none=>rw [hq] at h; cases h
  | some s0 =>
   rw [hq] at h
   simp only [Option.bind_some] at h
   split at h
   ·rename_i hg
    cases h
    have hco:=hc _ (ub7 (l:=b.stops) (k:=j) (by omega) 0)
    have hb:=wr7 g hco
    have:=g.fin
    simp only [mx7,Bool.and_eq_true,decide_eq_true_eq] at hg
    unfold bc7 at hco
    refine ⟨by show 0 ≤ 1 + x.sats.length + b.stops.getD j 0 ∧ 1 + x.sats.length + b.stops.getD j 0 < (nodes x:Int); unfold nodes; omega,fun _ _ => ?_⟩
    show 0 ≤ r.starts.getD j 0 + (tb7 x (b.stops.getD j 0)).stay ∧ r.starts.getD j 0 + (tb7 x (b.stops.getD j 0)).stay ≤ 2000000000
    omega
   ·cases h
theorem ubb7 {x:ba7} {b:pa7} {r:zc7} {ok:Bool} (k:Nat) (h:mcb7 x b r ok k = none):∀ n,k ≤ n → mcb7 x b r ok n = none:=by
 intro n hn
 obtain ⟨m,rfl⟩:∃ m,n = k + m:=⟨n - k,by omega⟩
 clear hn
 induction m with
 | zero=>exact h
 | succ m ih=>rw [← Nat.add_assoc]; simp only [mcb7,ih,Option.bind_none]
def tkb7 (t:qb7):Prop:=(∀ k j,ua7 ((yo7 t k).getD j 0)) ∧ ∀ k,ua7 (yk7 t k).out ∧ ua7 (yk7 t k).back ∧ ∀ j,ua7 ((yk7 t k).starts.getD j 0)
theorem vcc7 {x:ba7} {p:sa7} {t:qb7} (ok:gs7 x p) (hfit:qn7 p t = true) (hwt:tkb7 t):zi7 Try.prog 17 [.agg (qf7 x), .agg (if7 p), .agg (dd7 t)] (fun r=>r = .c (.bool (jvb7 x p t))):=by
 obtain ⟨⟨hT,hB⟩,hTl,hBl⟩:(t.trucks.length = p.trucks.length ∧ t.bikes.length = p.bikes.length) ∧ (∀ k,k < p.trucks.length → (yo7 t k).length = (tc7 p k).length) ∧ ∀ k,k < p.bikes.length → (yk7 t k).starts.length = (sc7 p k).stops.length:=by
  unfold qn7 fq7 on7 at hfit
  simp only [Bool.and_eq_true,decide_eq_true_eq,List.all_eq_true,List.mem_range] at hfit
  exact ⟨hfit.1,hfit.2.1,hfit.2.2⟩
 have gd:=ok.good
 have hs1:=gd.sats; have hc1:=gd.custs; have hf1:=gd.fin; have htl:=ok.tl; have hbl:=ok.bl
 have hnd:nodes x = 1 + x.sats.length + x.custs.length:=rfl
 have hst:∀ k,k < p.trucks.length → (tc7 p k).length ≤ 100000 ∧ ∀ j,j < (tc7 p k).length → 0 ≤ (stN (tc7 p k) j).sat ∧ (stN (tc7 p k) j).sat < x.sats.length:=fun k hk =>
  ⟨(ok.t1 _ (ub7 hk [])).1,fun j hj=>(ok.t1 _ (ub7 hk [])).2 _ (ub7 hj _)⟩
 refine kk7 xy7 (by kernel_rfl) (fun n=>match n with | 35=>([],1,none) | _=>([],0,none)) Try.func17 rfl (by kernel_rfl) Try.ntmps17 (congrArg Array.toList Try.results17) (by kernel_rfl) (by simp) ?_
 simp -implicitDefEqProofs only [go_sem, ↓reduceIte,reduceCtorEq,Nat.reduceAdd,Nat.reduceLT,Nat.reduceEqDiff,Nat.reduceMul,Nat.reduceLeDiff,Nat.reduceSub,qf7,if7,dd7]
 refine wd7 (ι:=Nat) [3,4,5,29,30] [7,31] (fun k=>k ≤ p.trucks.length) (fun k=>[.c (.bool (fc7 x p t k)), .c (I6 k)]) (fun _=>_) (fun k=>p.trucks.length - k) (by kernel_rfl) ⟨0,Nat.zero_le _,rfl,rfl⟩ (fun k _=>⟨rfl,rfl,rfl,rfl⟩) ?_
 intro k hk
 simp -implicitDefEqProofs only [go_sem, ↓reduceIte,reduceCtorEq,Nat.reduceAdd,Nat.reduceLT,Nat.reduceEqDiff,Nat.reduceMul,Nat.reduceLeDiff,Nat.reduceSub]
 refine ⟨fun h => ?_,fun h => ?_⟩
 ·have hlt:k < p.trucks.length:=by omega
  obtain ⟨hl1,hl2⟩:=hst k hlt
  have hl3:=hTl k hlt
  refine ⟨by omega, ?_⟩
  refine wd7 (ι:=Nat) [3,4,5,8,29,30,31,37,38] [7,10,11,39] (fun j=>j ≤ (tc7 p k).length) (fun j=>[.c (.bool (wn7 x (tc7 p k) (yo7 t k) (fc7 x p t k) j).ok), .c (I6 (wn7 x (tc7 p k) (yo7 t k) (fc7 x p t k) j).now), .c (I6 (wn7 x (tc7 p k) (yo7 t k) (fc7 x p t k) j).node), .c (I6 j)]) (fun _=>_) (fun j=>(tc7 p k).length - j) (by kernel_rfl) ⟨0,Nat.zero_le _,rfl,rfl⟩ (fun k _=>⟨rfl,rfl,rfl,rfl⟩) ?_
  intro j hj
  have hug:=tz7 gd (t:=tc7 p k) (l:=yo7 t k) (ok:=fc7 x p t k) j
  have hun:=wkb7 (x:=x) (t:=tc7 p k) (l:=yo7 t k) (ok:=fc7 x p t k) (fun s hs=>(ok.t1 _ (ub7 hlt [])).2 s hs) j hj
  have hup:wn7 x (tc7 p k) (yo7 t k) (fc7 x p t k) (j + 1) = jv7 x (wn7 x (tc7 p k) (yo7 t k) (fc7 x p t k) j) (stN (tc7 p k) j) ((yo7 t k).getD j 0):=rfl
  have hen:j = (tc7 p k).length → fc7 x p t (k + 1) = wmb7 x (wn7 x (tc7 p k) (yo7 t k) (fc7 x p t k) j):=fun e=>by subst e; rfl
  generalize wn7 x (tc7 p k) (yo7 t k) (fc7 x p t k) j = st at hug hun hup hen
  simp -implicitDefEqProofs only [go_sem, ↓reduceIte,reduceCtorEq,Nat.reduceAdd,Nat.reduceLT,Nat.reduceEqDiff,Nat.reduceMul,Nat.reduceLeDiff,Nat.reduceSub]
  refine ⟨fun h2 => ?_,fun h2 => ?_⟩
  ·have hjl:j < (tc7 p k).length:=by omega
   have h3:=hl2 j hjl
   refine ⟨by omega,by omega,by omega,fun g1 g2 => ?_,fun g1 g2=>⟨hun.1,by omega⟩,fun g1 g2=>by omega,fun g1 g2=>by omega,by omega,by omega,j + 1,by omega, ?_,by omega⟩
   ·have:=hug g1; have h4:=hwt.1 k j; unfold ua7 at h4; omega
   ·rw [hup]; simp [jv7,Bool.and_assoc]
  ·obtain rfl:j = (tc7 p k).length:=by omega
   have htm:=nb7 gd st.node 0
   refine ⟨fun g1 g2=>⟨hun.1,by omega⟩,fun g1 g2=>by omega,fun g1 g2 => ?_,by omega,k + 1,by omega, ?_,by omega⟩
   ·have:=hug g1; omega
   ·simp [hen rfl,wmb7,Bool.and_assoc]
 ·obtain rfl:k = p.trucks.length:=by omega
  have hcn:=qs7 (p:=p) (t:=t) gd p.trucks.length
  have hcl:jvb7 x p t = (fc7 x p t p.trucks.length && match gi7 x p t p.bikes.length with
    | none=>false
    | some b=>b):=rfl
  generalize fc7 x p t p.trucks.length = o0 at hcn hcl
  refine ⟨fun e=>by rw [hcl,e]; rfl,fun e => ?_⟩
  simp only [Bool.not_eq_false'] at e
  subst e
  have hcn:=hcn rfl
  refine wd7 (ι:=Nat × Bool) [3,4,5,110,111] [7,112] (fun s=>s.1 ≤ p.bikes.length ∧ gi7 x p t s.1 = some s.2) (fun s=>[.c (.bool s.2), .c (I6 s.1)]) (fun _=>_) (fun s=>p.bikes.length - s.1) (by kernel_rfl) ⟨(0,true),⟨Nat.zero_le _,rfl⟩,rfl,rfl⟩ (fun k _=>⟨rfl,rfl,rfl,rfl⟩) ?_
  rintro ⟨k,ob⟩ ⟨hk,hcb⟩
  simp only [] at hk hcb
  simp -implicitDefEqProofs only [go_sem, ↓reduceIte,reduceCtorEq,Nat.reduceAdd,Nat.reduceLT,Nat.reduceEqDiff,Nat.reduceMul,Nat.reduceLeDiff,Nat.reduceSub]
  refine ⟨fun h => ?_,fun h => ?_⟩
  ·have hlt:k < p.bikes.length:=by omega
   obtain ⟨hb1,hb2,hb3⟩:(sc7 p k).stops.length ≤ 100000 ∧ (0 ≤ (sc7 p k).sat ∧ (sc7 p k).sat < x.sats.length) ∧ ∀ c ∈ (sc7 p k).stops,bc7 x c:=ok.b1 _ (ub7 hlt _)
   have hb4:=hBl k hlt
   have hnx:gi7 x p t (k + 1) = (mcb7 x (sc7 p k) (yk7 t k) (kpb7 x p t (sc7 p k) (yk7 t k) ob) (sc7 p k).stops.length).map fun st=>phb7 x (sc7 p k) (yk7 t k) st (kpb7 x p t (sc7 p k) (yk7 t k) ob):=by
    show (gi7 x p t k).bind _ = _
    rw [hcb]; rfl
   have hno:mcb7 x (sc7 p k) (yk7 t k) (kpb7 x p t (sc7 p k) (yk7 t k) ob) (sc7 p k).stops.length = none → jvb7 x p t = false:=fun e=>by
    rw [hcl,hcb7 (k + 1) (by rw [hnx,e]; rfl) _ hlt]; rfl
   have hok:kpb7 x p t (sc7 p k) (yk7 t k) ob = oe7 x p t (sc7 p k).sat (yk7 t k).out (ob && (decide (0 ≤ (yk7 t k).out) && decide ((yk7 t k).out ≤ x.fin))) p.trucks.length:=rfl
   have hoo:kpb7 x p t (sc7 p k) (yk7 t k) ob = true → 0 ≤ (yk7 t k).out ∧ (yk7 t k).out ≤ x.fin:=fun e=>by
    rw [hok,kj7] at e
    simp only [Bool.and_eq_true,decide_eq_true_eq] at e
    exact e.1.2
   generalize hrd:yk7 t k = rd at *
   generalize hbk:sc7 p k = bk at *
   generalize hwo:(ob && (decide (0 ≤ rd.out) && decide (rd.out ≤ x.fin))) = o1 at hok
   refine ⟨by omega,by omega, ?_⟩
   refine wd7 (ι:=Nat) [3,4,5,16,17,110,111,112,136,137] [7,138] (fun m=>m ≤ p.trucks.length) (fun m=>[.c (.bool (oe7 x p t bk.sat rd.out o1 m)), .c (I6 m)]) (fun _=>_) (fun m=>p.trucks.length - m) (by kernel_rfl) ⟨0,Nat.zero_le _,by simp -implicitDefEqProofs only [go_sem, ↓reduceIte,reduceCtorEq,Nat.reduceAdd,Nat.reduceLT,Nat.reduceEqDiff,Nat.reduceMul,Nat.reduceLeDiff,Nat.reduceSub,oe7, ← hwo,Bool.and_assoc]; rfl,rfl⟩ (fun k _=>⟨rfl,rfl,rfl,rfl⟩) ?_
   intro m hm
   have hwx:oe7 x p t bk.sat rd.out o1 (m + 1) = xh7 x bk.sat rd.out (tc7 p m) (yo7 t m) (oe7 x p t bk.sat rd.out o1 m) (tc7 p m).length:=rfl
   simp -implicitDefEqProofs only [go_sem, ↓reduceIte,reduceCtorEq,Nat.reduceAdd,Nat.reduceLT,Nat.reduceEqDiff,Nat.reduceMul,Nat.reduceLeDiff,Nat.reduceSub]
   refine ⟨fun h => ?_,fun h => ?_⟩
   ·have hml:m < p.trucks.length:=by omega
    obtain ⟨hl1,hl2⟩:=hst m hml
    have hl3:=hTl m hml
    generalize oe7 x p t bk.sat rd.out o1 m = o4 at *
    refine ⟨by omega, ?_⟩
    refine wd7 (ι:=Nat) [3,4,5,16,17,18,110,111,112,136,137,138,144,145] [7,146] (fun j=>j ≤ (tc7 p m).length) (fun j=>[.c (.bool (xh7 x bk.sat rd.out (tc7 p m) (yo7 t m) o4 j)), .c (I6 j)]) (fun _=>_) (fun j=>(tc7 p m).length - j) (by kernel_rfl) ⟨0,Nat.zero_le _,rfl,rfl⟩ (fun k _=>⟨rfl,rfl,rfl,rfl⟩) ?_
    intro j hj
    have hwj:xh7 x bk.sat rd.out (tc7 p m) (yo7 t m) o4 (j + 1) = (xh7 x bk.sat rd.out (tc7 p m) (yo7 t m) o4 j && gt7 x bk.sat rd.out (stN (tc7 p m) j) ((yo7 t m).getD j 0)):=rfl
    simp -implicitDefEqProofs only [go_sem, ↓reduceIte,reduceCtorEq,Nat.reduceAdd,Nat.reduceLT,Nat.reduceEqDiff,Nat.reduceMul,Nat.reduceLeDiff,Nat.reduceSub]
    refine ⟨fun h => ?_,fun h => ?_⟩
    ·have hjl:j < (tc7 p m).length:=by omega
     have hbd:=hcn m hml j hjl
     have hbd:0 ≤ (yo7 t m).getD j 0 ∧ (yo7 t m).getD j 0 ≤ x.fin:=hbd
     have hho:=go7 gd bk.sat
     exact ⟨by omega,fun _ _=>by omega,fun _ _=>by omega,fun _ _=>hb2,fun _ _=>by omega,by omega,j + 1,by omega,by simp [hwj,gt7],by omega⟩
    ·obtain rfl:j = (tc7 p m).length:=by omega
     exact ⟨by omega,m + 1,by omega,by simp [hwx],by omega⟩
   ·obtain rfl:m = p.trucks.length:=by omega
    rw [← hok]
    refine ⟨by omega, ?_⟩
    generalize ho2:kpb7 x p t bk rd ob = o2 at hnx hno hoo
    refine wd7 (ι:=Nat × BkS) [3,4,5,16,17,110,111,112,188,189] [7,22,23,190] (fun s=>s.1 ≤ bk.stops.length ∧ mcb7 x bk rd o2 s.1 = some s.2 ∧ (0 < s.1 → o2 = true)) (fun s=>[.c (.bool o2), .c (I6 s.2.now), .c (I6 s.2.node), .c (I6 s.1)]) (fun _=>_) (fun s=>bk.stops.length - s.1) (by kernel_rfl) ⟨(0,⟨rd.out,1 + bk.sat⟩),⟨Nat.zero_le _,rfl,fun h=>absurd h (Nat.lt_irrefl _)⟩,rfl,rfl⟩ (fun k _=>⟨rfl,rfl,rfl,rfl⟩) ?_
    rintro ⟨j,st⟩ ⟨hj,hcu,ho⟩
    simp only [] at hj hcu ho
    simp -implicitDefEqProofs only [go_sem, ↓reduceIte,reduceCtorEq,Nat.reduceAdd,Nat.reduceLT,Nat.reduceEqDiff,Nat.reduceMul,Nat.reduceLeDiff,Nat.reduceSub]
    refine ⟨fun h => ?_,fun h => ?_⟩
    ·have hjl:j < bk.stops.length:=by omega
     have hco:bc7 x (bk.stops.getD j 0):=hb3 _ (ub7 hjl _)
     obtain ⟨hn1,hn2⟩:=bmb7 gd hb2 hb3 j (Nat.le_of_lt hjl) hcu
     have hnow:=fun g=>hn2 g hoo
     have hst0:=hwt.2 k
     rw [hrd] at hst0
     have hst1:=hst0.2.2 j
     have hcb':=wr7 gd hco
     have htm:=nb7 gd st.node (1 + x.sats.length + bk.stops.getD j 0)
     have hnd2:0 ≤ 1 + x.sats.length + bk.stops.getD j 0 ∧ 1 + x.sats.length + bk.stops.getD j 0 < (nodes x:Int):=by unfold bc7 at hco; omega
     unfold ua7 at hst1
     have hst:(o2 && mx7 x st (bk.stops.getD j 0) (rd.starts.getD j 0)) = (o2 && decide ((tb7 x (bk.stops.getD j 0)).opn ≤ rd.starts.getD j 0) && decide (rd.starts.getD j 0 ≤ (tb7 x (bk.stops.getD j 0)).cls) && decide (rd.starts.getD j 0 ≤ x.fin) && decide (va7 x st.node (1 + x.sats.length + bk.stops.getD j 0) ≤ rd.starts.getD j 0 - st.now)):=by
      simp [mx7,Bool.and_assoc]
     have hup:mcb7 x bk rd o2 (j + 1) = if (o2 && mx7 x st (bk.stops.getD j 0) (rd.starts.getD j 0)) = true then some (ugb7 x st (bk.stops.getD j 0) (rd.starts.getD j 0)) else none:=by
      show (mcb7 x bk rd o2 j).bind _ = _
      rw [hcu]; rfl
     refine ⟨by omega,by omega,hco,fun g1 g2 g3 g4=>by have:=hnow g1; omega,fun _ _ _ _=>hn1,fun g1 g2 g3 g4 => ?_,fun g => ?_⟩
     ·refine rc7 (mjb7 x hco gd) ⟨trivial,trivial,trivial⟩ rfl (fun r h=>by subst h; rfl) ?_
      rintro r rfl
      simp -implicitDefEqProofs only [go_sem, ↓reduceIte,reduceCtorEq,Nat.reduceAdd,Nat.reduceLT,Nat.reduceEqDiff,Nat.reduceMul,Nat.reduceLeDiff,Nat.reduceSub]
      rw [← hst]
      refine ⟨fun _ _ _ _=>hnd2,fun e => ?_,fun e => ?_⟩
      ·rw [if_neg (by rw [e]; simp)] at hup
       rw [hno (ubb7 (j + 1) hup _ hjl)]
      ·simp only [Bool.not_eq_false'] at e
       rw [if_pos e] at hup
       rw [Bool.and_eq_true] at e
       refine ⟨by omega, ?_⟩
       refine rc7 (mjb7 x hco gd) ⟨trivial,trivial,trivial⟩ rfl (fun r h=>by subst h; rfl) ?_
       rintro r rfl
       simp -implicitDefEqProofs only [go_sem, ↓reduceIte,reduceCtorEq,Nat.reduceAdd,Nat.reduceLT,Nat.reduceEqDiff,Nat.reduceMul,Nat.reduceLeDiff,Nat.reduceSub]
       exact ⟨by omega,(j + 1,ugb7 x st (bk.stops.getD j 0) (rd.starts.getD j 0)),⟨by omega,hup,fun _=>e.1⟩,by rw [e.1,e.2]; rfl,by omega⟩
     ·refine ⟨fun a b c d=>(by rw [a,decide_eq_true b,decide_eq_true c,decide_eq_true d] at g; cases g),fun a b c d=>(by rw [a,decide_eq_true b,decide_eq_true c,decide_eq_true d] at g; cases g),fun a b c d=>(by rw [a,decide_eq_true b,decide_eq_true c,decide_eq_true d] at g; cases g),g, ?_,fun e=>by cases e⟩
      rw [hst,g,Bool.false_and,if_neg (by simp)] at hup
      rw [hno (ubb7 (j + 1) hup _ hjl)]
    ·obtain rfl:j = bk.stops.length:=by omega
     obtain ⟨hn1,hn2⟩:=bmb7 gd hb2 hb3 _ hj hcu
     have hnow:=fun g=>hn2 g hoo
     have hst0:=hwt.2 k
     rw [hrd] at hst0
     have hst1:=hst0.2.1
     have htm:=nb7 gd st.node (1 + bk.sat)
     unfold ua7 at hst1
     refine ⟨fun g1 g2 g3=>by have:=hnow g1; omega,fun _ _ _=>hn1,fun _ _ _=>by omega,fun _ _ _=>by omega,by omega,(k + 1,phb7 x bk rd st o2),⟨by omega,by rw [hnx,hcu]; rfl⟩,by simp [phb7,Bool.and_assoc],by omega⟩
  ·obtain rfl:k = p.bikes.length:=by omega
   rw [hcl,hcb]; rfl
end Go.Proofs.Ytahffcepagopmaa.Ab
