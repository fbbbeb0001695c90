/- Texts of the proof, joined: PlanBd, ClockD, One, Awake17, ClockF. -/
import Derived.Test.YtahffcepagopmaaMake
import Derived.Test.YtahffcepagopmaaDraftW
set_option linter.all false
set_option maxRecDepth 100000
set_option maxHeartbeats 6400000
namespace Go.Proofs.Ytahffcepagopmaa
open Go.RowKit
theorem my7 (m k i:Nat):(m ||| 2 ^ k).testBit i = (m.testBit i || decide (k = i)):=by
 rw [Nat.testBit_or,Nat.testBit_two_pow]
theorem bv7 {x:ba7}:∀ (l:List da7) (m:Nat) (left:Int) (r:Nat × Int),l.foldl (cj7 x) (some (m,left)) = some r → (l.map fun s=>s.sat.toNat).Nodup ∧ ∀ s ∈ l,m.testBit s.sat.toNat = false
 | [],_,_,_,_=>⟨List.nodup_nil,fun s hs=>by cases hs⟩
 | a :: l,m,left,r,h=>by
  rw [List.foldl_cons] at h
  cases hb:td7 x m a
  ·rw [bq7 hb] at h
   obtain ⟨h1,h2⟩:=bv7 l _ _ r h
   have hm:m.testBit a.sat.toNat = false:=by
    simp only [td7,Bool.or_eq_false_iff] at hb; exact hb.1.1.2
   refine ⟨?_,fun s hs => ?_⟩
   ·rw [List.map_cons,List.nodup_cons]
    refine ⟨fun hin => ?_,h1⟩
    obtain ⟨s,hs,e⟩:=List.mem_map.1 hin
    have:=h2 s hs
    rw [my7,Bool.or_eq_false_iff] at this
    exact absurd e.symm (by simpa using this.2)
   ·rcases List.mem_cons.1 hs with rfl | hs
    ·exact hm
    ·have:=h2 s hs
     rw [my7,Bool.or_eq_false_iff] at this
     exact this.1
  ·rw [xm7 hb,gn7] at h; cases h
theorem gw7 {x:ba7}:∀ (l:List Int) (m:Nat) (left:Int) (r:Nat × Int),l.foldl (ti7 x) (some (m,left)) = some r → (l.map Int.toNat).Nodup ∧ (∀ s ∈ l,m.testBit s.toNat = false) ∧ (∀ i,r.1.testBit i = false → m.testBit i = false) ∧ ∀ s ∈ l,r.1.testBit s.toNat = true
 | [],m,left,r,h=>by
  cases h
  exact ⟨List.nodup_nil,(fun s hs=>by cases hs),fun _ h=>h,fun s hs=>by cases hs⟩
 | a :: l,m,left,r,h=>by
  rw [List.foldl_cons] at h
  cases hb:ie7 x m a
  ·rw [nq7 hb] at h
   obtain ⟨h1,h2,h3,h4⟩:=gw7 l _ _ r h
   have hm:m.testBit a.toNat = false:=by
    simp only [ie7,Bool.or_eq_false_iff] at hb; exact hb.2
   refine ⟨?_,fun s hs => ?_,fun i hi => ?_,fun s hs => ?_⟩
   ·rw [List.map_cons,List.nodup_cons]
    refine ⟨fun hin => ?_,h1⟩
    obtain ⟨s,hs,e⟩:=List.mem_map.1 hin
    have:=h2 s hs
    rw [my7,Bool.or_eq_false_iff] at this
    exact absurd e.symm (by simpa using this.2)
   ·rcases List.mem_cons.1 hs with rfl | hs
    ·exact hm
    ·have:=h2 s hs
     rw [my7,Bool.or_eq_false_iff] at this
     exact this.1
   ·have:=h3 i hi
    rw [my7,Bool.or_eq_false_iff] at this
    exact this.1
   ·rcases List.mem_cons.1 hs with rfl | hs
    ·cases hr:r.1.testBit s.toNat
     ·have:=h3 _ hr
      rw [my7,Bool.or_eq_false_iff] at this
      exact absurd this.2 (by simp)
     ·rfl
    ·exact h4 s hs
  ·rw [jn7 hb,hn7] at h; cases h
theorem ns7 {x:ba7}:∀ (l:List pa7) (m:Nat) (d:Bool),(ki7 x l m d).1 = true → ((l.flatMap pa7.stops).map Int.toNat).Nodup ∧ ∀ b ∈ l, ∀ c ∈ b.stops,m.testBit c.toNat = false
 | [],_,_,_=>⟨List.nodup_nil,fun b hb=>by cases hb⟩
 | a :: l,m,d,h=>by
  cases ha:vf7 x a
  case true=>rw [kn7 ha] at h; cases h
  cases hs:xp7 x m a.stops with
  | none=>rw [vk7 hs] at h; cases h
  | some q =>
   obtain ⟨m',left⟩:=q
   rw [vp7 ha hs] at h
   obtain ⟨h1,h2,h3,h4⟩:=gw7 _ _ _ _ hs
   obtain ⟨g1,g2⟩:=ns7 l _ _ h
   refine ⟨?_,fun b hb c hc => ?_⟩
   ·rw [List.flatMap_cons,List.map_append,List.nodup_append]
    refine ⟨h1,g1,fun i hi j hj e => ?_⟩
    obtain ⟨c,hc,rfl⟩:=List.mem_map.1 hi
    obtain ⟨c',hc',rfl⟩:=List.mem_map.1 hj
    obtain ⟨b,hb,hc'⟩:=List.mem_flatMap.1 hc'
    have e1:=h4 c hc
    have e2:=g2 b hb c' hc'
    rw [e] at e1
    simp only at e1 e2
    rw [e1] at e2; cases e2
   ·rcases List.mem_cons.1 hb with rfl | hb
    ·exact h2 c hc
    ·exact h3 _ (g2 b hb c hc)
theorem xu7 {x:ba7}:∀ (l:List (List da7)) (r d:Bool),(bf7 x l r d).1 = true → ∀ t ∈ l,(t.map fun s=>s.sat.toNat).Nodup
 | [],_,_,_,t,ht=>by cases ht
 | a :: l,r,d,h,t,ht=>by
  cases ha:vi7 x a with
  | none=>rw [il7 ha] at h; cases h
  | some q =>
   obtain ⟨m,left⟩:=q
   rw [sj7 ha] at h
   rcases List.mem_cons.1 ht with rfl | ht
   ·exact (bv7 _ _ _ _ ha).1
   ·exact xu7 l _ _ h t ht
theorem tib7 (l:List Nat) (n:Nat) (h:∀ v ∈ l,v ≤ n):l.sum ≤ l.length * n:=by
 induction l with
 | nil=>simp
 | cons a l ih =>
  have h1:=h a List.mem_cons_self
  have h2:=ih fun v hv=>h v (List.mem_cons_of_mem _ hv)
  rw [List.sum_cons,List.length_cons,Nat.add_mul,Nat.one_mul]; omega
theorem hjb7 (l:List Nat) (h:∀ v ∈ l,1 ≤ v):l.length ≤ l.sum:=by
 induction l with
 | nil=>simp
 | cons a l ih =>
  have h1:=h a List.mem_cons_self
  have h2:=ih fun v hv=>h v (List.mem_cons_of_mem _ hv)
  rw [List.sum_cons,List.length_cons]; omega
structure xt7 (x:ba7) (p:sa7):Prop where
 ok:ov7 x p
 tl:p.trucks.length ≤ 60
 t:ya7 p.trucks p.trucks.length ≤ 720
 t1:∀ t ∈ p.trucks,t.length ≤ 12
 b:p.bikes.length ≤ 6
 s:kb7 p.bikes p.bikes.length ≤ 6
theorem zp7 {x:ba7} {p:sa7} (h:ia7 x p = 0) (hn:x.custs.length ≤ 6):xt7 x p:=by
 have hok:=vh7 h
 have gd:=te7 hok.inst
 have h2:(ud7 x p.trucks).1 = true ∧ (ne7 x p.bikes).1 = true:=by
  unfold ia7 at h
  rw [if_neg (by simpa using hok.inst)] at h
  split at h
  ·cases h
  split at h
  ·cases h
  rename_i h2
  simpa using h2
 have ht1:∀ t ∈ p.trucks,t.length ≤ 12:=fun t ht=>by
  have h3:=xu7 _ _ _ h2.1 t ht
  have h4:=eg7 h3 (n:=x.sats.length) fun i hi=>by
   obtain ⟨s,hs,rfl⟩:=List.mem_map.1 hi
   have:=((hok.truck t ht).2 s hs).1; omega
  rw [List.length_map] at h4
  have:=gd.sats; omega
 have htl:p.trucks.length ≤ 60:=by have:=hok.many; have:=gd.tmany; omega
 have hs:kb7 p.bikes p.bikes.length ≤ 6:=by
  have h3:=(ns7 _ _ _ h2.2).1
  have h4:=eg7 h3 (n:=x.custs.length) fun i hi=>by
   obtain ⟨c,hc,rfl⟩:=List.mem_map.1 hi
   obtain ⟨b,hb,hc⟩:=List.mem_flatMap.1 hc
   have:=(hok.bike b hb).2.2 c hc; unfold bc7 at this; omega
  rw [List.length_map,List.length_flatMap] at h4
  unfold kb7
  rw [List.take_length]; omega
 refine ⟨hok,htl, ?_,ht1, ?_,hs⟩
 ·unfold ya7
  rw [List.take_length]
  have:=tib7 (p.trucks.map List.length) 12 fun v hv=>by
   obtain ⟨t,ht,rfl⟩:=List.mem_map.1 hv; exact ht1 t ht
  rw [List.length_map] at this; omega
 ·have:=hjb7 (p.bikes.map fun b=>b.stops.length) fun v hv=>by
   obtain ⟨b,hb,rfl⟩:=List.mem_map.1 hv; exact (hok.bike b hb).2.1
  unfold kb7 at hs
  rw [List.take_length] at hs
  rw [List.length_map] at this; omega
theorem xt7.fr {x:ba7} {p:sa7} (h:xt7 x p):(zf7 x p).fr.length = ya7 p.trucks p.trucks.length + kb7 p.bikes p.bikes.length + 2 * p.bikes.length ∧ (zf7 x p).arcs.length ≤ 20000:=by
 have gd:=te7 h.ok.inst
 have h1:=kp7 (fun t ht=>(h.ok.truck t ht).2) p.trucks.length (Nat.le_refl _)
 obtain ⟨m,hm,h2⟩:=vy7 gd h.ok.bike h1 p.bikes.length (Nat.le_refl _)
 rw [List.take_length,List.take_length] at h2
 have h3:reb7 x (zf7 x p) _ _:=h2
 refine ⟨h3.frL,Nat.le_trans h3.arL (Nat.le_trans hm ?_)⟩
 have hb:=h.b
 have ht:=h.t
 have hs:=h.s
 have h5:rhb7 (ya7 p.trucks p.trucks.length) p.bikes p.bikes.length ≤ 738:=by unfold rhb7; omega
 exact Nat.le_trans (Nat.mul_le_mul h5 (show p.bikes.length + 1 ≤ 7 by omega)) (by decide)
theorem xt7.graph {x:ba7} {p:sa7} (h:xt7 x p):zeb7 ⟨(zf7 x p).fr.length,(zf7 x p).arcs⟩:=by
 have hb:=h.b
 have ht:=h.t
 have hs:=h.s
 exact ⟨by show (zf7 x p).fr.length ≤ 1000; rw [h.fr.1]; omega,h.fr.2,(pp7 h.ok).arc⟩
theorem xt7.late {x:ba7} {p:sa7} (h:xt7 x p) {d:List Int} (hd:pl7 ⟨(zf7 x p).fr.length,(zf7 x p).arcs⟩ (zf7 x p).fr d):d = fj7 (za7 x p) :=
 pl7.unique (fun a ha=>⟨((pp7 h.ok).arc a ha).1,((pp7 h.ok).arc a ha).2.1⟩) hd (pp7 h.ok).late
def vw7:Shape zc7 where
 sz:=3
 rep:=fun w F x cs => ∃ v,cs = [.int .i64 x.out,v, .int .i64 x.back] ∧ ua7 x.out ∧ ua7 x.back ∧ (la7 ig7).rep w F x.starts [v]
 len:=by rintro w F x cs ⟨v,rfl,_⟩; rfl
 keep:=by rintro w w' F x cs ⟨v,rfl,h1,h1',h2⟩ ha; exact ⟨v,rfl,h1,h1',(la7 ig7).keep h2 ha⟩
 weak:=by rintro w F G x cs ⟨v,rfl,h1,h1',h2⟩ ha; exact ⟨v,rfl,h1,h1',(la7 ig7).weak h2 ha⟩
 lt:=by rintro w F x cs ⟨v,rfl,h1,h1',h2⟩; exact ⟨v,rfl,h1,h1',(la7 ig7).lt h2⟩
def gy7:Shape (List zc7):=la7 vw7
def lg7:Shape qb7 where
 sz:=2
 rep:=fun w F x cs => ∃ t b,cs = [t,b] ∧ kh7.rep w F x.trucks [t] ∧ gy7.rep w F x.bikes [b]
 len:=by rintro w F x cs ⟨t,b,rfl,_⟩; rfl
 keep:=by rintro w w' F x cs ⟨t,b,rfl,h1,h2⟩ ha; exact ⟨t,b,rfl,kh7.keep h1 ha,gy7.keep h2 ha⟩
 weak:=by rintro w F G x cs ⟨t,b,rfl,h1,h2⟩ ha; exact ⟨t,b,rfl,kh7.weak h1 ha,gy7.weak h2 ha⟩
 lt:=by rintro w F x cs ⟨t,b,rfl,h1,h2⟩; exact ⟨t,b,rfl,kh7.lt h1,gy7.lt h2⟩
theorem uj7 {w:World} {F:Nat → Prop} {xs:List zc7} {cs:List Value} (h:gy7.rep w F xs cs) :
  ∃ (a:Option Addr) (b off c:Nat),cs = [.slice a xs.length c] ∧ xs.length ≤ c ∧ c ≤ 9223372036854775807 ∧ (0 < xs.length → a = some ⟨b,off,none⟩) ∧ (0 < xs.length → F b) ∧
   ∀ k (h:k < xs.length), ∃ v,w.cell? ⟨b,off + k * 3,none⟩ = some (.int .i64 xs[k].out) ∧ w.cell? ⟨b,off + k * 3 + 1,none⟩ = some v ∧ w.cell? ⟨b,off + k * 3 + 2,none⟩ = some (.int .i64 xs[k].back) ∧ ua7 xs[k].out ∧ ua7 xs[k].back ∧ (la7 ig7).rep w F xs[k].starts [v]:=by
 obtain ⟨a,b,off,c,rfl,h1,h2,h3,h4⟩:=h
 refine ⟨a,b,off,c,rfl,h1,h2,fun h=>(h3 h).1,fun h=>(h3 h).2,fun k hk => ?_⟩
 obtain ⟨es,⟨v,rfl,hw,hw',hr⟩,hc⟩:=h4 k hk
 have e0:=hc 0 (by decide)
 have e1:=hc 1 (by decide)
 have e2:=hc 2 (by decide)
 exact ⟨v,by simpa [vw7] using e0,by simpa [vw7] using e1,by simpa [vw7] using e2,hw,hw',hr⟩
structure TkS where
 now:Int
 node:Int
 ready:List Int
def mp7 (a f t:Int):Bool:=decide (f ≤ a) && decide (a ≤ t)
def sx7 (x:ba7) (st:TkS) (s:da7) (v:Int):Option TkS :=
 if mp7 v (st.now + va7 x st.node (1 + s.sat)) x.fin = true then some ⟨v,1 + s.sat,st.ready.set s.sat.toNat (max (st.ready.getD s.sat.toNat 0) (v + od7 x s.sat))⟩ else none
def cf7 (x:ba7) (t:List da7) (l ready:List Int):Nat → Option TkS
 | 0=>some ⟨0,0,ready⟩
 | j + 1=>(cf7 x t l ready j).bind fun st=>sx7 x st (t.getD j ⟨0,0⟩) (l.getD j 0)
theorem us7 {x:ba7} {t:List da7} {l ready:List Int} {j:Nat} (h:cf7 x t l ready j = none):∀ m,cf7 x t l ready (j + m) = none
 | 0=>h
 | m + 1=>by rw [← Nat.add_assoc]; simp only [cf7,us7 h m,Option.bind_none]
def zj7 (x:ba7) (t:List da7) (l ready:List Int):Option (List Int) :=
 (cf7 x t l ready t.length).bind fun st=>if st.now + va7 x st.node 0 ≤ x.fin then some st.ready else none
def xd7 (x:ba7) (p:sa7) (t:qb7):Nat → Option (List Int)
 | 0=>some (List.replicate x.sats.length 0)
 | k + 1=>(xd7 x p t k).bind fun r=>zj7 x (p.trucks.getD k []) (t.trucks.getD k []) r
theorem lp7 {x:ba7} {p:sa7} {t:qb7} {j:Nat} (h:xd7 x p t j = none):∀ m,xd7 x p t (j + m) = none
 | 0=>h
 | m + 1=>by rw [← Nat.add_assoc]; simp only [xd7,lp7 h m,Option.bind_none]
structure BkS where
 now:Int
 node:Int
def gcb7 (x:ba7) (st:BkS) (c v:Int):Option BkS :=
 if mp7 v (max (tb7 x c).opn (st.now + va7 x st.node (1 + x.sats.length + c))) (min (tb7 x c).cls x.fin) = true then some ⟨v + (tb7 x c).stay,1 + x.sats.length + c⟩ else none
def uh7 (x:ba7) (b:pa7) (r:zc7):Nat → Option BkS
 | 0=>some ⟨r.out,1 + b.sat⟩
 | j + 1=>(uh7 x b r j).bind fun st=>gcb7 x st (b.stops.getD j 0) (r.starts.getD j 0)
theorem qv7 {x:ba7} {b:pa7} {r:zc7} {j:Nat} (h:uh7 x b r j = none):∀ m,uh7 x b r (j + m) = none
 | 0=>h
 | m + 1=>by rw [← Nat.add_assoc]; simp only [uh7,qv7 h m,Option.bind_none]
def bbb7 (x:ba7) (b:pa7) (r:zc7) (ready:List Int):Bool :=
 mp7 r.out (ready.getD b.sat.toNat 0) x.fin && match uh7 x b r b.stops.length with
  | none=>false
  | some st=>mp7 r.back (st.now + va7 x st.node (1 + b.sat)) x.fin
def cm7 (t:qb7) (k:Nat):zc7:=t.bikes.getD k ⟨0,[],0⟩
def nm7 (x:ba7) (p:sa7) (t:qb7) (ready:List Int) (k:Nat):Bool:=(List.range k).all fun i=>bbb7 x (p.bikes.getD i ⟨0,[]⟩) (cm7 t i) ready
def fq7 (p:sa7) (t:qb7) (k:Nat):Bool:=(List.range k).all fun i=>decide ((t.trucks.getD i []).length = (p.trucks.getD i []).length)
def on7 (p:sa7) (t:qb7) (k:Nat):Bool:=(List.range k).all fun i=>decide ((cm7 t i).starts.length = (p.bikes.getD i ⟨0,[]⟩).stops.length)
def qn7 (p:sa7) (t:qb7):Bool:=(decide (t.trucks.length = p.trucks.length) && decide (t.bikes.length = p.bikes.length)) && (fq7 p t p.trucks.length && on7 p t p.bikes.length)
def otb7 (x:ba7) (p:sa7) (t:qb7):Bool:=match xd7 x p t p.trucks.length with
 | none=>false
 | some r=>nm7 x p t r p.bikes.length
def na7 (x:ba7) (p:sa7) (t:qb7):Int :=
 if ia7 x p ≠ 0 then ia7 x p else if qn7 p t = false then 4 else if otb7 x p t = false then 12 else 0
theorem nt7 (f:Nat → Bool) (k:Nat):(List.range (k + 1)).all f = ((List.range k).all f && f k):=by
 rw [List.range_succ,List.all_append]; simp
def ak7:wb7:=⟨0,0,0,0,0,[],[],[],[],false,false⟩
theorem thb7 (w:World):bp7.rep w (fun _=>False) ak7 [.int .u8 0, .int .u8 0, .int .u8 0, .int .u8 0, .int .u8 0, .slice none 0 0, .slice none 0 0, .slice none 0 0, .slice none 0 0, .bool false, .bool false]:=by
 have h0:∀ {α:Type} (S:Shape α),kgb7 S w (fun _=>False) [] [.slice none 0 0]:=fun S=>⟨none,0,0,0,rfl,Nat.le_refl _,Nat.zero_le _,fun h=>absurd h (Nat.not_lt_zero _),fun i h=>absurd h (Nat.not_lt_zero _)⟩
 exact ⟨_,_,_,_,rfl,by unfold wf8 ak7; decide,h0 _,h0 _,h0 _,h0 _⟩
theorem pub7 (w:World):Calls Try.prog 20 #[] w fun e w' => ∃ ds,e = .returned (.agg ds.toArray) ∧ be7 84 69 65 2 w' w.heap.size (th7 ak7) ds ∧ Below w.heap.size w w':=by
 have hz:=thb7
 go_enter Try.func20,Try.ntmps20
 go_wp2_with (go_at_call 7; refine (ssb7 (hz _)).mono ?_; rintro e w1 ⟨ds,rfl,hi,hb⟩; obtain ⟨gs,cs1,gc,cc1,gco,cco,gti,cti,rfl⟩:=hi.lit; have R:=(Row.new (w:=w) (e:=39) (cs:=[.int .i64 0, .int .i64 0, .int .i64 0, .int .i64 0, .int .i64 0, .slice none 0 0, .slice none 0 0, .slice none 0 0, .slice none 0 0]) rfl).below hb; obtain ⟨r0,r1,r2,r3,r4,r5,r6,r7,r8⟩:=ih7 R; obtain ⟨f0,f1,f2,f3,f4,f5,f6,f7,f8⟩:=hub7 R)
 refine bodyPost_ret (v := .agg #[.int .i64 (th7 ak7).fin, .int .i64 (th7 ak7).tmany, .int .i64 (th7 ak7).troom, .int .i64 (th7 ak7).bmany, .int .i64 (th7 ak7).broom, .slice (some ⟨gs,0,none⟩) (th7 ak7).sats.length cs1, .slice (some ⟨gc,0,none⟩) (th7 ak7).custs.length cc1, .slice (some ⟨gco,0,none⟩) (th7 ak7).cost.length cco, .slice (some ⟨gti,0,none⟩) (th7 ak7).time.length cti]) (by simp [results,Try.results20,go_sem,r0,r1,r2,r3,r4,r5,r6,r7,r8]) rfl ⟨_,rfl, ?_, ?_⟩
 ·refine be7.keepOn (w:=w1) (TX:=39) ?_ (fun b e cs hR he => ?_) (by decide) (by decide) (by decide) (by decide)
  ·exact hi.mono (by simp)
  ·have n1:b ≠ w.heap.size:=hR.ne R he
   iterate 9 (rw [Below.heap_setCell _ _ _ _ (by exact n1)])
 ·iterate 9 (refine Below.setCell ?_ (by exact Nat.le_refl _) _)
  exact ((Below.refl _ _).alloc (Nat.le_refl _) _).trans (hb.mono (by simp))
def qa7:ba7:=⟨40,1,5,1,3,[⟨60,2⟩],[⟨2,5,90,1⟩],[[0,0,0],[0,0,0],[0,0,0]],[[0,0,0],[0,0,0],[0,0,0]]⟩
theorem uy7:th7 ak7 = qa7:=by decide
def ys7:ba7:=(qa7.putCost 0 1 5).putCost 1 2 7
def xe7:sa7:=⟨[[⟨0,2⟩]],[⟨0,[0]⟩]⟩
theorem sec7:xq7 ys7:=by
 unfold xq7 ua7 ys7 qa7 ba7.putCost setAt maxLen; simp
theorem xmb7:ia7 ys7 xe7 = 0:=by decide +kernel
theorem szb7:hh7 ys7 xe7 = 12:=by decide +kernel
theorem tqb7:ia7 ys7 ⟨[],[]⟩ = 8:=by decide +kernel
theorem vu7:ys7.custs.length ≤ 6:=by decide
theorem tlb7 (w:World):vd7.rep w (fun _=>True) ⟨[],[]⟩ [.slice none 0 0, .slice none 0 0] :=
 ⟨_,_,rfl,⟨none,0,0,0,rfl,Nat.le_refl _,Nat.zero_le _,fun h=>absurd h (Nat.not_lt_zero _),fun i h=>absurd h (Nat.not_lt_zero _)⟩,⟨none,0,0,0,rfl,Nat.le_refl _,Nat.zero_le _,fun h=>absurd h (Nat.not_lt_zero _),fun i h=>absurd h (Nat.not_lt_zero _)⟩⟩
theorem bo7 {w:World} {h1 h2 h3 h4:Nat} {s l b c:Int} {T1 T2 T3 T4:TypeId} (r1:Row w h1 T1 [.int .i64 s, .int .i64 l]) (r2:Row w h2 T2 [.slice (some ⟨h1,0,none⟩) 1 1]) (r3:Row w h3 T3 [.int .i64 c]) (r4:Row w h4 T4 [.int .i64 b, .slice (some ⟨h3,0,none⟩) 1 1])
  (w1:ua7 s) (w2:ua7 l) (w3:ua7 b) (w4:ua7 c):vd7.rep w (fun _=>True) ⟨[[⟨s,l⟩]],[⟨b,[c]⟩]⟩ [.slice (some ⟨h2,0,none⟩) 1 1, .slice (some ⟨h4,0,none⟩) 1 1]:=by
 have e1:(la7 ci7).rep w (fun _=>True) [⟨s,l⟩] [.slice (some ⟨h1,0,none⟩) 1 1]:=zyb7 (S:=ci7) ⟨rfl,w1,w2⟩ r1 trivial
 have e2:vo7.rep w (fun _=>True) [[⟨s,l⟩]] [.slice (some ⟨h2,0,none⟩) 1 1]:=zyb7 (S:=la7 ci7) e1 r2 trivial
 have e3:(la7 ig7).rep w (fun _=>True) [c] [.slice (some ⟨h3,0,none⟩) 1 1]:=zyb7 (S:=ig7) ⟨rfl,w4⟩ r3 trivial
 have e4:xn7.rep w (fun _=>True) [⟨b,[c]⟩] [.slice (some ⟨h4,0,none⟩) 1 1]:=zyb7 (S:=tp7) ⟨_,rfl,w3,e3⟩ r4 trivial
 exact ⟨_,_,rfl,e2,e4⟩
theorem sob7 (w:World):Calls Try.prog 38 #[] w fun e w'=>e = .returned (.bool true) ∧ Below w.heap.size w w':=by
 go_enter Try.func38,Try.ntmps38
 go_wp2_with fail
 refine (pub7 _).mono ?_
 rintro e w1 ⟨ds,rfl,hi,hb⟩
 rw [uy7] at hi
 obtain ⟨gs,cs1,gc,cc1,gco,cco,rco,gti,cti,rti,I⟩:=hi.at
 obtain rfl:=I.lit
 clear hi
 have R0:=Row.new (w:=w1) (e:=39) (cs:=[.int .i64 qa7.fin, .int .i64 qa7.tmany, .int .i64 qa7.troom, .int .i64 qa7.bmany, .int .i64 qa7.broom, .slice (some ⟨gs,0,none⟩) qa7.sats.length cs1, .slice (some ⟨gc,0,none⟩) qa7.custs.length cc1, .slice (some ⟨gco,0,none⟩) qa7.cost.length cco, .slice (some ⟨gti,0,none⟩) qa7.time.length cti]) rfl
 have hob:Old w1 (w1.alloc (.cells ([.int .i64 qa7.fin, .int .i64 qa7.tmany, .int .i64 qa7.troom, .int .i64 qa7.bmany, .int .i64 qa7.broom, .slice (some ⟨gs,0,none⟩) qa7.sats.length cs1, .slice (some ⟨gc,0,none⟩) qa7.custs.length cc1, .slice (some ⟨gco,0,none⟩) qa7.cost.length cco, .slice (some ⟨gti,0,none⟩) qa7.time.length cti]).toArray 39)):=(Below.refl _ _).alloc (Nat.le_refl _) _
 have I0:=I.below hob
 have hB0:=ca7 hb hob
 have hzb:=hb.size
 clear hob I hb
 go_upto_region 2 with fail
 generalize hwq:w1.alloc (.cells _ 39) = wq at *
 clear hwq
 go_cut [] (fun wx=>we7 84 69 65 2 wx w.heap.size ys7 ([.int .i64 qa7.fin, .int .i64 qa7.tmany, .int .i64 qa7.troom, .int .i64 qa7.bmany, .int .i64 qa7.broom, .slice (some ⟨gs,0,none⟩) qa7.sats.length cs1, .slice (some ⟨gc,0,none⟩) qa7.custs.length cc1, .slice (some ⟨gco,0,none⟩) qa7.cost.length cco, .slice (some ⟨gti,0,none⟩) qa7.time.length cti]) gs cs1 gc cc1 gco cco rco gti cti rti ∧ Row wx w1.heap.size 39 ([.int .i64 qa7.fin, .int .i64 qa7.tmany, .int .i64 qa7.troom, .int .i64 qa7.bmany, .int .i64 qa7.broom, .slice (some ⟨gs,0,none⟩) qa7.sats.length cs1, .slice (some ⟨gc,0,none⟩) qa7.custs.length cc1, .slice (some ⟨gco,0,none⟩) qa7.cost.length cco, .slice (some ⟨gti,0,none⟩) qa7.time.length cti]) ∧ Below w.heap.size w wx)
 case first =>
  obtain ⟨c0,r0,l0,m0⟩:=I0.costs.row (i:=0) (by decide)
  obtain ⟨c1,r1,l1,m1⟩:=I0.costs.row (i:=1) (by decide)
  have hne:=I0.costs.apart (i:=0) (i':=1) (by decide) (by decide) (by decide)
  have I2:=(I0.setCost (i:=0) (j:=1) (by decide) (by decide) (by decide) (by decide) (by decide) 5)
  have I3:=(I2.setCost (i:=1) (j:=2) (by decide) (by decide) (by decide) (by decide) (by decide) 7)
  have hr0:=R0.ne r0 (by decide)
  have hr1:=R0.ne r1 (by decide)
  generalize hx0:rco.getD 0 0 = x0 at *
  generalize hx1:rco.getD 1 0 = x1 at *
  clear hx0 hx1 m0 m1
  have R3:=hid ((R0.setOther (a:=⟨x0,1,none⟩) hr0 (wa7 5)).setOther (a:=⟨x1,2,none⟩) hr1 (wa7 7))
  have hB3:=hid ((hB0.setCell (p:=⟨x0,1,none⟩) l0 (wa7 5)).setCell (p:=⟨x1,2,none⟩) l1 (wa7 7))
  have HI3:=hid I3
  have d0:=r0.cell (j:=1) (by decide)
  have d1:=r1.cell (j:=2) (by decide)
  have f0:=r0.frozen 1
  have f1:=r1.frozen 2
  have hx0:∀ w,(Instr.indexAt 37 (.slice (some ⟨gco,0,none⟩) qa7.cost.length cco) (.int .i64 0)).run Try.prog w = .ok (.pointer (some ⟨gco,0,none⟩)) w:=ga7 Try.underlying37 fh7 rfl (k:=0) (by decide)
  have hx1:∀ w,(Instr.indexAt 37 (.slice (some ⟨gco,0,none⟩) qa7.cost.length cco) (.int .i64 1)).run Try.prog w = .ok (.pointer (some ⟨gco,1,none⟩)) w:=ga7 Try.underlying37 fh7 rfl (k:=1) (by decide)
  have hx2:∀ w,(Instr.indexAt 65 (.slice (some ⟨x0,0,none⟩) (qa7.cost.getD 0 []).length (qa7.cost.getD 0 []).length) (.int .i64 1)).run Try.prog w = .ok (.pointer (some ⟨x0,1,none⟩)) w:=ga7 Try.underlying65 kc7 rfl (k:=1) (by decide)
  have hx3:∀ w,(Instr.indexAt 65 (.slice (some ⟨x1,0,none⟩) (qa7.cost.getD 1 []).length (qa7.cost.getD 1 []).length) (.int .i64 2)).run Try.prog w = .ok (.pointer (some ⟨x1,2,none⟩)) w:=ga7 Try.underlying65 kc7 rfl (k:=2) (by decide)
  clear I0 I2 I3 hr0 hr1 r0 r1 hB0
  obtain ⟨q0,q1,q2,q3,q4,q5,q6,q7,q8⟩:=ih7 R0
  have z7:∀ e:At (Old wq),_:=fun e=>e.cell q7
  have z9:∀ e:At (Old wq),_:=fun e=>e.cell c0
  have z10:∀ e:At (Old wq),_:=fun e=>e.cell c1
  refine ja7 (Old wq) [9,10,11] [([0,1,2,3,4,5,6,7],8,false),([],9,true),([],10,true),([],11,true)] (by kernel_rfl) (by kernel_rfl) (fun _ _ d _ _ h=>by cases d <;> exact h) (Old.drew _) ?_
  simp only [nc7,List.map_cons,List.map_nil,Array.getD_eq_getD_getElem?,List.getElem?_toArray,List.getElem?_cons_succ,List.getElem?_cons_zero,Option.getD_some,me7]
  repeat (go_big_quiet_step (fail))
  refine wpQuiet_nil ?_
  go_wp2
  refine ⟨Old.drew _,wpQuiet_nil ?_⟩
  go_wp2
  refine wpQuiet_nil ?_
  go_wp2
  refine wpQuiet_nil ?_
  go_wp2
  go_meet
  exact ⟨HI3.out.drew,R3.out.drew,hB3.out.drew⟩
 case rest =>
  obtain ⟨I,R,hB⟩:=hcut
  obtain ⟨wq,rfl⟩:∃ wq:World,wq = wc:=⟨_,rfl⟩
  obtain ⟨W,hW,hold,r1,r2,r3,r4,r5,hz⟩:=ilb7 wq [.int .i64 0, .int .i64 2] [.slice (some ⟨wq.heap.size,0,none⟩) 1 1] [.int .i64 0] [.int .i64 0, .slice (some ⟨wq.heap.size + 2,0,none⟩) 1 1] [.slice (some ⟨wq.heap.size + 1,0,none⟩) 1 1, .slice (some ⟨wq.heap.size + 3,0,none⟩) 1 1] 64 62 3 59 44
  have HW:=hid hW
  have R1:=R.below hold
  have hB1:=ca7 hB hold
  have hI:cb7.rep W (fun b=>w.heap.size ≤ b) ys7 _:=(I.below hold).own.rep sec7
  have hP:=bo7 (s:=0) (l:=2) (b:=0) (c:=0) r1 r2 r3 r4 (by unfold ua7; decide) (by unfold ua7; decide) (by unfold ua7; decide) (by unfold ua7; decide)
  have HI:=hid hI
  have HP:=hid hP
  obtain ⟨q0,q1,q2,q3,q4,q5,q6,q7,q8⟩:=ih7 R
  have hzq:=R.lt
  have hzq1:w1.heap.size < wq.heap.size + 1:=by omega
  have hzq2:w1.heap.size < wq.heap.size + 1 + 1:=by omega
  have hzq3:w1.heap.size < wq.heap.size + 1 + 1 + 1:=by omega
  have hzq4:w1.heap.size < wq.heap.size + 1 + 1 + 1 + 1:=by omega
  clear hW hold I R hB hI hP r1 r2 r3 r4
  go_wp2_with fail
  rw [show wq.heap.size + 1 + 1 + 1 = wq.heap.size + 3 from rfl,show wq.heap.size + 1 + 1 = wq.heap.size + 2 from rfl, ← HW.out]
  refine (hkb7 HI.out HP.out (fun _=>vu7) (by unfold yb7; decide)).mono ?_
  rintro e w2 ⟨rfl,hb2⟩
  rw [show (⟨[[⟨0,2⟩]],[⟨0,[0]⟩]⟩:sa7) = xe7 from rfl,szb7,xmb7]
  have R2:=R1.below hb2
  have P2:=r5.below hb2
  have hB2:=ca7 hB1 hb2
  have HI2:=hid (cb7.below HI.out hb2)
  have HP2:=hid (vd7.below HP.out hb2)
  clear q0 q1 q2 q3 q4 q5 q6 q7 q8 HI HP R1 r5 hB1 hb2 HW
  obtain ⟨q0,q1,q2,q3,q4,q5,q6,q7,q8⟩:=ih7 R2
  obtain ⟨p0,p1⟩:=mc7 P2
  go_wp2_with fail
  refine (mh7 HI2.out HP2.out (fun _=>vu7) (by unfold yb7; decide)).mono ?_
  rintro e w3 ⟨rfl,hb3⟩
  rw [show (⟨[[⟨0,2⟩]],[⟨0,[0]⟩]⟩:sa7) = xe7 from rfl,xmb7]
  have R3:=R2.below hb3
  have hB3:=ca7 hB2 hb3
  have HI3:=hid (cb7.below HI2.out hb3)
  clear q0 q1 q2 q3 q4 q5 q6 q7 q8 p0 p1 HI2 HP2 R2 P2 hB2 hb3
  obtain ⟨q0,q1,q2,q3,q4,q5,q6,q7,q8⟩:=ih7 R3
  go_wp2_with fail
  refine (mh7 HI3.out (tlb7 _) (fun _=>vu7) (by unfold yb7; decide)).mono ?_
  rintro e w4 ⟨rfl,hb4⟩
  rw [tqb7]
  go_wp2
  go_ret
  exact ⟨rfl,ca7 hB3 hb4⟩
theorem mq7 {w:World} (a f t:Int) :
  Calls Try.prog 60 #[.int .i64 a, .int .i64 f, .int .i64 t] w fun e w'=>e = .returned (.bool (mp7 a f t)) ∧ Below w.heap.size w w':=by
 go_enter Try.func60,Try.ntmps60
 by_cases h1:f ≤ a
 ·have h1':a ≥ f:=h1
  go_wp2
  go_ret
  refine ⟨?_,Below.refl _ _⟩
  simp [mp7,h1]
 ·have h1' : ¬ (a ≥ f):=h1
  go_wp2
  go_ret
  refine ⟨?_,Below.refl _ _⟩
  unfold mp7
  rw [decide_eq_false (by omega)]; rfl
theorem dfb7:∀ w,(sizeOf 67).run Try.prog w = .ok 3 w:=fun w=>by kernel_rfl
structure FSt (w0:World) (e1 e2:TypeId) (ps ts:List Value) (w:World):Prop where
 bel:Below w0.heap.size w0 w
 one:Row w w0.heap.size e1 ps
 two:Row w (w0.heap.size + 1) e2 ts
theorem FSt.below {w0 w w':World} {e1 e2:TypeId} {ps ts:List Value} (h:FSt w0 e1 e2 ps ts w) (hb:Below w.heap.size w w'):FSt w0 e1 e2 ps ts w':=⟨ca7 h.bel hb,h.one.below hb,h.two.below hb⟩
theorem FSt.start (w0:World) (e1 e2:TypeId) (ps ts:List Value):FSt w0 e1 e2 ps ts ((w0.alloc (.cells ps.toArray e1)).alloc (.cells ts.toArray e2)):=by
 have h1:=(Row.new (w:=w0) (g:=w0.heap.size) (e:=e1) (cs:=ps) rfl).alloc (.cells ts.toArray e2)
 have h2:=Row.new (w:=w0.alloc (.cells ps.toArray e1)) (e:=e2) (cs:=ts) rfl
 rw [show (w0.alloc (.cells ps.toArray e1)).heap.size = w0.heap.size + 1 by simp] at h2
 exact ⟨((Below.refl _ _).alloc (Nat.le_refl _) _).alloc (by simp) _,h1,h2⟩
theorem FSt.alloc {w0 w:World} {e1 e2:TypeId} {ps ts:List Value} (h:FSt w0 e1 e2 ps ts w) (b:Obj):FSt w0 e1 e2 ps ts (w.alloc b):=h.below ((Below.refl _ _).alloc (Nat.le_refl _) b)
theorem FSt.drewN {w0 w:World} {e1 e2:TypeId} {ps ts:List Value} (h:FSt w0 e1 e2 ps ts w) (n:Nat):FSt w0 e1 e2 ps ts (w.drewN n):=h.below (below_drewN (Below.refl _ _) n)
theorem nzb7 {w:World} {F G:Nat → Prop} {p:sa7} {t:qb7} {ps ts:List Value} (hp:vd7.rep w F p ps) (ht:lg7.rep w G t ts) (hl1:t.trucks.length = p.trucks.length) (hl2:t.bikes.length = p.bikes.length) (hT:p.trucks.length ≤ 60) (hB:p.bikes.length ≤ 60)
  (hT1:∀ t ∈ p.trucks,t.length ≤ 60) (hB1:∀ b ∈ p.bikes,b.stops.length ≤ 60) :
  Calls Try.prog 42 #[.agg ps.toArray, .agg ts.toArray] w fun e w'=>e = .returned (.bool (fq7 p t p.trucks.length && on7 p t p.bikes.length)) ∧ Below w.heap.size w w':=by
 obtain ⟨tv,bv,rfl,h3,h4⟩:=hp
 obtain ⟨a2,b2,off2,c2,hs2,hlc2,hc2,ha2, -,hcell2⟩:=qc7 h3
 obtain rfl:=List.cons.inj hs2 |>.1
 obtain ⟨a4,b4,off4,c4,hs4,hlc4,hc4,ha4, -,hcell4⟩:=kd7 h4
 obtain rfl:=List.cons.inj hs4 |>.1
 obtain ⟨tv,bv,rfl,h5,h6⟩:=ht
 obtain ⟨a5,b5,off5,c5,hs5,hlc5,hc5,ha5, -,hcell5⟩:=qd7 h5
 obtain rfl:=List.cons.inj hs5 |>.1
 obtain ⟨a6,b6,off6,c6,hs6,hlc6,hc6,ha6, -,hcell6⟩:=uj7 h6
 obtain rfl:=List.cons.inj hs6 |>.1
 clear hs2 hs4 hs5 hs6 h3 h4 h5 h6
 rw [hl1] at hlc5 ha5
 rw [hl2] at hlc6 ha6
 have HCELL2:=hid hcell2
 have HCELL4:=hid hcell4
 have HCELL5:=hid hcell5
 have HCELL6:=hid hcell6
 have HL1:=hid hl1
 have HL2:=hid hl2
 have HT1:=hid hT1
 have HB1:=hid hB1
 rw [hl1,hl2]
 have hs0:=FSt.start w 44 50 [.slice a2 p.trucks.length c2, .slice a4 p.bikes.length c4] [.slice a5 p.trucks.length c5, .slice a6 p.bikes.length c6]
 obtain ⟨p0,p1⟩:=mc7 hs0.one
 obtain ⟨t0,t1⟩:=mc7 hs0.two
 clear hcell2 hcell4 hcell5 hcell6 hl1 hl2 hT1 hB1
 go_enter Try.func42,Try.ntmps42
 go_upto_region 1 with fail
 generalize (w.alloc (.cells #[.slice a2 p.trucks.length c2, .slice a4 p.bikes.length c4] 44)).alloc (.cells #[.slice a5 p.trucks.length c5, .slice a6 p.bikes.length c6] 50) = wz at hs0 p0 p1 t0 t1 ⊢
 have HS0:=hid hs0
 clear hs0
 go_wp2
 go_loopw [5,29] (fun ov kv wr => ∃ k:Nat,k ≤ p.trucks.length ∧ kv = .int .i64 k ∧ ov = .bool (fq7 p t k) ∧ FSt w 44 50 [.slice a2 p.trucks.length c2, .slice a4 p.bikes.length c4] [.slice a5 p.trucks.length c5, .slice a6 p.bikes.length c6] wr) (fun _ kv _=>p.trucks.length - (intOf kv).toNat)
 case atStart=>exact ⟨0,Nat.zero_le _,rfl,rfl,HS0.out⟩
 case round =>
  clear p0 p1 t0 t1 HS0
  obtain ⟨k,hk,rfl,rfl,hst⟩:=hrel
  obtain ⟨wo,rfl⟩:∃ wo:World,wo = wr:=⟨_,rfl⟩
  have HST:=hid hst
  obtain ⟨p0,p1⟩:=mc7 hst.one
  obtain ⟨t0,t1⟩:=mc7 hst.two
  by_cases hlt:k < p.trucks.length
  ·have hx:=ga7 (c:=c2) Try.underlying41 tg7 (ha2 (by omega)) hlt
   have hx5:=ga7 (c:=c5) Try.underlying37 fh7 (ha5 (by omega)) hlt
   obtain ⟨sv,g0,hr⟩:=HCELL2.out k hlt
   obtain ⟨a3,b3,off3,c3,hs3,hl3,hc3, -, -, -, -⟩:=re7 hr
   obtain rfl:=List.cons.inj hs3 |>.1
   obtain ⟨sv,g1,hr⟩:=HCELL5.out k (by rw [HL1.out]; exact hlt)
   obtain ⟨a7,b7,off7,c7,hs7,hl7,hc7, -, -, -, -⟩:=bb7 hr
   obtain rfl:=List.cons.inj hs7 |>.1
   have g0:=aa7 hst.bel g0
   have g1:=aa7 hst.bel g1
   have htl:=HT1.out _ (List.getElem_mem hlt)
   have HF:=hid (show fq7 p t (k + 1) = (fq7 p t k && decide ((t.trucks[k]'(by rw [HL1.out]; exact hlt)).length = p.trucks[k].length)) from by
    unfold fq7
    rw [nt7,List.getD_eq_getElem?_getD,List.getD_eq_getElem?_getD,List.getElem?_eq_getElem hlt,List.getElem?_eq_getElem (by rw [HL1.out]; exact hlt)]
    rfl)
   obtain ⟨n1,hn1⟩:∃ n,n = (t.trucks[k]'(by rw [HL1.out]; exact hlt)).length:=⟨_,rfl⟩
   obtain ⟨n2,hn2⟩:∃ n,n = p.trucks[k].length:=⟨_,rfl⟩
   rw [← hn1, ← hn2] at HF
   rw [← hn1] at g1 hl7
   rw [← hn2] at g0 hl3 htl
   obtain ⟨ok,hok⟩:∃ b,b = fq7 p t k:=⟨_,rfl⟩
   rw [← hok] at HF ⊢
   have hal:Below wo.heap.size wo (wo.alloc (.cells #[.slice a3 n2 c3] 62)):=(Below.refl _ _).alloc (Nat.le_refl _) _
   have q0:=aa7 hal t0
   have q1:=aa7 hal g1
   have q2:=(Row.new (w:=wo) (g:=wo.heap.size) (e:=62) (cs:=[.slice a3 n2 c3]) rfl).cell (j:=0) (by simp)
   simp only [List.getElem_cons_zero] at q2
   have HS1:=hid (HST.out.below hal)
   obtain ⟨X,hX⟩:∃ X,X = wo.heap.size:=⟨_,rfl⟩
   rw [← hX] at q2
   clear hs3 hs7 hr hn1 hn2 hok hst hal
   go_upto_region 5 with fail
   rw [← hX]
   generalize wo.alloc (.cells #[.slice a3 n2 c3] 62) = wq at HS1 q0 q1 q2 ⊢
   clear hX p0 p1 t0 t1 g0 g1
   cases ok
   ·go_wp2
    go_quiet (fail)
    go_wp2
    go_roundw
    case rel=>exact ⟨k + 1,by omega,by go_num,by rw [HF.out]; rfl,HS1.out.drewN _⟩
    case measure=>simp [intOf]; omega
   ·go_wp2
    go_quiet (fail)
    go_wp2
    go_roundw
    case rel=>exact ⟨k + 1,by omega,by go_num,by rw [HF.out,Bool.true_and]; exact congrArg Value.bool (wv7 _ _),HS1.out.drewN _⟩
    case measure=>simp [intOf]; omega
  ·obtain rfl:k = p.trucks.length:=by omega
   obtain ⟨ot,hot⟩:∃ b,b = fq7 p t p.trucks.length:=⟨_,rfl⟩
   rw [← hot]
   go_wp2
   go_loopw [5,51] (fun ov kv wr => ∃ k:Nat,k ≤ p.bikes.length ∧ kv = .int .i64 k ∧ ov = .bool (ot && on7 p t k) ∧ FSt w 44 50 [.slice a2 p.trucks.length c2, .slice a4 p.bikes.length c4] [.slice a5 p.trucks.length c5, .slice a6 p.bikes.length c6] wr) (fun _ kv _=>p.bikes.length - (intOf kv).toNat)
   case atStart=>exact ⟨0,Nat.zero_le _,rfl,by simp [on7],HST.out⟩
   case round =>
    clear p0 p1 t0 t1 HST hst
    obtain ⟨k,hk,rfl,rfl,hst⟩:=hrel
    obtain ⟨wo,rfl⟩:∃ wo:World,wo = wr:=⟨_,rfl⟩
    have HST:=hid hst
    obtain ⟨p0,p1⟩:=mc7 hst.one
    obtain ⟨t0,t1⟩:=mc7 hst.two
    by_cases hlt:k < p.bikes.length
    ·have hx:=lb7 (c:=c4) Try.underlying42 ei7 (ha4 (by omega)) hlt
     have hx5:=lb7 (c:=c6) Try.underlying48 dfb7 (ha6 (by omega)) hlt
     obtain ⟨sv,g0,g00, -,hr⟩:=HCELL4.out k hlt
     obtain ⟨a3,b3,off3,c3,hs3,hl3,hc3, -, -, -, -⟩:=bb7 hr
     obtain rfl:=List.cons.inj hs3 |>.1
     obtain ⟨sv, -,g1, -, -, -,hr⟩:=HCELL6.out k (by rw [HL2.out]; exact hlt)
     obtain ⟨a7,b7,off7,c7,hs7,hl7,hc7, -, -, -, -⟩:=bb7 hr
     obtain rfl:=List.cons.inj hs7 |>.1
     have g0:=aa7 hst.bel g0
     have g00:=aa7 hst.bel g00
     have g1:=aa7 hst.bel g1
     have htl:=HB1.out _ (List.getElem_mem hlt)
     have HF:=hid (show on7 p t (k + 1) = (on7 p t k && decide ((t.bikes[k]'(by rw [HL2.out]; exact hlt)).starts.length = p.bikes[k].stops.length)) from by
      unfold on7 cm7
      rw [nt7,List.getD_eq_getElem?_getD,List.getD_eq_getElem?_getD,List.getElem?_eq_getElem hlt,List.getElem?_eq_getElem (by rw [HL2.out]; exact hlt)]
      rfl)
     obtain ⟨n1,hn1⟩:∃ n,n = (t.bikes[k]'(by rw [HL2.out]; exact hlt)).starts.length:=⟨_,rfl⟩
     obtain ⟨n2,hn2⟩:∃ n,n = p.bikes[k].stops.length:=⟨_,rfl⟩
     obtain ⟨sa,hsa⟩:∃ n,n = p.bikes[k].sat:=⟨_,rfl⟩
     rw [← hn1, ← hn2] at HF
     rw [← hn1] at g1 hl7
     rw [← hn2] at g00 hl3 htl
     rw [← hsa] at g0
     have HFN:=hid (show ∀ ok,ok = (ot && on7 p t k) → (ot && on7 p t (k + 1)) = (ok && decide (n1 = n2)) from fun ok h=>by rw [h,HF.out,Bool.and_assoc])
     obtain ⟨ok,hok⟩:∃ b,b = (ot && on7 p t k):=⟨_,rfl⟩
     rw [← hok]
     have HF2:=hid (HFN.out ok hok)
     have hal:Below wo.heap.size wo (wo.alloc (.cells #[.int .i64 sa, .slice a3 n2 c3] 59)):=(Below.refl _ _).alloc (Nat.le_refl _) _
     have q0:=aa7 hal t1
     have q1:=aa7 hal g1
     have q2:=(Row.new (w:=wo) (g:=wo.heap.size) (e:=59) (cs:=[.int .i64 sa, .slice a3 n2 c3]) rfl).cell (j:=1) (by simp)
     simp only [List.getElem_cons_succ,List.getElem_cons_zero] at q2
     have HS1:=hid (HST.out.below hal)
     obtain ⟨X,hX⟩:∃ X,X = wo.heap.size:=⟨_,rfl⟩
     rw [← hX] at q2
     clear hs3 hs7 hr hn1 hn2 hok hst hal hsa HF HFN
     go_upto_region 10 with fail
     rw [← hX]
     generalize wo.alloc (.cells #[.int .i64 sa, .slice a3 n2 c3] 59) = wq at HS1 q0 q1 q2 ⊢
     clear hX p0 p1 t0 t1 g0 g00 g1
     cases ok
     ·go_wp2
      go_quiet (fail)
      go_wp2
      go_roundw
      case rel=>exact ⟨k + 1,by omega,by go_num,by rw [HF2.out]; rfl,HS1.out.drewN _⟩
      case measure=>simp [intOf]; omega
     ·go_wp2
      go_quiet (fail)
      go_wp2
      go_roundw
      case rel=>exact ⟨k + 1,by omega,by go_num,by rw [HF2.out,Bool.true_and]; exact congrArg Value.bool (wv7 _ _),HS1.out.drewN _⟩
      case measure=>simp [intOf]; omega
    ·obtain rfl:k = p.bikes.length:=by omega
     go_wp2
     go_ret
     exact ⟨by rw [hot]; rfl,HST.out.bel⟩
end Go.Proofs.Ytahffcepagopmaa
