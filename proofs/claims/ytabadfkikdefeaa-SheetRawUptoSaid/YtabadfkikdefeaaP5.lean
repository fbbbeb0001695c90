/- Texts of the proof, joined: One, Awake17, ClockF. -/
import Derived.Test.YtabadfkikdefeaaMake
import Derived.Test.YtabadfkikdefeaaDraftW
set_option linter.all false
set_option maxRecDepth 100000
set_option maxHeartbeats 6400000
namespace Go.Proofs.Ytabadfkikdefeaa
open Go.RowKit
def ui7:xd7:=⟨0,0,0,0,0,[],[],[],[],false,false⟩
theorem jhb7 (w:World):crb7.rep w (fun _=>False) ui7 [.int .u8 0, .int .u8 0, .int .u8 0, .int .u8 0, .int .u8 0, .slice none 0 0, .slice none 0 0, .slice none 0 0, .slice none 0 0, .bool false, .bool false]:=by
 have h0:∀ {α:Type} (S:Shape α),teb7 S w (fun _=>False) [] [.slice none 0 0]:=fun S=>⟨none,0,0,0,rfl,Nat.le_refl _,Nat.zero_le _,fun h=>absurd h (Nat.not_lt_zero _),fun i h=>absurd h (Nat.not_lt_zero _)⟩
 exact ⟨_,_,_,_,rfl,by unfold wf8 ui7; decide,h0 _,h0 _,h0 _,h0 _⟩
theorem dtb7 (w:World):Calls Try.prog 33 #[] w fun e w' => ∃ ds,e = .returned (.agg ds.toArray) ∧ uc7 100 102 43 2 w' w.heap.size (nq7 ui7) ds ∧ Below w.heap.size w w':=by
 have hz:=jhb7
 go_enter Try.func33,Try.ntmps33
 go_wp2_with (go_at_call 11; refine (avb7 (hz _)).mono ?_; rintro e w1 ⟨ds,rfl,hi,hb⟩; obtain ⟨gs,cs1,gc,cc1,gco,cco,gti,cti,rfl⟩:=hi.lit; have R:=(Row.new (w:=w) (e:=49) (cs:=[.int .i64 0, .int .i64 0, .int .i64 0, .int .i64 0, .int .i64 0, .slice none 0 0, .slice none 0 0, .slice none 0 0, .slice none 0 0]) rfl).below hb; obtain ⟨r0,r1,r2,r3,r4,r5,r6,r7,r8⟩:=ig7 R; obtain ⟨f0,f1,f2,f3,f4,f5,f6,f7,f8⟩:=mub7 R)
 refine bodyPost_ret (v := .agg #[.int .i64 (nq7 ui7).fin, .int .i64 (nq7 ui7).tmany, .int .i64 (nq7 ui7).troom, .int .i64 (nq7 ui7).bmany, .int .i64 (nq7 ui7).broom, .slice (some ⟨gs,0,none⟩) (nq7 ui7).sats.length cs1, .slice (some ⟨gc,0,none⟩) (nq7 ui7).custs.length cc1, .slice (some ⟨gco,0,none⟩) (nq7 ui7).cost.length cco, .slice (some ⟨gti,0,none⟩) (nq7 ui7).time.length cti]) (by simp [results,Try.results33,go_sem,r0,r1,r2,r3,r4,r5,r6,r7,r8]) rfl ⟨_,rfl, ?_, ?_⟩
 ·refine uc7.keepOn (w:=w1) (TX:=49) ?_ (fun b e cs hR he => ?_) (by decide) (by decide) (by decide) (by decide)
  ·exact hi.mono (by simp)
  ·have n1:b ≠ w.heap.size:=hR.ne R he
   iterate 9 (rw [Below.heap_setCell _ _ _ _ (by exact n1)])
 ·iterate 9 (refine Below.setCell ?_ (by exact Nat.le_refl _) _)
  exact ((Below.refl _ _).alloc (Nat.le_refl _) _).trans (hb.mono (by simp))
def ma7:ba7:=⟨40,1,5,1,3,[⟨60,2⟩],[⟨2,5,90,1⟩],[[0,0,0],[0,0,0],[0,0,0]],[[0,0,0],[0,0,0],[0,0,0]]⟩
theorem px7:nq7 ui7 = ma7:=by decide
def mq7:ba7:=(ma7.putCost 0 1 5).putCost 1 2 7
def qd7:za7:=⟨[[⟨0,2⟩]],[⟨0,[0]⟩]⟩
theorem ycc7:ks7 mq7:=by
 unfold ks7 wa7 mq7 ma7 ba7.putCost setAt maxLen; simp
theorem cmb7:va7 mq7 qd7 = 0:=by decide +kernel
theorem twb7:gi7 mq7 qd7 = 12:=by decide +kernel
theorem aob7:va7 mq7 ⟨[],[]⟩ = 8:=by decide +kernel
theorem ht7:mq7.custs.length ≤ 6:=by decide
theorem ljb7 (w:World):id7.rep w (fun _=>True) ⟨[],[]⟩ [.slice none 0 0, .slice none 0 0] :=
 ⟨_,_,rfl,⟨none,0,0,0,rfl,Nat.le_refl _,Nat.zero_le _,fun h=>absurd h (Nat.not_lt_zero _),fun i h=>absurd h (Nat.not_lt_zero _)⟩,⟨none,0,0,0,rfl,Nat.le_refl _,Nat.zero_le _,fun h=>absurd h (Nat.not_lt_zero _),fun i h=>absurd h (Nat.not_lt_zero _)⟩⟩
theorem kn7 {w:World} {h1 h2 h3 h4:Nat} {s l b c:Int} {T1 T2 T3 T4:TypeId} (r1:Row w h1 T1 [.int .i64 s, .int .i64 l]) (r2:Row w h2 T2 [.slice (some ⟨h1,0,none⟩) 1 1]) (r3:Row w h3 T3 [.int .i64 c]) (r4:Row w h4 T4 [.int .i64 b, .slice (some ⟨h3,0,none⟩) 1 1])
  (w1:wa7 s) (w2:wa7 l) (w3:wa7 b) (w4:wa7 c):id7.rep w (fun _=>True) ⟨[[⟨s,l⟩]],[⟨b,[c]⟩]⟩ [.slice (some ⟨h2,0,none⟩) 1 1, .slice (some ⟨h4,0,none⟩) 1 1]:=by
 have e1:(ga7 ye7).rep w (fun _=>True) [⟨s,l⟩] [.slice (some ⟨h1,0,none⟩) 1 1]:=aqb7 (S:=ye7) ⟨rfl,w1,w2⟩ r1 trivial
 have e2:wk7.rep w (fun _=>True) [[⟨s,l⟩]] [.slice (some ⟨h2,0,none⟩) 1 1]:=aqb7 (S:=ga7 ye7) e1 r2 trivial
 have e3:(ga7 ge7).rep w (fun _=>True) [c] [.slice (some ⟨h3,0,none⟩) 1 1]:=aqb7 (S:=ge7) ⟨rfl,w4⟩ r3 trivial
 have e4:mm7.rep w (fun _=>True) [⟨b,[c]⟩] [.slice (some ⟨h4,0,none⟩) 1 1]:=aqb7 (S:=vm7) ⟨_,rfl,w3,e3⟩ r4 trivial
 exact ⟨_,_,rfl,e2,e4⟩
theorem olb7 (w:World):Calls Try.prog 36 #[] w fun e w'=>e = .returned (.bool true) ∧ Below w.heap.size w w':=by
 go_enter Try.func36,Try.ntmps36
 go_wp2_with fail
 refine (dtb7 _).mono ?_
 rintro e w1 ⟨ds,rfl,hi,hb⟩
 rw [px7] at hi
 obtain ⟨gs,cs1,gc,cc1,gco,cco,rco,gti,cti,rti,I⟩:=hi.at
 obtain rfl:=I.lit
 clear hi
 have R0:=Row.new (w:=w1) (e:=49) (cs:=[.int .i64 ma7.fin, .int .i64 ma7.tmany, .int .i64 ma7.troom, .int .i64 ma7.bmany, .int .i64 ma7.broom, .slice (some ⟨gs,0,none⟩) ma7.sats.length cs1, .slice (some ⟨gc,0,none⟩) ma7.custs.length cc1, .slice (some ⟨gco,0,none⟩) ma7.cost.length cco, .slice (some ⟨gti,0,none⟩) ma7.time.length cti]) rfl
 have hob:Old w1 (w1.alloc (.cells ([.int .i64 ma7.fin, .int .i64 ma7.tmany, .int .i64 ma7.troom, .int .i64 ma7.bmany, .int .i64 ma7.broom, .slice (some ⟨gs,0,none⟩) ma7.sats.length cs1, .slice (some ⟨gc,0,none⟩) ma7.custs.length cc1, .slice (some ⟨gco,0,none⟩) ma7.cost.length cco, .slice (some ⟨gti,0,none⟩) ma7.time.length cti]).toArray 49)):=(Below.refl _ _).alloc (Nat.le_refl _) _
 have I0:=I.below hob
 have hB0:=ca7 hb hob
 have hzb:=hb.size
 clear hob I hb
 go_upto_region 2 with fail
 generalize hwq:w1.alloc (.cells _ 49) = wq at *
 clear hwq
 go_cut [] (fun wx=>md7 100 102 43 2 wx w.heap.size mq7 ([.int .i64 ma7.fin, .int .i64 ma7.tmany, .int .i64 ma7.troom, .int .i64 ma7.bmany, .int .i64 ma7.broom, .slice (some ⟨gs,0,none⟩) ma7.sats.length cs1, .slice (some ⟨gc,0,none⟩) ma7.custs.length cc1, .slice (some ⟨gco,0,none⟩) ma7.cost.length cco, .slice (some ⟨gti,0,none⟩) ma7.time.length cti]) gs cs1 gc cc1 gco cco rco gti cti rti ∧ Row wx w1.heap.size 49 ([.int .i64 ma7.fin, .int .i64 ma7.tmany, .int .i64 ma7.troom, .int .i64 ma7.bmany, .int .i64 ma7.broom, .slice (some ⟨gs,0,none⟩) ma7.sats.length cs1, .slice (some ⟨gc,0,none⟩) ma7.custs.length cc1, .slice (some ⟨gco,0,none⟩) ma7.cost.length cco, .slice (some ⟨gti,0,none⟩) ma7.time.length cti]) ∧ Below w.heap.size w wx)
 case first =>
  obtain ⟨c0,r0,l0,m0⟩:=I0.costs.row (i:=0) (by decide)
  obtain ⟨c1,r1,l1,m1⟩:=I0.costs.row (i:=1) (by decide)
  have hne:=I0.costs.apart (i:=0) (i':=1) (by decide) (by decide) (by decide)
  have I2:=(I0.setCost (i:=0) (j:=1) (by decide) (by decide) (by decide) (by decide) (by decide) 5)
  have I3:=(I2.setCost (i:=1) (j:=2) (by decide) (by decide) (by decide) (by decide) (by decide) 7)
  have hr0:=R0.ne r0 (by decide)
  have hr1:=R0.ne r1 (by decide)
  generalize hx0:rco.getD 0 0 = x0 at *
  generalize hx1:rco.getD 1 0 = x1 at *
  clear hx0 hx1 m0 m1
  have R3:=hid ((R0.setOther (a:=⟨x0,1,none⟩) hr0 (gb7 5)).setOther (a:=⟨x1,2,none⟩) hr1 (gb7 7))
  have hB3:=hid ((hB0.setCell (p:=⟨x0,1,none⟩) l0 (gb7 5)).setCell (p:=⟨x1,2,none⟩) l1 (gb7 7))
  have HI3:=hid I3
  have d0:=r0.cell (j:=1) (by decide)
  have d1:=r1.cell (j:=2) (by decide)
  have f0:=r0.frozen 1
  have f1:=r1.frozen 2
  have hx0:∀ w,(Instr.indexAt 26 (.slice (some ⟨gco,0,none⟩) ma7.cost.length cco) (.int .i64 0)).run Try.prog w = .ok (.pointer (some ⟨gco,0,none⟩)) w:=la7 Try.underlying26 pf7 rfl (k:=0) (by decide)
  have hx1:∀ w,(Instr.indexAt 26 (.slice (some ⟨gco,0,none⟩) ma7.cost.length cco) (.int .i64 1)).run Try.prog w = .ok (.pointer (some ⟨gco,1,none⟩)) w:=la7 Try.underlying26 pf7 rfl (k:=1) (by decide)
  have hx2:∀ w,(Instr.indexAt 43 (.slice (some ⟨x0,0,none⟩) (ma7.cost.getD 0 []).length (ma7.cost.getD 0 []).length) (.int .i64 1)).run Try.prog w = .ok (.pointer (some ⟨x0,1,none⟩)) w:=la7 Try.underlying43 xb7 rfl (k:=1) (by decide)
  have hx3:∀ w,(Instr.indexAt 43 (.slice (some ⟨x1,0,none⟩) (ma7.cost.getD 1 []).length (ma7.cost.getD 1 []).length) (.int .i64 2)).run Try.prog w = .ok (.pointer (some ⟨x1,2,none⟩)) w:=la7 Try.underlying43 xb7 rfl (k:=2) (by decide)
  clear I0 I2 I3 hr0 hr1 r0 r1 hB0
  obtain ⟨q0,q1,q2,q3,q4,q5,q6,q7,q8⟩:=ig7 R0
  have z7:∀ e:At (Old wq),_:=fun e=>e.cell q7
  have z9:∀ e:At (Old wq),_:=fun e=>e.cell c0
  have z10:∀ e:At (Old wq),_:=fun e=>e.cell c1
  refine ka7 (Old wq) [9,10,11] [([0,1,2,3,4,5,6,7],8,false),([],9,true),([],10,true),([],11,true)] (by kernel_rfl) (by kernel_rfl) (fun _ _ d _ _ h=>by cases d <;> exact h) (Old.drew _) ?_
  simp only [pc7,List.map_cons,List.map_nil,Array.getD_eq_getD_getElem?,List.getElem?_toArray,List.getElem?_cons_succ,List.getElem?_cons_zero,Option.getD_some,rd7]
  repeat (go_big_quiet_step (fail))
  refine wpQuiet_nil ?_
  go_wp2
  refine ⟨Old.drew _,wpQuiet_nil ?_⟩
  go_wp2
  refine wpQuiet_nil ?_
  go_wp2
  refine wpQuiet_nil ?_
  go_wp2
  go_meet
  exact ⟨HI3.out.drew,R3.out.drew,hB3.out.drew⟩
 case rest =>
  obtain ⟨I,R,hB⟩:=hcut
  obtain ⟨wq,rfl⟩:∃ wq:World,wq = wc:=⟨_,rfl⟩
  obtain ⟨W,hW,hold,r1,r2,r3,r4,r5,hz⟩:=rcb7 wq [.int .i64 0, .int .i64 2] [.slice (some ⟨wq.heap.size,0,none⟩) 1 1] [.int .i64 0] [.int .i64 0, .slice (some ⟨wq.heap.size + 2,0,none⟩) 1 1] [.slice (some ⟨wq.heap.size + 1,0,none⟩) 1 1, .slice (some ⟨wq.heap.size + 3,0,none⟩) 1 1] 79 82 3 73 25
  have HW:=hid hW
  have R1:=R.below hold
  have hB1:=ca7 hB hold
  have hI:fb7.rep W (fun b=>w.heap.size ≤ b) mq7 _:=(I.below hold).own.rep ycc7
  have hP:=kn7 (s:=0) (l:=2) (b:=0) (c:=0) r1 r2 r3 r4 (by unfold wa7; decide) (by unfold wa7; decide) (by unfold wa7; decide) (by unfold wa7; decide)
  have HI:=hid hI
  have HP:=hid hP
  obtain ⟨q0,q1,q2,q3,q4,q5,q6,q7,q8⟩:=ig7 R
  have hzq:=R.lt
  have hzq1:w1.heap.size < wq.heap.size + 1:=by omega
  have hzq2:w1.heap.size < wq.heap.size + 1 + 1:=by omega
  have hzq3:w1.heap.size < wq.heap.size + 1 + 1 + 1:=by omega
  have hzq4:w1.heap.size < wq.heap.size + 1 + 1 + 1 + 1:=by omega
  clear hW hold I R hB hI hP r1 r2 r3 r4
  go_wp2_with fail
  rw [show wq.heap.size + 1 + 1 + 1 = wq.heap.size + 3 from rfl,show wq.heap.size + 1 + 1 = wq.heap.size + 2 from rfl, ← HW.out]
  refine (iib7 HI.out HP.out (fun _=>ht7) (by unfold kc7; decide)).mono ?_
  rintro e w2 ⟨rfl,hb2⟩
  rw [show (⟨[[⟨0,2⟩]],[⟨0,[0]⟩]⟩:za7) = qd7 from rfl,twb7,cmb7]
  have R2:=R1.below hb2
  have P2:=r5.below hb2
  have hB2:=ca7 hB1 hb2
  have HI2:=hid (fb7.below HI.out hb2)
  have HP2:=hid (id7.below HP.out hb2)
  clear q0 q1 q2 q3 q4 q5 q6 q7 q8 HI HP R1 r5 hB1 hb2 HW
  obtain ⟨q0,q1,q2,q3,q4,q5,q6,q7,q8⟩:=ig7 R2
  obtain ⟨p0,p1⟩:=be7 P2
  go_wp2_with fail
  refine (xf7 HI2.out HP2.out (fun _=>ht7) (by unfold kc7; decide)).mono ?_
  rintro e w3 ⟨rfl,hb3⟩
  rw [show (⟨[[⟨0,2⟩]],[⟨0,[0]⟩]⟩:za7) = qd7 from rfl,cmb7]
  have R3:=R2.below hb3
  have hB3:=ca7 hB2 hb3
  have HI3:=hid (fb7.below HI2.out hb3)
  clear q0 q1 q2 q3 q4 q5 q6 q7 q8 p0 p1 HI2 HP2 R2 P2 hB2 hb3
  obtain ⟨q0,q1,q2,q3,q4,q5,q6,q7,q8⟩:=ig7 R3
  go_wp2_with fail
  refine (xf7 HI3.out (ljb7 _) (fun _=>ht7) (by unfold kc7; decide)).mono ?_
  rintro e w4 ⟨rfl,hb4⟩
  rw [aob7]
  go_wp2
  go_ret
  exact ⟨rfl,ca7 hB3 hb4⟩
theorem io7 {w:World} (a f t:Int) :
  Calls Try.prog 70 #[.int .i64 a, .int .i64 f, .int .i64 t] w fun e w'=>e = .returned (.bool (pt7 a f t)) ∧ Below w.heap.size w w':=by
 go_enter Try.func70,Try.ntmps70
 by_cases h1:f ≤ a
 ·have h1':a ≥ f:=h1
  go_wp2
  go_ret
  refine ⟨?_,Below.refl _ _⟩
  simp [pt7,h1]
 ·have h1' : ¬ (a ≥ f):=h1
  go_wp2
  go_ret
  refine ⟨?_,Below.refl _ _⟩
  unfold pt7
  rw [decide_eq_false (by omega)]; rfl
theorem pdb7:∀ w,(sizeOf 58).run Try.prog w = .ok 3 w:=fun w=>by kernel_rfl
structure FSt (w0:World) (e1 e2:TypeId) (ps ts:List Value) (w:World):Prop where
 bel:Below w0.heap.size w0 w
 one:Row w w0.heap.size e1 ps
 two:Row w (w0.heap.size + 1) e2 ts
theorem FSt.below {w0 w w':World} {e1 e2:TypeId} {ps ts:List Value} (h:FSt w0 e1 e2 ps ts w) (hb:Below w.heap.size w w'):FSt w0 e1 e2 ps ts w':=⟨ca7 h.bel hb,h.one.below hb,h.two.below hb⟩
theorem FSt.start (w0:World) (e1 e2:TypeId) (ps ts:List Value):FSt w0 e1 e2 ps ts ((w0.alloc (.cells ps.toArray e1)).alloc (.cells ts.toArray e2)):=by
 have h1:=(Row.new (w:=w0) (g:=w0.heap.size) (e:=e1) (cs:=ps) rfl).alloc (.cells ts.toArray e2)
 have h2:=Row.new (w:=w0.alloc (.cells ps.toArray e1)) (e:=e2) (cs:=ts) rfl
 rw [show (w0.alloc (.cells ps.toArray e1)).heap.size = w0.heap.size + 1 by simp] at h2
 exact ⟨((Below.refl _ _).alloc (Nat.le_refl _) _).alloc (by simp) _,h1,h2⟩
theorem FSt.alloc {w0 w:World} {e1 e2:TypeId} {ps ts:List Value} (h:FSt w0 e1 e2 ps ts w) (b:Obj):FSt w0 e1 e2 ps ts (w.alloc b):=h.below ((Below.refl _ _).alloc (Nat.le_refl _) b)
theorem FSt.drewN {w0 w:World} {e1 e2:TypeId} {ps ts:List Value} (h:FSt w0 e1 e2 ps ts w) (n:Nat):FSt w0 e1 e2 ps ts (w.drewN n):=h.below (below_drewN (Below.refl _ _) n)
theorem ixb7 {w:World} {F G:Nat → Prop} {p:za7} {t:rb7} {ps ts:List Value} (hp:id7.rep w F p ps) (ht:te7.rep w G t ts) (hl1:t.trucks.length = p.trucks.length) (hl2:t.bikes.length = p.bikes.length) (hT:p.trucks.length ≤ 60) (hB:p.bikes.length ≤ 60)
  (hT1:∀ t ∈ p.trucks,t.length ≤ 60) (hB1:∀ b ∈ p.bikes,b.stops.length ≤ 60) :
  Calls Try.prog 45 #[.agg ps.toArray, .agg ts.toArray] w fun e w'=>e = .returned (.bool (sq7 p t p.trucks.length && po7 p t p.bikes.length)) ∧ Below w.heap.size w w':=by
 obtain ⟨tv,bv,rfl,h3,h4⟩:=hp
 obtain ⟨a2,b2,off2,c2,hs2,hlc2,hc2,ha2, -,hcell2⟩:=oc7 h3
 obtain rfl:=List.cons.inj hs2 |>.1
 obtain ⟨a4,b4,off4,c4,hs4,hlc4,hc4,ha4, -,hcell4⟩:=ld7 h4
 obtain rfl:=List.cons.inj hs4 |>.1
 obtain ⟨tv,bv,rfl,h5,h6⟩:=ht
 obtain ⟨a5,b5,off5,c5,hs5,hlc5,hc5,ha5, -,hcell5⟩:=lc7 h5
 obtain rfl:=List.cons.inj hs5 |>.1
 obtain ⟨a6,b6,off6,c6,hs6,hlc6,hc6,ha6, -,hcell6⟩:=dj7 h6
 obtain rfl:=List.cons.inj hs6 |>.1
 clear hs2 hs4 hs5 hs6 h3 h4 h5 h6
 rw [hl1] at hlc5 ha5
 rw [hl2] at hlc6 ha6
 have HCELL2:=hid hcell2
 have HCELL4:=hid hcell4
 have HCELL5:=hid hcell5
 have HCELL6:=hid hcell6
 have HL1:=hid hl1
 have HL2:=hid hl2
 have HT1:=hid hT1
 have HB1:=hid hB1
 rw [hl1,hl2]
 have hs0:=FSt.start w 25 29 [.slice a2 p.trucks.length c2, .slice a4 p.bikes.length c4] [.slice a5 p.trucks.length c5, .slice a6 p.bikes.length c6]
 obtain ⟨p0,p1⟩:=be7 hs0.one
 obtain ⟨t0,t1⟩:=be7 hs0.two
 clear hcell2 hcell4 hcell5 hcell6 hl1 hl2 hT1 hB1
 go_enter Try.func45,Try.ntmps45
 go_upto_region 1 with fail
 generalize (w.alloc (.cells #[.slice a2 p.trucks.length c2, .slice a4 p.bikes.length c4] 25)).alloc (.cells #[.slice a5 p.trucks.length c5, .slice a6 p.bikes.length c6] 29) = wz at hs0 p0 p1 t0 t1 ⊢
 have HS0:=hid hs0
 clear hs0
 go_wp2
 go_loopw [5,29] (fun ov kv wr => ∃ k:Nat,k ≤ p.trucks.length ∧ kv = .int .i64 k ∧ ov = .bool (sq7 p t k) ∧ FSt w 25 29 [.slice a2 p.trucks.length c2, .slice a4 p.bikes.length c4] [.slice a5 p.trucks.length c5, .slice a6 p.bikes.length c6] wr) (fun _ kv _=>p.trucks.length - (intOf kv).toNat)
 case atStart=>exact ⟨0,Nat.zero_le _,rfl,rfl,HS0.out⟩
 case round =>
  clear p0 p1 t0 t1 HS0
  obtain ⟨k,hk,rfl,rfl,hst⟩:=hrel
  obtain ⟨wo,rfl⟩:∃ wo:World,wo = wr:=⟨_,rfl⟩
  have HST:=hid hst
  obtain ⟨p0,p1⟩:=be7 hst.one
  obtain ⟨t0,t1⟩:=be7 hst.two
  by_cases hlt:k < p.trucks.length
  ·have hx:=la7 (c:=c2) Try.underlying22 wh7 (ha2 (by omega)) hlt
   have hx5:=la7 (c:=c5) Try.underlying26 pf7 (ha5 (by omega)) hlt
   obtain ⟨sv,g0,hr⟩:=HCELL2.out k hlt
   obtain ⟨a3,b3,off3,c3,hs3,hl3,hc3, -, -, -, -⟩:=ce7 hr
   obtain rfl:=List.cons.inj hs3 |>.1
   obtain ⟨sv,g1,hr⟩:=HCELL5.out k (by rw [HL1.out]; exact hlt)
   obtain ⟨a7,b7,off7,c7,hs7,hl7,hc7, -, -, -, -⟩:=bb7 hr
   obtain rfl:=List.cons.inj hs7 |>.1
   have g0:=aa7 hst.bel g0
   have g1:=aa7 hst.bel g1
   have htl:=HT1.out _ (List.getElem_mem hlt)
   have HF:=hid (show sq7 p t (k + 1) = (sq7 p t k && decide ((t.trucks[k]'(by rw [HL1.out]; exact hlt)).length = p.trucks[k].length)) from by
    unfold sq7
    rw [ux7,List.getD_eq_getElem?_getD,List.getD_eq_getElem?_getD,List.getElem?_eq_getElem hlt,List.getElem?_eq_getElem (by rw [HL1.out]; exact hlt)]
    rfl)
   obtain ⟨n1,hn1⟩:∃ n,n = (t.trucks[k]'(by rw [HL1.out]; exact hlt)).length:=⟨_,rfl⟩
   obtain ⟨n2,hn2⟩:∃ n,n = p.trucks[k].length:=⟨_,rfl⟩
   rw [← hn1, ← hn2] at HF
   rw [← hn1] at g1 hl7
   rw [← hn2] at g0 hl3 htl
   obtain ⟨ok,hok⟩:∃ b,b = sq7 p t k:=⟨_,rfl⟩
   rw [← hok] at HF ⊢
   have hal:Below wo.heap.size wo (wo.alloc (.cells #[.slice a3 n2 c3] 82)):=(Below.refl _ _).alloc (Nat.le_refl _) _
   have q0:=aa7 hal t0
   have q1:=aa7 hal g1
   have q2:=(Row.new (w:=wo) (g:=wo.heap.size) (e:=82) (cs:=[.slice a3 n2 c3]) rfl).cell (j:=0) (by simp)
   simp only [List.getElem_cons_zero] at q2
   have HS1:=hid (HST.out.below hal)
   obtain ⟨X,hX⟩:∃ X,X = wo.heap.size:=⟨_,rfl⟩
   rw [← hX] at q2
   clear hs3 hs7 hr hn1 hn2 hok hst hal
   go_upto_region 5 with fail
   rw [← hX]
   generalize wo.alloc (.cells #[.slice a3 n2 c3] 82) = wq at HS1 q0 q1 q2 ⊢
   clear hX p0 p1 t0 t1 g0 g1
   cases ok
   ·go_wp2
    go_quiet (fail)
    go_wp2
    go_roundw
    case rel=>exact ⟨k + 1,by omega,by go_num,by rw [HF.out]; rfl,HS1.out.drewN _⟩
    case measure=>simp [intOf]; omega
   ·go_wp2
    go_quiet (fail)
    go_wp2
    go_roundw
    case rel=>exact ⟨k + 1,by omega,by go_num,by rw [HF.out,Bool.true_and]; exact congrArg Value.bool (mt7 _ _),HS1.out.drewN _⟩
    case measure=>simp [intOf]; omega
  ·obtain rfl:k = p.trucks.length:=by omega
   obtain ⟨ot,hot⟩:∃ b,b = sq7 p t p.trucks.length:=⟨_,rfl⟩
   rw [← hot]
   go_wp2
   go_loopw [5,51] (fun ov kv wr => ∃ k:Nat,k ≤ p.bikes.length ∧ kv = .int .i64 k ∧ ov = .bool (ot && po7 p t k) ∧ FSt w 25 29 [.slice a2 p.trucks.length c2, .slice a4 p.bikes.length c4] [.slice a5 p.trucks.length c5, .slice a6 p.bikes.length c6] wr) (fun _ kv _=>p.bikes.length - (intOf kv).toNat)
   case atStart=>exact ⟨0,Nat.zero_le _,rfl,by simp [po7],HST.out⟩
   case round =>
    clear p0 p1 t0 t1 HST hst
    obtain ⟨k,hk,rfl,rfl,hst⟩:=hrel
    obtain ⟨wo,rfl⟩:∃ wo:World,wo = wr:=⟨_,rfl⟩
    have HST:=hid hst
    obtain ⟨p0,p1⟩:=be7 hst.one
    obtain ⟨t0,t1⟩:=be7 hst.two
    by_cases hlt:k < p.bikes.length
    ·have hx:=nb7 (c:=c4) Try.underlying23 uk7 (ha4 (by omega)) hlt
     have hx5:=nb7 (c:=c6) Try.underlying27 pdb7 (ha6 (by omega)) hlt
     obtain ⟨sv,g0,g00, -,hr⟩:=HCELL4.out k hlt
     obtain ⟨a3,b3,off3,c3,hs3,hl3,hc3, -, -, -, -⟩:=bb7 hr
     obtain rfl:=List.cons.inj hs3 |>.1
     obtain ⟨sv, -,g1, -, -, -,hr⟩:=HCELL6.out k (by rw [HL2.out]; exact hlt)
     obtain ⟨a7,b7,off7,c7,hs7,hl7,hc7, -, -, -, -⟩:=bb7 hr
     obtain rfl:=List.cons.inj hs7 |>.1
     have g0:=aa7 hst.bel g0
     have g00:=aa7 hst.bel g00
     have g1:=aa7 hst.bel g1
     have htl:=HB1.out _ (List.getElem_mem hlt)
     have HF:=hid (show po7 p t (k + 1) = (po7 p t k && decide ((t.bikes[k]'(by rw [HL2.out]; exact hlt)).starts.length = p.bikes[k].stops.length)) from by
      unfold po7 lab7
      rw [ux7,List.getD_eq_getElem?_getD,List.getD_eq_getElem?_getD,List.getElem?_eq_getElem hlt,List.getElem?_eq_getElem (by rw [HL2.out]; exact hlt)]
      rfl)
     obtain ⟨n1,hn1⟩:∃ n,n = (t.bikes[k]'(by rw [HL2.out]; exact hlt)).starts.length:=⟨_,rfl⟩
     obtain ⟨n2,hn2⟩:∃ n,n = p.bikes[k].stops.length:=⟨_,rfl⟩
     obtain ⟨sa,hsa⟩:∃ n,n = p.bikes[k].sat:=⟨_,rfl⟩
     rw [← hn1, ← hn2] at HF
     rw [← hn1] at g1 hl7
     rw [← hn2] at g00 hl3 htl
     rw [← hsa] at g0
     have HFN:=hid (show ∀ ok,ok = (ot && po7 p t k) → (ot && po7 p t (k + 1)) = (ok && decide (n1 = n2)) from fun ok h=>by rw [h,HF.out,Bool.and_assoc])
     obtain ⟨ok,hok⟩:∃ b,b = (ot && po7 p t k):=⟨_,rfl⟩
     rw [← hok]
     have HF2:=hid (HFN.out ok hok)
     have hal:Below wo.heap.size wo (wo.alloc (.cells #[.int .i64 sa, .slice a3 n2 c3] 73)):=(Below.refl _ _).alloc (Nat.le_refl _) _
     have q0:=aa7 hal t1
     have q1:=aa7 hal g1
     have q2:=(Row.new (w:=wo) (g:=wo.heap.size) (e:=73) (cs:=[.int .i64 sa, .slice a3 n2 c3]) rfl).cell (j:=1) (by simp)
     simp only [List.getElem_cons_succ,List.getElem_cons_zero] at q2
     have HS1:=hid (HST.out.below hal)
     obtain ⟨X,hX⟩:∃ X,X = wo.heap.size:=⟨_,rfl⟩
     rw [← hX] at q2
     clear hs3 hs7 hr hn1 hn2 hok hst hal hsa HF HFN
     go_upto_region 10 with fail
     rw [← hX]
     generalize wo.alloc (.cells #[.int .i64 sa, .slice a3 n2 c3] 73) = wq at HS1 q0 q1 q2 ⊢
     clear hX p0 p1 t0 t1 g0 g00 g1
     cases ok
     ·go_wp2
      go_quiet (fail)
      go_wp2
      go_roundw
      case rel=>exact ⟨k + 1,by omega,by go_num,by rw [HF2.out]; rfl,HS1.out.drewN _⟩
      case measure=>simp [intOf]; omega
     ·go_wp2
      go_quiet (fail)
      go_wp2
      go_roundw
      case rel=>exact ⟨k + 1,by omega,by go_num,by rw [HF2.out,Bool.true_and]; exact congrArg Value.bool (mt7 _ _),HS1.out.drewN _⟩
      case measure=>simp [intOf]; omega
    ·obtain rfl:k = p.bikes.length:=by omega
     go_wp2
     go_ret
     exact ⟨by rw [hot]; rfl,HST.out.bel⟩
end Go.Proofs.Ytabadfkikdefeaa
