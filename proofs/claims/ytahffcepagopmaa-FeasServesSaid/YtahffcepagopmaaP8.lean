/- Texts of the proof, joined: Awake19, Awake22, CanD, TimesOwn, LoadAll, CodeD, Whole, FitsLaw, LoadsU, MakeOk, HaulErrors, HaulOrders, HaulTrucks, HaulWholes. -/
import Derived.Deep.DeepCutAuto
import Derived.Test.YtahffcepagopmaaAwake18
import Derived.Test.YtahffcepagopmaaDraft
import Derived.Test.YtahffcepagopmaaSpoilt
set_option linter.all false
set_option maxRecDepth 100000
set_option maxHeartbeats 6400000
namespace Go.Proofs.Ytahffcepagopmaa
open Go.RowKit
def ol7:ba7:=qa7.putCost 0 1 5
theorem nec7:xq7 ol7:=by
 unfold xq7 ua7 ol7 qa7 ba7.putCost setAt maxLen; simp
theorem ekb7:na7 ol7 xe7 (za7 ol7 xe7) = 0:=by decide +kernel
theorem xyb7:za7 ol7 xe7 = ⟨[[0]],[⟨2,[5],6⟩]⟩:=by decide +kernel
theorem psb7:hh7 ol7 xe7 = 5:=by decide +kernel
theorem fyb7:makeF ol7 xe7 = ⟨xe7,⟨[[0]],[⟨2,[5],6⟩]⟩,5⟩:=by
 unfold makeF
 rw [if_pos ekb7,xyb7,psb7]
theorem xwb7:fr7 ol7 ⟨xe7,⟨[[0]],[⟨2,[5],6⟩]⟩,5⟩ = 0:=by decide +kernel
theorem yvb7:fr7 ol7 ⟨xe7,⟨[[0]],[⟨2,[5],6⟩]⟩,6⟩ = 14:=by decide +kernel
theorem cw7:ol7.custs.length ≤ 6:=by decide
theorem stb7 (w:World) (c1 c2 c3 c4:List Value) (T1 T2 T3 T4:TypeId):∃ W,W = (((w.alloc (.cells c1.toArray T1)).alloc (.cells c2.toArray T2)).alloc (.cells c3.toArray T3)).alloc (.cells c4.toArray T4) ∧ Below w.heap.size w W ∧
  Row W w.heap.size T1 c1 ∧ Row W (w.heap.size + 1) T2 c2 ∧ Row W (w.heap.size + 2) T3 c3 ∧ Row W (w.heap.size + 3) T4 c4 ∧ W.heap.size = w.heap.size + 4:=by
 obtain ⟨W,hW,b1,r1,r2,r3,hz⟩:=fub7 w c1 c2 c3 T1 T2 T3
 obtain ⟨b4,r4,z4⟩:=df7 W c4 T4
 rw [hz] at r4
 refine ⟨_,by rw [← hW],ca7 b1 b4,r1.below b4,r2.below b4,r3.below b4,r4,by omega⟩
theorem rkb7 (w:World):Calls Try.prog 6 #[] w fun e w'=>e = .returned (.bool true) ∧ Below w.heap.size w w':=by
 go_enter Try.func6,Try.ntmps6
 go_wp2_with fail
 refine (pub7 _).mono ?_
 rintro e w1 ⟨ds,rfl,hi,hb⟩
 rw [uy7] at hi
 obtain ⟨gs,cs1,gc,cc1,gco,cco,rco,gti,cti,rti,I⟩:=hi.at
 obtain rfl:=I.lit
 clear hi
 have R0:=Row.new (w:=w1) (e:=39) (cs:=[.int .i64 qa7.fin, .int .i64 qa7.tmany, .int .i64 qa7.troom, .int .i64 qa7.bmany, .int .i64 qa7.broom, .slice (some ⟨gs,0,none⟩) qa7.sats.length cs1, .slice (some ⟨gc,0,none⟩) qa7.custs.length cc1, .slice (some ⟨gco,0,none⟩) qa7.cost.length cco, .slice (some ⟨gti,0,none⟩) qa7.time.length cti]) rfl
 have hob:Old w1 (w1.alloc (.cells ([.int .i64 qa7.fin, .int .i64 qa7.tmany, .int .i64 qa7.troom, .int .i64 qa7.bmany, .int .i64 qa7.broom, .slice (some ⟨gs,0,none⟩) qa7.sats.length cs1, .slice (some ⟨gc,0,none⟩) qa7.custs.length cc1, .slice (some ⟨gco,0,none⟩) qa7.cost.length cco, .slice (some ⟨gti,0,none⟩) qa7.time.length cti]).toArray 39)):=(Below.refl _ _).alloc (Nat.le_refl _) _
 have I0:=I.below hob
 have hB0:=ca7 hb hob
 have hzb:=hb.size
 clear hob I hb
 go_upto_region 2 with fail
 generalize hwq:w1.alloc (.cells _ 39) = wq at *
 clear hwq
 go_cut [] (fun wx=>we7 84 69 65 2 wx w.heap.size ol7 ([.int .i64 qa7.fin, .int .i64 qa7.tmany, .int .i64 qa7.troom, .int .i64 qa7.bmany, .int .i64 qa7.broom, .slice (some ⟨gs,0,none⟩) qa7.sats.length cs1, .slice (some ⟨gc,0,none⟩) qa7.custs.length cc1, .slice (some ⟨gco,0,none⟩) qa7.cost.length cco, .slice (some ⟨gti,0,none⟩) qa7.time.length cti]) gs cs1 gc cc1 gco cco rco gti cti rti ∧ Row wx w1.heap.size 39 ([.int .i64 qa7.fin, .int .i64 qa7.tmany, .int .i64 qa7.troom, .int .i64 qa7.bmany, .int .i64 qa7.broom, .slice (some ⟨gs,0,none⟩) qa7.sats.length cs1, .slice (some ⟨gc,0,none⟩) qa7.custs.length cc1, .slice (some ⟨gco,0,none⟩) qa7.cost.length cco, .slice (some ⟨gti,0,none⟩) qa7.time.length cti]) ∧ Below w.heap.size w wx)
 case first =>
  obtain ⟨c0,r0,l0,m0⟩:=I0.costs.row (i:=0) (by decide)
  have I2:=(I0.setCost (i:=0) (j:=1) (by decide) (by decide) (by decide) (by decide) (by decide) 5)
  have hr0:=R0.ne r0 (by decide)
  generalize hx0:rco.getD 0 0 = x0 at *
  clear hx0 m0
  have R3:=hid (R0.setOther (a:=⟨x0,1,none⟩) hr0 (wa7 5))
  have hB3:=hid (hB0.setCell (p:=⟨x0,1,none⟩) l0 (wa7 5))
  have HI3:=hid I2
  have d0:=r0.cell (j:=1) (by decide)
  have f0:=r0.frozen 1
  have hx0:∀ w,(Instr.indexAt 37 (.slice (some ⟨gco,0,none⟩) qa7.cost.length cco) (.int .i64 0)).run Try.prog w = .ok (.pointer (some ⟨gco,0,none⟩)) w:=ga7 Try.underlying37 fh7 rfl (k:=0) (by decide)
  have hx2:∀ w,(Instr.indexAt 65 (.slice (some ⟨x0,0,none⟩) (qa7.cost.getD 0 []).length (qa7.cost.getD 0 []).length) (.int .i64 1)).run Try.prog w = .ok (.pointer (some ⟨x0,1,none⟩)) w:=ga7 Try.underlying65 kc7 rfl (k:=1) (by decide)
  obtain ⟨q0,q1,q2,q3,q4,q5,q6,q7,q8⟩:=ih7 R0
  clear I0 I2 hr0 r0 hB0
  go_wp2
  go_meet
  exact ⟨HI3.out,R3.out,hB3.out⟩
 case rest =>
  obtain ⟨I,R,hB⟩:=hcut
  obtain ⟨wq,rfl⟩:∃ wq:World,wq = wc:=⟨_,rfl⟩
  obtain ⟨W,hW,hold,r1,r2,r3,r4,hz⟩:=stb7 wq [.int .i64 0, .int .i64 2] [.slice (some ⟨wq.heap.size,0,none⟩) 1 1] [.int .i64 0] [.int .i64 0, .slice (some ⟨wq.heap.size + 2,0,none⟩) 1 1] 64 62 3 59
  have HW:=hid hW
  have HR1:=hid (R.below hold)
  have HB1:=hid (ca7 hB hold)
  have HI:=hid (show cb7.rep W (fun b=>w.heap.size ≤ b) ol7 _ from (I.below hold).own.rep nec7)
  have HP:=hid (bo7 (s:=0) (l:=2) (b:=0) (c:=0) r1 r2 r3 r4 (by unfold ua7; decide) (by unfold ua7; decide) (by unfold ua7; decide) (by unfold ua7; decide))
  obtain ⟨q0,q1,q2,q3,q4,q5,q6,q7,q8⟩:=ih7 R
  clear hW hold I R hB r1 r2 r3 r4
  go_wp2_with fail
  rw [show wq.heap.size + 1 + 1 + 1 = wq.heap.size + 3 from rfl,show wq.heap.size + 1 + 1 = wq.heap.size + 2 from rfl, ← HW.out]
  have hE:=oib7 HI.out HP.out (fun _=>cw7) (by unfold yb7; decide) (by rw [show (⟨[[⟨0,2⟩]],[⟨0,[0]⟩]⟩:sa7) = xe7 from rfl,psb7]; unfold ua7; decide) (by unfold ua7; decide)
  rw [show (⟨[[⟨0,2⟩]],[⟨0,[0]⟩]⟩:sa7) = xe7 from rfl,ekb7,fyb7] at hE
  refine hE.mono ?_
  clear hE
  rintro e w2 ⟨ys,rfl,hy,hb2⟩
  have hopen:=hy
  obtain ⟨v1,v2,v3,v4,rfl, -,⟨u1,u2,e1,t1,t2⟩,⟨u3,u4,e2,t3,t4⟩⟩:=hopen
  obtain rfl:=List.cons.inj e1 |>.1
  obtain rfl:=List.cons.inj (List.cons.inj e1 |>.2) |>.1
  obtain rfl:=List.cons.inj e2 |>.1
  obtain rfl:=List.cons.inj (List.cons.inj e2 |>.2) |>.1
  obtain ⟨a1,b1,off1,c1,hs1, -⟩:=qc7 t1
  obtain ⟨a2,b2,off2,c2,hs2, -⟩:=kd7 t2
  obtain ⟨a3,b3,off3,c3,hs3, -⟩:=qd7 t3
  obtain ⟨a4,b4,off4,c4,hs4, -⟩:=uj7 t4
  obtain rfl:=List.cons.inj hs1 |>.1
  obtain rfl:=List.cons.inj hs2 |>.1
  obtain rfl:=List.cons.inj hs3 |>.1
  obtain rfl:=List.cons.inj hs4 |>.1
  have hy:cs7.rep w2 (fun k=>W.heap.size ≤ k) ⟨xe7,⟨[[0]],[⟨2,[5],6⟩]⟩,5⟩ [.slice a1 1 c1, .slice a2 1 c2, .slice a3 1 c3, .slice a4 1 c4, .int .i64 5]:=hy
  rw [show xe7.trucks.length = 1 from rfl,show xe7.bikes.length = 1 from rfl]
  have hB2:=ca7 HB1.out hb2
  have HR2:=hid (HR1.out.below hb2)
  have HI2:=hid (cb7.below HI.out hb2)
  obtain ⟨bA,rA,zA⟩:=df7 w2 [.slice a1 1 c1, .slice a2 1 c2, .slice a3 1 c3, .slice a4 1 c4, .int .i64 5] 55
  obtain ⟨bB,rB,zB⟩:=df7 (w2.alloc (.cells #[.slice a1 1 c1, .slice a2 1 c2, .slice a3 1 c3, .slice a4 1 c4, .int .i64 5] 55)) [.slice a1 1 c1, .slice a2 1 c2, .slice a3 1 c3, .slice a4 1 c4, .int .i64 5] 55
  have hzA:(w2.alloc (.cells #[.slice a1 1 c1, .slice a2 1 c2, .slice a3 1 c3, .slice a4 1 c4, .int .i64 5] 55)).heap.size = w2.heap.size + 1:=zA
  rw [hzA] at rB
  have rA2:=rA.below bB
  have hb3:Below w2.heap.size w2 _:=ca7 bA bB
  have HA3:=hid rA2
  have HC3:=hid rB
  have HB3:=hid hb3
  have HB2:=hid hB2
  have HY2:=hid (cs7.old hy)
  obtain ⟨qa,hqa⟩:∃ q,q = w2.heap.size:=⟨_,rfl⟩
  obtain ⟨qb,hqb⟩:∃ q,q = w2.heap.size + 1:=⟨_,rfl⟩
  have hle:w2.heap.size ≤ qb:=by omega
  have hne:qa ≠ qb:=by omega
  rw [← hqa] at HA3
  rw [← hqb] at HC3
  clear q0 q1 q2 q3 q4 q5 q6 q7 q8 bA rA zA bB rB zB rA2 hb3 hzA HR1 HI HP HW HB1 hb2 hB2 hy e1 e2 t1 t2 t3 t4 hs1 hs2 hs3 hs4
  go_upto_region 5 with fail
  rw [← hqb, ← hqa]
  generalize (w2.alloc (.cells #[.slice a1 1 c1, .slice a2 1 c2, .slice a3 1 c3, .slice a4 1 c4, .int .i64 5] 55)).alloc _ = w3 at HA3 HC3 HB3 ⊢
  clear hqa hqb
  obtain ⟨b0,b1,b2,b3,b4⟩:=btb7 HC3.out
  have fb:=HC3.out.frozen 4
  have HA4:=hid (HA3.out.setOther (a:=⟨qb,4,none⟩) hne (.int .i64 6))
  have HC4:=hid (show Row (w3.setCell ⟨qb,4,none⟩ (.int .i64 6)) qb 55 [.slice a1 1 c1, .slice a2 1 c2, .slice a3 1 c3, .slice a4 1 c4, .int .i64 6] from HC3.out.set (j:=4) (by simp) (.int .i64 6))
  have HB4:=hid (HB3.out.setCell (p:=⟨qb,4,none⟩) hle (.int .i64 6))
  go_upto_region 6 with fail
  generalize w3.setCell ⟨qb,4,none⟩ (.int .i64 6) = w4 at HA4 HC4 HB4 ⊢
  clear b0 b1 b2 b3 b4 fb HA3 HC3 HB3
  have HR4:=hid (HR2.out.below HB4.out)
  have HI4:=hid (cb7.below HI2.out HB4.out)
  have HY4:=hid (cs7.belowB HY2.out HB4.out)
  have HZ4:=hid (show cs7.rep w4 (fun b=>b < w2.heap.size) ⟨xe7,⟨[[0]],[⟨2,[5],6⟩]⟩,6⟩ [.slice a1 1 c1, .slice a2 1 c2, .slice a3 1 c3, .slice a4 1 c4, .int .i64 6] from by
   obtain ⟨v1,v2,v3,v4,e, -,hp,ht⟩:=HY4.out
   simp only [List.cons.injEq] at e
   obtain ⟨rfl,rfl,rfl,rfl, -⟩:=e
   exact ⟨_,_,_,_,rfl,by unfold ua7; decide,hp,ht⟩)
  have HB5:=hid (ca7 HB2.out HB4.out)
  obtain ⟨q0,q1,q2,q3,q4,q5,q6,q7,q8⟩:=ih7 HR4.out
  obtain ⟨a0,a01,a02,a03,a04⟩:=btb7 HA4.out
  clear HR2 HI2 HY2 HB2 HB4 hle hne
  go_wp2_with fail
  have hC:=po7 HI4.out HY4.out (fun _=>cw7) (by unfold yb7; decide)
  rw [xwb7] at hC
  refine hC.mono ?_
  clear hC
  rintro e w5 ⟨rfl,hb5⟩
  have HR6:=hid (HR4.out.below hb5)
  have HC6:=hid (HC4.out.below hb5)
  have HI6:=hid (cb7.below HI4.out hb5)
  have HZ6:=hid (cs7.below HZ4.out hb5)
  have HB6:=hid (ca7 HB5.out hb5)
  clear q0 q1 q2 q3 q4 q5 q6 q7 q8 a0 a01 a02 a03 a04 HR4 HI4 HY4 HZ4 HB5 HA4 HC4 hb5
  obtain ⟨q0,q1,q2,q3,q4,q5,q6,q7,q8⟩:=ih7 HR6.out
  obtain ⟨b0,b1,b2,b3,b4⟩:=btb7 HC6.out
  go_wp2_with fail
  have hC:=po7 HI6.out HZ6.out (fun _=>cw7) (by unfold yb7; decide)
  rw [yvb7] at hC
  refine hC.mono ?_
  clear hC
  rintro e w6 ⟨rfl,hb6⟩
  have HB7:=hid (ca7 HB6.out hb6)
  clear q0 q1 q2 q3 q4 q5 q6 q7 q8 b0 b1 b2 b3 b4 HR6 HC6 HI6 HZ6 HB6 hb6
  go_wp2_with fail
  refine (vlb7 _).mono ?_
  rintro e w7 ⟨rfl,hb7⟩
  have HB8:=hid (ca7 HB7.out hb7)
  clear HB7 hb7
  go_wp2
  go_ret
  exact ⟨rfl,HB8.out⟩
end Go.Proofs.Ytahffcepagopmaa

namespace Go.Proofs.Ytahffcepagopmaa
open Go.RowKit
structure CnS where
 ok:Bool
 now:Int
 node:Int
def jv7 (x:ba7) (st:CnS) (s:da7) (v:Int):CnS:=⟨st.ok && (decide (st.now ≤ v) && (decide (va7 x st.node (1 + s.sat) ≤ v - st.now) && decide (v ≤ x.fin))),v,1 + s.sat⟩
def wn7 (x:ba7) (t:List da7) (l:List Int) (ok:Bool):Nat → CnS
 | 0=>⟨ok,0,0⟩
 | j + 1=>jv7 x (wn7 x t l ok j) (t.getD j ⟨0,0⟩) (l.getD j 0)
def wmb7 (x:ba7) (st:CnS):Bool:=st.ok && (decide (st.now ≤ x.fin) && decide (st.now + va7 x st.node 0 ≤ x.fin))
def do7 (x:ba7) (t:List da7) (l:List Int) (ok:Bool):Bool:=wmb7 x (wn7 x t l ok t.length)
def fc7 (x:ba7) (p:sa7) (t:qb7):Nat → Bool
 | 0=>true
 | k + 1=>do7 x (p.trucks.getD k []) (t.trucks.getD k []) (fc7 x p t k)
def gt7 (x:ba7) (sat out:Int) (s:da7) (v:Int):Bool:=decide (s.sat ≠ sat) || decide (v + od7 x sat ≤ out)
def xh7 (x:ba7) (sat out:Int) (t:List da7) (l:List Int) (ok:Bool):Nat → Bool
 | 0=>ok
 | j + 1=>xh7 x sat out t l ok j && gt7 x sat out (t.getD j ⟨0,0⟩) (l.getD j 0)
def oe7 (x:ba7) (p:sa7) (t:qb7) (sat out:Int) (ok:Bool):Nat → Bool
 | 0=>ok
 | k + 1=>xh7 x sat out (p.trucks.getD k []) (t.trucks.getD k []) (oe7 x p t sat out ok k) (p.trucks.getD k []).length
def mx7 (x:ba7) (st:BkS) (c v:Int):Bool:=decide ((tb7 x c).opn ≤ v) && (decide (v ≤ (tb7 x c).cls) && (decide (v ≤ x.fin) && decide (va7 x st.node (1 + x.sats.length + c) ≤ v - st.now)))
def ugb7 (x:ba7) (st:BkS) (c v:Int):BkS:=⟨v + (tb7 x c).stay,1 + x.sats.length + c⟩
def mcb7 (x:ba7) (b:pa7) (r:zc7) (ok:Bool):Nat → Option BkS
 | 0=>some ⟨r.out,1 + b.sat⟩
 | j + 1=>(mcb7 x b r ok j).bind fun st=>if (ok && mx7 x st (b.stops.getD j 0) (r.starts.getD j 0)) = true then some (ugb7 x st (b.stops.getD j 0) (r.starts.getD j 0)) else none
def phb7 (x:ba7) (b:pa7) (r:zc7) (st:BkS) (ok:Bool):Bool:=ok && (decide (r.back ≤ x.fin) && (decide (st.now ≤ r.back) && decide (va7 x st.node (1 + b.sat) ≤ r.back - st.now)))
def kpb7 (x:ba7) (p:sa7) (t:qb7) (b:pa7) (r:zc7) (ok:Bool):Bool:=oe7 x p t b.sat r.out (ok && (decide (0 ≤ r.out) && decide (r.out ≤ x.fin))) p.trucks.length
def gi7 (x:ba7) (p:sa7) (t:qb7):Nat → Option Bool
 | 0=>some true
 | k + 1=>(gi7 x p t k).bind fun ok =>
  (mcb7 x (p.bikes.getD k ⟨0,[]⟩) (cm7 t k) (kpb7 x p t (p.bikes.getD k ⟨0,[]⟩) (cm7 t k) ok) (p.bikes.getD k ⟨0,[]⟩).stops.length).map fun st =>
   phb7 x (p.bikes.getD k ⟨0,[]⟩) (cm7 t k) st (kpb7 x p t (p.bikes.getD k ⟨0,[]⟩) (cm7 t k) ok)
def jvb7 (x:ba7) (p:sa7) (t:qb7):Bool:=fc7 x p t p.trucks.length && match gi7 x p t p.bikes.length with
 | none=>false
 | some b=>b
structure pdc7 (x:ba7) (t:List da7) (l ready:List Int) (j:Nat) (st:TkS):Prop where
 now:st.now = (wn7 x t l true j).now
 node:st.node = (wn7 x t l true j).node
 ok:(wn7 x t l true j).ok = true
 lo:0 ≤ st.now
 len:st.ready.length = ready.length
 rdy:∀ s,s < ready.length → ∀ v,st.ready.getD s 0 ≤ v ↔ ready.getD s 0 ≤ v ∧ ∀ i,i < j → (t.getD i ⟨0,0⟩).sat = s → l.getD i 0 + od7 x s ≤ v
theorem ky7 (x:ba7) (t:List da7) (l:List Int):∀ j,(wn7 x t l false j).ok = false
 | 0=>rfl
 | j + 1=>by simp only [wn7,jv7,ky7 x t l j,Bool.false_and]
theorem rab7 (x:ba7) (t:List da7) (l:List Int):do7 x t l false = false:=by
 unfold do7 wmb7
 rw [ky7,Bool.false_and]
theorem ub7 {α:Type} {l:List α} {k:Nat} (h:k < l.length) (z:α):l.getD k z ∈ l:=by
 rw [List.getD_eq_getElem?_getD,List.getElem?_eq_getElem h]; exact List.getElem_mem h
theorem fv7 {x:ba7} (gd:Good x) {t:List da7} {l ready:List Int} (ht:∀ s ∈ t,de7 x s) (hl:ready.length = x.sats.length):∀ j,j ≤ t.length →
  match cf7 x t l ready j with
  | none=>(wn7 x t l true j).ok = false
  | some st=>pdc7 x t l ready j st
 | 0,_=>⟨rfl,rfl,rfl,Int.le_refl _,rfl,fun s _ v=>⟨fun h=>⟨h,fun i hi=>absurd hi (Nat.not_lt_zero _)⟩,fun h=>h.1⟩⟩
 | j + 1,hj=>by
  have ih:=fv7 gd (l:=l) ht hl j (by omega)
  simp only [cf7]
  cases hq:cf7 x t l ready j with
  | none =>
   rw [hq] at ih
   show (wn7 x t l true (j + 1)).ok = false
   simp only [wn7,jv7,ih,Bool.false_and]
  | some st =>
   rw [hq] at ih
   have hm:=ub7 (l:=t) (k:=j) (by omega) ⟨0,0⟩
   have hs:=(ht _ hm).1
   have ht0:=(nb7 gd st.node (1 + (t.getD j ⟨0,0⟩).sat)).1
   simp only [Option.bind_some]
   unfold sx7 mp7
   by_cases hc:st.now + va7 x st.node (1 + (t.getD j ⟨0,0⟩).sat) ≤ l.getD j 0 ∧ l.getD j 0 ≤ x.fin
   ·rw [if_pos (by rw [decide_eq_true hc.1,decide_eq_true hc.2]; rfl)]
    have h1:=ih.now
    have h2:=ih.node
    have h3:=ih.lo
    refine ⟨rfl,rfl, ?_, ?_, ?_,fun s hsl v => ?_⟩
    ·simp only [wn7,jv7,ih.ok, ← h1, ← h2,Bool.true_and]
     rw [decide_eq_true (by omega),decide_eq_true (by omega),decide_eq_true (by omega)]; rfl
    ·show 0 ≤ l.getD j 0; omega
    ·show (st.ready.set _ _).length = _; rw [List.length_set]; exact ih.len
    ·have hlen:=ih.len
     show (st.ready.set _ _).getD s 0 ≤ v ↔ _
     rw [cv7 _ _ _ _ _ (by omega)]
     have hr:=ih.rdy s hsl v
     by_cases e:(t.getD j ⟨0,0⟩).sat.toNat = s
     ·have e':(t.getD j ⟨0,0⟩).sat = s:=by omega
      rw [if_pos e,e,e']
      constructor
      ·intro h
       have h':=hr.1 (by omega)
       refine ⟨h'.1,fun i hi hsat => ?_⟩
       by_cases hij:i = j
       ·subst hij; omega
       ·exact h'.2 i (by omega) hsat
      ·intro h
       have h1:=hr.2 ⟨h.1,fun i hi hsat=>h.2 i (by omega) hsat⟩
       have h2:=h.2 j (by omega) e'
       omega
     ·rw [if_neg e,hr]
      refine and_congr Iff.rfl ⟨fun h i hi hsat => ?_,fun h i hi hsat=>h i (by omega) hsat⟩
      by_cases hij:i = j
      ·subst hij; omega
      ·exact h i (by omega) hsat
   ·rw [if_neg (fun h=>hc (by simpa using h))]
    show (wn7 x t l true (j + 1)).ok = false
    simp only [wn7,jv7,ih.ok, ← ih.now, ← ih.node,Bool.true_and]
    rw [Bool.eq_false_iff]
    intro h
    simp only [Bool.and_eq_true,decide_eq_true_eq] at h
    exact hc (by omega)
theorem yhb7 {x:ba7} (gd:Good x) {t:List da7} {l ready:List Int} (ht:∀ s ∈ t,de7 x s) (hl:ready.length = x.sats.length) :
  match zj7 x t l ready with
  | none=>do7 x t l true = false
  | some r=>do7 x t l true = true ∧ r.length = ready.length ∧ ∀ s,s < ready.length → ∀ v,r.getD s 0 ≤ v ↔ ready.getD s 0 ≤ v ∧ ∀ i,i < t.length → (t.getD i ⟨0,0⟩).sat = s → l.getD i 0 + od7 x s ≤ v:=by
 have h:=fv7 gd (l:=l) ht hl t.length (Nat.le_refl _)
 unfold zj7 do7 wmb7
 cases hq:cf7 x t l ready t.length with
 | none =>
  rw [hq] at h
  show ((wn7 x t l true t.length).ok && _) = false
  rw [show (wn7 x t l true t.length).ok = false from h,Bool.false_and]
 | some st =>
  rw [hq] at h
  simp only [Option.bind_some,h.ok, ← h.now, ← h.node,Bool.true_and]
  have ht0:=(nb7 gd st.node 0).1
  by_cases hc:st.now + va7 x st.node 0 ≤ x.fin
  ·rw [if_pos hc]
   exact ⟨by rw [decide_eq_true hc,decide_eq_true (by omega)]; rfl,h.len,h.rdy⟩
  ·rw [if_neg hc]
   show (_ && _) = false
   rw [decide_eq_false hc,Bool.and_false]
theorem fs7 {x:ba7} {p:sa7} {t:qb7} (hok:ov7 x p):∀ k,k ≤ p.trucks.length →
  match xd7 x p t k with
  | none=>fc7 x p t k = false
  | some r=>fc7 x p t k = true ∧ r.length = x.sats.length ∧ ∀ s,s < x.sats.length → ∀ v,r.getD s 0 ≤ v ↔ 0 ≤ v ∧ ∀ m,m < k → ∀ i,i < (p.trucks.getD m []).length → ((p.trucks.getD m []).getD i ⟨0,0⟩).sat = s → (t.trucks.getD m []).getD i 0 + od7 x s ≤ v
 | 0,_=>⟨rfl,List.length_replicate,fun s hs v=>by
  have e:(List.replicate x.sats.length (0:Int)).getD s 0 = 0:=by simp only [List.getD_eq_getElem?_getD,List.getElem?_replicate]; split <;> rfl
  rw [e]
  exact ⟨fun h=>⟨h,fun m hm=>absurd hm (Nat.not_lt_zero _)⟩,fun h=>h.1⟩⟩
 | k + 1,hk=>by
  have ih:=fs7 (t:=t) hok k (by omega)
  simp only [xd7,fc7]
  cases hq:xd7 x p t k with
  | none =>
   rw [hq] at ih
   show do7 _ _ _ _ = false
   rw [show fc7 x p t k = false from ih,rab7]
  | some r =>
   rw [hq] at ih
   obtain ⟨i1,i2,i3⟩:=ih
   have hm:=ub7 (l:=p.trucks) (k:=k) (by omega) []
   have h:=yhb7 (te7 hok.inst) (l:=t.trucks.getD k []) (hok.truck _ hm).2 i2
   simp only [Option.bind_some,i1]
   cases hc:zj7 x (p.trucks.getD k []) (t.trucks.getD k []) r with
   | none=>rw [hc] at h; exact h
   | some r' =>
    rw [hc] at h
    obtain ⟨h1,h2,h3⟩:=h
    refine ⟨h1,by omega,fun s hs v => ?_⟩
    rw [h3 s (by omega) v,i3 s hs v,and_assoc]
    refine and_congr Iff.rfl ⟨fun h m hm => ?_,fun h=>⟨fun m hm=>h m (by omega),h k (by omega)⟩⟩
    by_cases e:m = k
    ·subst e; exact h.2
    ·exact h.1 m (by omega)
theorem kq7 {x:ba7} {sat out:Int} {t:List da7} {l:List Int} {ok:Bool}:∀ j,xh7 x sat out t l ok j = true ↔ ok = true ∧ ∀ i,i < j → (t.getD i ⟨0,0⟩).sat = sat → l.getD i 0 + od7 x sat ≤ out
 | 0=>⟨fun h=>⟨h,fun i hi=>absurd hi (Nat.not_lt_zero _)⟩,fun h=>h.1⟩
 | j + 1=>by
  simp only [xh7,Bool.and_eq_true,kq7 j,gt7,Bool.or_eq_true,decide_eq_true_eq,and_assoc]
  refine and_congr Iff.rfl ⟨fun h i hi hs => ?_,fun h=>⟨fun i hi=>h i (by omega), ?_⟩⟩
  ·by_cases e:i = j
   ·subst e; rcases h.2 with h2 | h2
    ·exact absurd hs h2
    ·exact h2
   ·exact h.1 i (by omega) hs
  ·by_cases e:(t.getD j ⟨0,0⟩).sat = sat
   ·exact .inr (h j (by omega) e)
   ·exact .inl e
theorem kj7 {x:ba7} {p:sa7} {t:qb7} {sat out:Int} {ok:Bool}:∀ k,oe7 x p t sat out ok k = true ↔ ok = true ∧ ∀ m,m < k → ∀ i,i < (p.trucks.getD m []).length → ((p.trucks.getD m []).getD i ⟨0,0⟩).sat = sat → (t.trucks.getD m []).getD i 0 + od7 x sat ≤ out
 | 0=>⟨fun h=>⟨h,fun i hi=>absurd hi (Nat.not_lt_zero _)⟩,fun h=>h.1⟩
 | k + 1=>by
  simp only [oe7,kq7,kj7 k,and_assoc]
  refine and_congr Iff.rfl ⟨fun h m hm => ?_,fun h=>⟨fun m hm=>h m (by omega),h k (by omega)⟩⟩
  by_cases e:m = k
  ·subst e; exact h.2
  ·exact h.1 m (by omega)
theorem yrb7 {x:ba7} {p:sa7} {t:qb7} {r:List Int} {b:pa7} {q:zc7} (hr:∀ s,s < x.sats.length → ∀ v,r.getD s 0 ≤ v ↔ 0 ≤ v ∧ ∀ m,m < p.trucks.length → ∀ i,i < (p.trucks.getD m []).length → ((p.trucks.getD m []).getD i ⟨0,0⟩).sat = s → (t.trucks.getD m []).getD i 0 + od7 x s ≤ v)
  (hb:0 ≤ b.sat ∧ b.sat < x.sats.length) (ok:Bool):kpb7 x p t b q ok = (ok && mp7 q.out (r.getD b.sat.toNat 0) x.fin):=by
 have h:=hr b.sat.toNat (by omega) q.out
 rw [Int.toNat_of_nonneg hb.1] at h
 rw [Bool.eq_iff_iff]
 unfold kpb7 mp7
 rw [kj7]
 simp only [Bool.and_eq_true,decide_eq_true_eq,h]
 constructor
 ·rintro ⟨⟨h1,h2,h3⟩,h4⟩; exact ⟨h1,⟨h2,h4⟩,h3⟩
 ·rintro ⟨h1,⟨h2,h4⟩,h3⟩; exact ⟨⟨h1,h2,h3⟩,h4⟩
theorem gdb7 {x:ba7} {b:pa7} {r:zc7}:∀ j,mcb7 x b r true j = uh7 x b r j
 | 0=>rfl
 | j + 1=>by
  simp only [mcb7,uh7,gdb7 j]
  congr 1
  funext st
  unfold gcb7 ugb7 mx7 mp7
  by_cases hc:(tb7 x (b.stops.getD j 0)).opn ≤ r.starts.getD j 0 ∧ r.starts.getD j 0 ≤ (tb7 x (b.stops.getD j 0)).cls ∧ r.starts.getD j 0 ≤ x.fin ∧ va7 x st.node (1 + x.sats.length + b.stops.getD j 0) ≤ r.starts.getD j 0 - st.now
  ·rw [if_pos (by simpa using hc),if_pos]
   simp only [Bool.and_eq_true,decide_eq_true_eq]
   omega
  ·rw [if_neg (by simpa using hc),if_neg]
   simp only [Bool.and_eq_true,decide_eq_true_eq]
   intro h
   exact hc (by omega)
theorem br7 {x:ba7} {b:pa7} {r:zc7}:∀ j,0 < j → mcb7 x b r false j = none
 | 1,_=>rfl
 | j + 2,_=>by
  rw [mcb7,br7 (j + 1) (by omega)]; rfl
theorem aw7 {x:ba7} {p:sa7} {t:qb7} {r:List Int} (gd:Good x) (hok:∀ b ∈ p.bikes,pm7 x b) (hr:∀ s,s < x.sats.length → ∀ v,r.getD s 0 ≤ v ↔ 0 ≤ v ∧ ∀ m,m < p.trucks.length → ∀ i,i < (p.trucks.getD m []).length → ((p.trucks.getD m []).getD i ⟨0,0⟩).sat = s → (t.trucks.getD m []).getD i 0 + od7 x s ≤ v):∀ k,k ≤ p.bikes.length →
  (match gi7 x p t k with
   | none=>false
   | some b=>b) = nm7 x p t r k
 | 0,_=>rfl
 | k + 1,hk=>by
  have ih:=aw7 (t:=t) gd hok hr k (by omega)
  have hm:=ub7 (l:=p.bikes) (k:=k) (by omega) ⟨0,[]⟩
  have hb:=hok _ hm
  unfold nm7 at ih ⊢
  rw [nt7, ← ih]
  simp only [gi7]
  cases hq:gi7 x p t k with
  | none=>rfl
  | some ok =>
   simp only [Option.bind_some]
   rw [yrb7 hr hb.1]
   cases ok
   ·simp only [Bool.false_and]
    rw [br7 _ hb.2.1]; rfl
   ·simp only [Bool.true_and]
    unfold bbb7
    cases hw:mp7 (cm7 t k).out (r.getD (p.bikes.getD k ⟨0,[]⟩).sat.toNat 0) x.fin
    ·rw [br7 _ hb.2.1]; rfl
    ·rw [gdb7]
     cases uh7 x (p.bikes.getD k ⟨0,[]⟩) (cm7 t k) (p.bikes.getD k ⟨0,[]⟩).stops.length with
     | none=>rfl
     | some st =>
      show phb7 _ _ _ _ _ = _
      simp only [Bool.true_and]
      have ht0:=(nb7 gd st.node (1 + (p.bikes.getD k ⟨0,[]⟩).sat)).1
      unfold phb7 mp7
      rw [Bool.eq_iff_iff]
      simp only [Bool.and_eq_true,decide_eq_true_eq,true_and]
      omega
theorem ptb7 {x:ba7} {p:sa7} (t:qb7) (hok:ov7 x p):jvb7 x p t = otb7 x p t:=by
 have h:=fs7 (t:=t) hok p.trucks.length (Nat.le_refl _)
 unfold jvb7 otb7
 cases hq:xd7 x p t p.trucks.length with
 | none =>
  rw [hq] at h
  rw [show fc7 x p t p.trucks.length = false from h,Bool.false_and]
 | some r =>
  rw [hq] at h
  obtain ⟨h1,h2,h3⟩:=h
  rw [h1,Bool.true_and]
  exact aw7 (te7 hok.inst) hok.bike h3 _ (Nat.le_refl _)
structure uw7 (TR TI:Nat) (w:World) (B:Nat) (v:Value) (out:List (List Int)) (vs:List Value):Prop where
 own:w.ownsRow B TR 1 v out.length vs
 len:vs.length = out.length
 rows:∀ i (h:i < out.length) (h':i < vs.length),w.ownsRow B TI 1 vs[i] out[i].length (out[i].map wa7)
section
variable {TR TI:Nat} {w w':World} {B:Nat} {v v' u:Value} {out:List (List Int)} {vs:List Value}
theorem uw7.nil (TR TI:Nat) (w:World) (B:Nat):uw7 TR TI w B (.slice none 0 0) [] [] :=
 ⟨World.ownsRow_nil _ _ _ _,rfl,fun _ h=>absurd h (Nat.not_lt_zero _)⟩
theorem uw7.below (h:uw7 TR TI w B v out vs) (hb:Below w.heap.size w w'):uw7 TR TI w' B v out vs :=
 ⟨oa7 h.own hb,h.len,fun i h1 h2=>oa7 (h.rows i h1 h2) hb⟩
theorem uw7.blockLt (h:uw7 TR TI w B v out vs):∀ i (hi:i < vs.length) b,vs[i].ownBlock = some b → B ≤ b ∧ b < w.heap.size:=fun i hi b hb =>
 (h.rows i (by rw [← h.len]; exact hi) hi).lt b hb
theorem uw7.keptSet {TP p j:Nat} {cs:List Value} (h:uw7 TR TI w B v out vs) (hr:Row w p TP cs) (h1:TP ≠ TR) (h2:TP ≠ TI):uw7 TR TI (w.setCell ⟨p,j,none⟩ u) B v out vs :=
 ⟨ma7 h.own hr h1 j u,h.len,fun i k1 k2=>ma7 (h.rows i k1 k2) hr h2 j u⟩
theorem uw7.mono {B':Nat} (h:uw7 TR TI w B v out vs) (hb:B' ≤ B):uw7 TR TI w B' v out vs :=
 ⟨uc7 h.own hb,h.len,fun i h1 h2=>uc7 (h.rows i h1 h2) hb⟩
theorem uw7.keptOwn {T k n B':Nat} {x:Value} {xs:List Value} (h:uw7 TR TI w B v out vs) (ho:w.ownsRow B' T k x n xs) (hg:w.grownBy w' x.ownBlock) (h1:TR ≠ T) (h2:TI ≠ T):uw7 TR TI w' B v out vs :=
 ⟨h.own.kept hg (db7 h.own ho h1),h.len,fun i k1 k2=>(h.rows i k1 k2).kept hg (db7 (h.rows i k1 k2) ho h2)⟩
theorem uw7.push {t:List Int} (h:uw7 TR TI w B v out vs) (hne:TI ≠ TR) (hg:w.grownBy w' v.ownBlock) (ho:w'.ownsRow B TR 1 v' (out.length + 1) (vs ++ [u])) (hu:w.ownsRow B TI 1 u t.length (t.map wa7)):uw7 TR TI w' B v' (out ++ [t]) (vs ++ [u]):=by
 refine ⟨by rw [List.length_append]; exact ho,by simp [h.len],fun i h1 h2 => ?_⟩
 by_cases hl:i < out.length
 ·have hl':i < vs.length:=by rw [h.len]; exact hl
  rw [List.getElem_append_left hl',List.getElem_append_left hl]
  exact (h.rows i hl hl').kept hg (db7 (h.rows i hl hl') h.own hne)
 ·have:i = out.length:=by simp at h1; omega
  subst this
  have e1:(vs ++ [u])[out.length]'h2 = u:=by rw [List.getElem_append_right (by rw [h.len]; exact Nat.le_refl _)]; simp [h.len]
  have e2:(out ++ [t])[out.length]'h1 = t:=by rw [List.getElem_append_right (Nat.le_refl _)]; simp
  rw [e1,e2]
  exact hu.kept hg (db7 hu h.own hne)
theorem uw7.rep (h:uw7 TR TI w B v out vs) (hw:∀ t ∈ out, ∀ s ∈ t,ua7 s):kh7.rep w (fun b=>B ≤ b) out [v]:=by
 have hr:∀ i (h1:i < out.length) (h2:i < vs.length),(la7 ig7).rep w (fun b=>B ≤ b) out[i] [vs[i]]:=fun i h1 h2=>pj7 (h.rows i h1 h2) (hw _ (List.getElem_mem h1))
 rcases h.own.2 with ⟨rfl,hn⟩ | ⟨g,cap,cur,rfl,hg,hh,hn1,hc,hsz,ht⟩
 ·have:out = []:=List.eq_nil_of_length_eq_zero hn
  subst this
  exact nh7 _ _ _
 ·have hR:Row w g TR vs:=⟨cur,cur.toList.drop (out.length * 1),hh,by rw [← ht,List.take_append_drop]⟩
  refine ur7 (S:=la7 ig7) (T:=TR) (vs.map fun v=>[v]) (by simp [h.len]) (fun v hv=>by obtain ⟨u,_,rfl⟩:=List.mem_map.1 hv; rfl) (fun i h1 h2 => ?_) ?_ hn1 hc hg
  ·rw [List.getElem_map]; exact hr i h1 _
  ·have:(vs.map fun v=>[v]).flatten = vs:=by
    clear hR ht hr h
    induction vs with
    | nil=>rfl
    | cons a l ih=>rw [List.map_cons,List.flatten_cons,ih]; rfl
   rw [this]; exact hR
end
theorem nw7.blockLt {TR TI:Nat} {w:World} {B:Nat} {v:Value} {out:List zc7} {vs:List Value} (h:nw7 TR TI w B v out vs):∀ i (hi:i < vs.length) b,vs[i].ownBlock = some b → B ≤ b ∧ b < w.heap.size:=fun i hi b hb =>
 (h.rows i (by rw [← h.len]; exact hi) hi).lt b hb
theorem nw7.mono {TR TI:Nat} {w:World} {B B':Nat} {v:Value} {out:List zc7} {vs:List Value} (h:nw7 TR TI w B v out vs) (hb:B' ≤ B):nw7 TR TI w B' v out vs :=
 ⟨uc7 h.own hb,h.len,fun i h1 h2=>uc7 (h.rows i h1 h2) hb⟩
def Sep (vs:List Value):Prop:=vs.Pairwise fun a b=>a.ownBlock = none ∨ a.ownBlock ≠ b.ownBlock
theorem Sep.nil:Sep []:=List.Pairwise.nil
theorem Sep.push {vs:List Value} {u:Value} {n:Nat} (h:Sep vs) (hv:∀ a ∈ vs, ∀ b,a.ownBlock = some b → b < n) (hu:∀ b,u.ownBlock = some b → n ≤ b):Sep (vs ++ [u]):=by
 refine List.pairwise_append.2 ⟨h,List.pairwise_singleton _ _,fun a ha b hb => ?_⟩
 obtain rfl:=List.mem_singleton.1 hb
 cases e:a.ownBlock with
 | none=>exact .inl rfl
 | some k=>exact .inr fun e'=>by have:=hv a ha k e; have:=hu k e'.symm; omega
structure gs7 (x:ba7) (p:sa7):Prop where
 good:Good x
 tl:p.trucks.length ≤ 100000
 t1:∀ t ∈ p.trucks,t.length ≤ 100000 ∧ ∀ s ∈ t,0 ≤ s.sat ∧ s.sat < x.sats.length
 bl:p.bikes.length ≤ 100000
 b1:∀ b ∈ p.bikes,b.stops.length ≤ 100000 ∧ (0 ≤ b.sat ∧ b.sat < x.sats.length) ∧ ∀ c ∈ b.stops,bc7 x c
structure irb7 (x:ba7) (st:SnT):Prop where
 now:0 ≤ st.now ∧ st.now ≤ st.l.length * 1000000000
 node:0 ≤ st.node ∧ st.node < nodes x
 len:st.ready.length = x.sats.length
 rdy:∀ v ∈ st.ready,0 ≤ v ∧ v ≤ 200000000000000
 l:∀ v ∈ st.l,0 ≤ v ∧ v ≤ st.l.length * 1000000000
theorem irb7.get {x:ba7} {st:SnT} (h:irb7 x st) (i:Nat):0 ≤ st.ready.getD i 0 ∧ st.ready.getD i 0 ≤ 200000000000000:=by
 rw [List.getD_eq_getElem?_getD]
 by_cases e:i < st.ready.length
 ·rw [List.getElem?_eq_getElem e]; exact h.rdy _ (List.getElem_mem e)
 ·rw [List.getElem?_eq_none (by omega)]; simp
theorem irb7.step {x:ba7} (gd:Good x) {st:SnT} {s:da7} (h:irb7 x st) (hl:st.l.length ≤ 100000) (hs:0 ≤ s.sat ∧ s.sat < x.sats.length):irb7 x (dc7 x st s):=by
 have h1:=h.now
 have h2:=nb7 gd st.node (1 + s.sat)
 have h3:=go7 gd s.sat
 have h4:=h.get s.sat.toNat
 have hlen:(dc7 x st s).l.length = st.l.length + 1:=by simp [dc7]
 refine ⟨?_, ?_, ?_,fun v hv => ?_,fun v hv => ?_⟩
 ·rw [hlen]; show 0 ≤ st.now + _ ∧ st.now + _ ≤ _; push_cast; omega
 ·show 0 ≤ 1 + s.sat ∧ 1 + s.sat < (nodes x:Int); unfold nodes; omega
 ·show (st.ready.set _ _).length = _; rw [List.length_set]; exact h.len
 ·rcases List.mem_or_eq_of_mem_set hv with hv | rfl
  ·exact h.rdy _ hv
  ·omega
 ·rw [hlen]
  rcases List.mem_append.1 (show v ∈ st.l ++ [st.now + va7 x st.node (1 + s.sat)] from hv) with hv | hv
  ·have:=h.l v hv; push_cast; omega
  ·obtain rfl:=List.mem_singleton.1 hv
   push_cast; omega
theorem mo7 {x:ba7} (gd:Good x) {t:List da7} {st:SnT} (h:irb7 x st) (hl:st.l = []) (ht:t.length ≤ 100000 ∧ ∀ s ∈ t,0 ≤ s.sat ∧ s.sat < x.sats.length):∀ j,j ≤ t.length → irb7 x ((t.take j).foldl (dc7 x) st) ∧ ((t.take j).foldl (dc7 x) st).l.length = j
 | 0,_=>⟨h,by simp [hl]⟩
 | j + 1,hj=>by
  obtain ⟨h1,h2⟩:=mo7 gd h hl ht j (by omega)
  rw [ui7 (show j < t.length by omega),List.foldl_append]
  exact ⟨h1.step gd (by omega) (ht.2 _ (List.getElem_mem _)),by simp [dc7,h2]⟩
structure fbc7 (x:ba7) (a:SnA):Prop where
 len:a.ready.length = x.sats.length
 rdy:∀ v ∈ a.ready,0 ≤ v ∧ v ≤ 200000000000000
 ts:∀ l ∈ a.ts, ∀ v ∈ l,0 ≤ v ∧ v ≤ 200000000000000
theorem fbc7.start (x:ba7) (a:SnA) (h:fbc7 x a):irb7 x ⟨0,0,a.ready,[]⟩ :=
 ⟨⟨Int.le_refl _,by simp⟩,⟨Int.le_refl _,by show (0:Int) < (nodes x:Int); unfold nodes; omega⟩,h.len,h.rdy,fun v hv=>by cases hv⟩
theorem dj7 {x:ba7} {p:sa7} (h:gs7 x p):∀ k,k ≤ p.trucks.length → fbc7 x (jb7 x (p.trucks.take k)) ∧ (jb7 x (p.trucks.take k)).ts.length = k
 | 0,_=>⟨⟨List.length_replicate,fun v hv=>by rw [List.eq_of_mem_replicate hv]; omega,fun l hl=>by cases hl⟩,rfl⟩
 | k + 1,hk=>by
  obtain ⟨h1,h2⟩:=dj7 h k (by omega)
  have ht:=h.t1 _ (List.getElem_mem (show k < p.trucks.length by omega))
  obtain ⟨g1,g2⟩:=mo7 h.good (h1.start x _) rfl ht _ (Nat.le_refl _)
  rw [List.take_length] at g1 g2
  have e:jb7 x (p.trucks.take (k + 1)) = zd7 x (jb7 x (p.trucks.take k)) p.trucks[k]:=by
   unfold jb7
   rw [ui7 (show k < p.trucks.length by omega),List.foldl_append]; rfl
  rw [e]
  refine ⟨⟨g1.len,g1.rdy,fun l hl v hv => ?_⟩,by simp [zd7,h2]⟩
  rcases List.mem_append.1 hl with hl | hl
  ·exact h1.ts l hl v hv
  ·obtain rfl:=List.mem_singleton.1 hl
   have:=g1.l v hv
   rw [g2] at this
   have:=ht.1
   omega
structure aub7 (x:ba7) (st:SnB):Prop where
 now:0 ≤ st.now ∧ st.now ≤ 300000000000000 + st.starts.length * 3000000000
 node:0 ≤ st.node ∧ st.node < nodes x
 l:∀ v ∈ st.starts,0 ≤ v ∧ v ≤ 300000000000000 + st.starts.length * 3000000000
theorem aub7.step {x:ba7} (gd:Good x) {st:SnB} {c:Int} (h:aub7 x st) (hl:st.starts.length ≤ 100000) (hc:bc7 x c):aub7 x (ec7 x st c):=by
 have h1:=h.now
 have h2:=nb7 gd st.node (1 + x.sats.length + c)
 have h3:=ot7 gd hc
 have hlen:(ec7 x st c).starts.length = st.starts.length + 1:=by simp [ec7]
 refine ⟨?_, ?_,fun v hv => ?_⟩
 ·rw [hlen]; show 0 ≤ max _ _ + _ ∧ max _ _ + _ ≤ _; push_cast; omega
 ·show 0 ≤ 1 + (x.sats.length:Int) + c ∧ 1 + (x.sats.length:Int) + c < (nodes x:Int); unfold nodes bc7 at *; omega
 ·rw [hlen]
  rcases List.mem_append.1 (show v ∈ st.starts ++ [max (st.now + va7 x st.node (1 + x.sats.length + c)) (tb7 x c).opn] from hv) with hv | hv
  ·have:=h.l v hv; push_cast; omega
  ·obtain rfl:=List.mem_singleton.1 hv
   push_cast; omega
theorem xo7 {x:ba7} (gd:Good x) {t:List Int} {st:SnB} (h:aub7 x st) (hl:st.starts = []) (ht:t.length ≤ 100000 ∧ ∀ c ∈ t,bc7 x c):∀ j,j ≤ t.length → aub7 x ((t.take j).foldl (ec7 x) st) ∧ ((t.take j).foldl (ec7 x) st).starts.length = j
 | 0,_=>⟨h,by simp [hl]⟩
 | j + 1,hj=>by
  obtain ⟨h1,h2⟩:=xo7 gd h hl ht j (by omega)
  rw [ui7 (show j < t.length by omega),List.foldl_append]
  exact ⟨h1.step gd (by omega) (ht.2 _ (List.getElem_mem _)),by simp [ec7,h2]⟩
theorem au7 {x:ba7} {ready:List Int} {b:pa7} (hl:ready.length = x.sats.length) (hr:∀ v ∈ ready,0 ≤ v ∧ v ≤ 200000000000000) (hb:0 ≤ b.sat ∧ b.sat < x.sats.length):aub7 x ⟨ready.getD b.sat.toNat 0,1 + b.sat,[]⟩:=by
 have h1:b.sat.toNat < ready.length:=by omega
 have h2:=hr _ (ub7 h1 0)
 exact ⟨by show 0 ≤ ready.getD b.sat.toNat 0 ∧ ready.getD b.sat.toNat 0 ≤ _; omega,by show 0 ≤ 1 + b.sat ∧ 1 + b.sat < (nodes x:Int); unfold nodes; omega,fun v hv=>by cases hv⟩
theorem nob7 {x:ba7} {p:sa7} (h:gs7 x p):(∀ t ∈ (za7 x p).trucks, ∀ v ∈ t,0 ≤ v ∧ v ≤ 1000000000000000) ∧ ∀ r ∈ (za7 x p).bikes,(0 ≤ r.out ∧ r.out ≤ 1000000000000000) ∧ (0 ≤ r.back ∧ r.back ≤ 1000000000000000) ∧ ∀ v ∈ r.starts,0 ≤ v ∧ v ≤ 1000000000000000:=by
 have hT:=(dj7 h p.trucks.length (Nat.le_refl _)).1
 rw [List.take_length] at hT
 refine ⟨fun t ht v hv=>by have:=hT.ts t ht v hv; omega,fun r hr => ?_⟩
 obtain ⟨b,hb,rfl⟩:=List.mem_map.1 (show r ∈ p.bikes.map (xg7 x (jb7 x p.trucks).ready) from hr)
 obtain ⟨h1,h2,h3⟩:=h.b1 b hb
 have hs:=au7 (b:=b) hT.len hT.rdy h2
 obtain ⟨g1,g2⟩:=xo7 h.good hs rfl ⟨h1,h3⟩ _ (Nat.le_refl _)
 rw [List.take_length] at g1 g2
 have g3:=g1.now
 have g4:=hs.now
 have g5:=nb7 h.good (b.stops.foldl (ec7 x) ⟨(jb7 x p.trucks).ready.getD b.sat.toNat 0,1 + b.sat,[]⟩).node (1 + b.sat)
 rw [g2] at g3
 refine ⟨?_, ?_,fun v hv => ?_⟩
 ·show 0 ≤ (jb7 x p.trucks).ready.getD b.sat.toNat 0 ∧ (jb7 x p.trucks).ready.getD b.sat.toNat 0 ≤ _
  simp only [List.length_nil] at g4; omega
 ·show 0 ≤ _ + va7 x _ _ ∧ _ + va7 x _ _ ≤ _
  unfold md7; omega
 ·have:=g1.l v hv
  rw [g2] at this; omega
theorem imb7 {w:World} {x:ba7} {q:Nat} {a:Option Addr} {c1:Nat} {s:Int} (h3:w.cell? ⟨q,5,none⟩ = some (.slice a x.sats.length c1)) :
  Calls Try.prog 26 #[.int .i64 s, .pointer (some ⟨q,0,none⟩)] w fun e w'=>e = .returned (.bool (decide (0 ≤ s) && decide (s < x.sats.length))) ∧ w' = w:=by
 by_cases e1:0 ≤ s
 ·by_cases e2:s < x.sats.length
  all_goals
   go_enter Try.func26,Try.ntmps26
   go_wp2
   go_ret
   exact ⟨by simp [e1,e2],rfl⟩
 ·go_enter Try.func26,Try.ntmps26
  go_wp2
  go_ret
  exact ⟨by rw [decide_eq_false (by omega),Bool.false_and]; rfl,rfl⟩
def tcb7 (m:Nat) (pre:List da7):Prop:=(∀ o ∈ pre,0 ≤ o.sat) ∧ ∀ i,m.testBit i = pre.any (fun o=>o.sat.toNat == i)
theorem tcb7.nil:tcb7 0 []:=⟨fun _ h=>(List.not_mem_nil h).elim,fun i=>by simp⟩
theorem tcb7.push {m:Nat} {pre:List da7} {s:da7} (h:tcb7 m pre) (hs:0 ≤ s.sat):tcb7 (m ||| 2 ^ s.sat.toNat) (pre ++ [s]):=by
 refine ⟨fun o ho => ?_,fun i => ?_⟩
 ·rcases List.mem_append.1 ho with ho | ho
  ·exact h.1 o ho
  ·rw [List.mem_singleton.1 ho]; exact hs
 ·rw [Nat.testBit_or,Nat.testBit_two_pow,h.2 i,List.any_append,List.any_cons,List.any_nil,Bool.or_false]
  congr 1
def rg7 (x:ba7) (s:Int):Bool:=decide (0 ≤ s) && decide (s < x.sats.length)
def ni7 (x:ba7) (pre:List da7) (s:da7):Bool:=((rg7 x s.sat && decide (1 ≤ s.load)) && decide (s.load ≤ 1000000000)) && pre.all (fun o=>o.sat != s.sat)
theorem ms7 {x:ba7} {m:Nat} {pre:List da7} {s:da7} (h:tcb7 m pre):ni7 x pre s = !td7 x m s:=by
 by_cases h0:0 ≤ s.sat
 ·have e:m.testBit s.sat.toNat = !pre.all (fun o=>o.sat != s.sat):=by
   rw [h.2,List.not_all_eq_any_not]
   rw [Bool.eq_iff_iff,List.any_eq_true,List.any_eq_true]
   constructor
   ·rintro ⟨o,ho,e⟩
    refine ⟨o,ho, ?_⟩
    have:=h.1 o ho
    simp at e ⊢; omega
   ·rintro ⟨o,ho,e⟩
    refine ⟨o,ho, ?_⟩
    have:=h.1 o ho
    simp at e ⊢; omega
  unfold ni7 td7 rg7
  rw [e,Bool.eq_iff_iff]
  simp only [Bool.and_eq_true,decide_eq_true_eq,Bool.not_eq_true',Bool.or_eq_false_iff,decide_eq_false_iff_not,Bool.not_eq_false']
  constructor
  ·rintro ⟨⟨⟨h1,h2⟩,h3⟩,h4⟩
   exact ⟨⟨⟨⟨by omega,by omega⟩,h4⟩,by omega⟩,by omega⟩
  ·rintro ⟨⟨⟨⟨h1,h2⟩,h4⟩,h3⟩,h5⟩
   exact ⟨⟨⟨⟨by omega,by omega⟩,by omega⟩,by omega⟩,h4⟩
 ·unfold ni7 td7 rg7
  rw [decide_eq_false h0,decide_eq_true (show s.sat < 0 by omega)]; simp
theorem ev7 {x:ba7} {pre:List da7} {s:da7} (h:ni7 x pre s = true):de7 x s:=by
 simp only [ni7,rg7,Bool.and_eq_true,decide_eq_true_eq] at h
 exact ⟨h.1.1.1,h.1.1.2,h.1.2⟩
theorem ep7 (x:ba7):∀ (l:List (List da7)) (ld:Bool),(bf7 x l false ld).1 = false
 | [],_=>rfl
 | t :: ts,ld=>by
  unfold bf7
  cases vi7 x t with
  | none=>rfl
  | some p=>rw [Bool.false_and]; exact ep7 x ts _
def ff7 (n:Nat):List Int:=List.replicate n 0
structure vhb7 (x:ba7) (l:List (List da7)) (k:Nat) (r ld:Bool) (out:List Int):Prop where
 len:out.length = x.sats.length
 yes:r = true → ud7 x l = bf7 x (l.drop k) true ld ∧ out = (l.take k).foldl rh7 (List.replicate x.sats.length 0) ∧ jc7 out (ya7 l k)
 no:r = false → (ud7 x l).1 = false
theorem vhb7.start (x:ba7) (l:List (List da7)):vhb7 x l 0 true true (ff7 x.sats.length) :=
 ⟨by simp [ff7],fun _=>⟨rfl,rfl,jc7.zero _⟩,fun h=>by cases h⟩
structure ku7 (x:ba7) (l:List (List da7)) (k:Nat) (t:List da7) (j:Nat) (r ld:Bool) (sum:Int) (out:List Int):Prop where
 len:out.length = x.sats.length
 sumB:0 ≤ sum ∧ sum ≤ 1000000000 * (j:Int)
 yes:r = true → (∃ m,tcb7 m (t.take j) ∧ vi7 x t = (t.drop j).foldl (cj7 x) (some (m,x.troom - sum))) ∧ ud7 x l = bf7 x (l.drop k) true ld ∧ 0 < t.length ∧
  out = (t.take j).foldl zg7 ((l.take k).foldl rh7 (List.replicate x.sats.length 0)) ∧ jc7 out (ya7 l k + j)
 no:r = false → (ud7 x l).1 = false
theorem ku7.start {x:ba7} {l:List (List da7)} {k:Nat} {r ld:Bool} {out:List Int} (h:vhb7 x l k r ld out) (hk:k < l.length):ku7 x l k l[k] 0 (r && decide (0 < l[k].length)) ld 0 out:=by
 refine ⟨h.len,by decide,fun hr => ?_,fun hr => ?_⟩
 ·simp only [Bool.and_eq_true,decide_eq_true_eq] at hr
  obtain ⟨h1,h2,h3⟩:=h.yes hr.1
  exact ⟨⟨0,tcb7.nil,by simp only [vi7,List.drop_zero,Int.sub_zero]⟩,h1,hr.2,h2,h3⟩
 ·cases r with
  | false=>exact h.no rfl
  | true =>
   have h0:l[k].length = 0:=by simpa using hr
   rw [(h.yes rfl).1,List.drop_eq_getElem_cons hk,List.eq_nil_of_length_eq_zero h0,sj7 (m:=0) (left:=x.troom) rfl]
   exact ep7 x _ _
theorem ku7.step {x:ba7} {l:List (List da7)} {k:Nat} {t:List da7} {j:Nat} {r ld:Bool} {sum:Int} {out:List Int} (h:ku7 x l k t j r ld sum out) (hj:j < t.length)
  (hr:(r && ni7 x (t.take j) t[j]) = true):ku7 x l k t (j + 1) true ld (sum + t[j].load) (zg7 out t[j]):=by
 simp only [Bool.and_eq_true] at hr
 have ho:=ev7 hr.2
 obtain ⟨⟨m,hm,ht⟩,h1,h2,h3,h4⟩:=h.yes hr.1
 have hb:=ms7 (x:=x) (s:=t[j]) hm
 rw [hr.2] at hb
 have hb2:td7 x m t[j] = false:=by simpa using hb.symm
 have hl:=ho.2
 have hs:=h.sumB
 refine ⟨by rw [io7]; exact h.len,by push_cast; omega,fun _=>⟨⟨m ||| 2 ^ t[j].sat.toNat, ?_, ?_⟩,h1,h2, ?_, ?_⟩,fun h=>by cases h⟩
 ·rw [List.take_succ_eq_append_getElem hj]; exact hm.push ho.1.1
 ·rw [ht,List.drop_eq_getElem_cons hj,List.foldl_cons,bq7 hb2,show x.troom - sum - t[j].load = x.troom - (sum + t[j].load) by omega]
 ·rw [xa7 _ _ _ _ hj, ← h3]
 ·unfold zg7
  refine h4.add ?_ ⟨by omega,hl.2⟩
  have hlt:t[j].sat.toNat < out.length:=by have:=ho.1; rw [h.len]; omega
  rw [List.getD_eq_getElem?_getD,List.getElem?_eq_getElem hlt]
  exact h4.get hlt
theorem zbb7 {x:ba7} {l:List (List da7)} {k:Nat} (hk:k < l.length) {ld:Bool} (h:vi7 x l[k] = none):(bf7 x (l.drop k) true ld).1 = false:=by
 rw [List.drop_eq_getElem_cons hk,il7 h]
theorem ku7.stop {x:ba7} {l:List (List da7)} {k:Nat} (hk:k < l.length) {j:Nat} {r ld:Bool} {sum:Int} {out:List Int} (h:ku7 x l k l[k] j r ld sum out) (hj:j < l[k].length)
  (hr:(r && ni7 x (l[k].take j) (l[k])[j]) = false):ku7 x l k l[k] (j + 1) false ld sum out:=by
 refine ⟨h.len,(by have:=h.sumB; push_cast; omega),(fun h=>by cases h),fun _ => ?_⟩
 cases r with
 | false=>exact h.no rfl
 | true =>
  rw [Bool.true_and] at hr
  obtain ⟨⟨m,hm,ht⟩,h1, -, -, -⟩:=h.yes rfl
  have hb:=ms7 (x:=x) (s:=(l[k])[j]) hm
  rw [hr] at hb
  have hb2:td7 x m (l[k])[j] = true:=by simpa using hb.symm
  rw [h1]
  refine zbb7 hk ?_
  rw [ht,List.drop_eq_getElem_cons hj,List.foldl_cons,xm7 hb2,gn7]
theorem ku7.done {x:ba7} {l:List (List da7)} {k:Nat} (hk:k < l.length) {r ld:Bool} {sum:Int} {out:List Int} (h:ku7 x l k l[k] l[k].length r ld sum out):vhb7 x l (k + 1) r (ld && decide (sum ≤ x.troom)) out:=by
 refine ⟨h.len,fun hr => ?_,h.no⟩
 obtain ⟨⟨m,hm,ht⟩,h1,h2,h3,h4⟩:=h.yes hr
 rw [List.drop_length,List.foldl_nil] at ht
 rw [List.take_length] at h3
 refine ⟨?_, ?_, ?_⟩
 ·rw [h1,List.drop_eq_getElem_cons hk,sj7 ht,decide_eq_true h2,Bool.and_true]
  congr 2
  rw [Bool.eq_iff_iff]; simp
 ·rw [xa7 _ _ _ _ hk,h3]; rfl
 ·rw [je7 hk]; exact h4
theorem ku7.start2 {x:ba7} {l:List (List da7)} {k:Nat} {t:List da7} {r ld:Bool} {out:List Int} (h:vhb7 x l k r ld out) (hk:k < l.length) (ht:t = l[k]):ku7 x l k t 0 (r && decide (0 < t.length)) ld 0 out:=by
 subst ht; exact ku7.start h hk
theorem ku7.stop2 {x:ba7} {l:List (List da7)} {k:Nat} (hk:k < l.length) {t:List da7} (ht:t = l[k]) {j:Nat} {r ld:Bool} {sum:Int} {out:List Int} (h:ku7 x l k t j r ld sum out) (hj:j < t.length)
  (hr:(r && ni7 x (t.take j) t[j]) = false):ku7 x l k t (j + 1) false ld sum out:=by
 subst ht; exact h.stop hk hj hr
theorem ku7.done2 {x:ba7} {l:List (List da7)} {k:Nat} (hk:k < l.length) {t:List da7} (ht:t = l[k]) {r ld:Bool} {sum:Int} {out:List Int} (h:ku7 x l k t t.length r ld sum out):vhb7 x l (k + 1) r (ld && decide (sum ≤ x.troom)) out:=by
 subst ht; exact h.done hk
theorem vhb7.done {x:ba7} {l:List (List da7)} {r ld:Bool} {out:List Int} (h:vhb7 x l l.length r ld out):(r = true → ud7 x l = (true,ld) ∧ out = ej7 x l) ∧ (r = false → (ud7 x l).1 = false) :=
 ⟨fun hr=>by
  obtain ⟨h1,h2, -⟩:=h.yes hr
  rw [List.drop_length] at h1
  rw [List.take_length] at h2
  exact ⟨h1,h2⟩,h.no⟩
/-! Bikes. -/
def nn7 (m n:Nat):List Int:=(List.range n).map fun i=>if m.testBit i then 1 else 0
theorem zcb7 (m n:Nat):(nn7 m n).length = n:=by simp [nn7]
theorem tv7 (m n i:Nat) (h:i < (nn7 m n).length):(nn7 m n)[i] = if m.testBit i then 1 else 0:=by simp [nn7]
theorem cob7 (m n i:Nat) (v:Int) (hv:v = 1):(nn7 m n).set i v = nn7 (m ||| 2 ^ i) n:=by
 subst hv
 refine List.ext_getElem (by simp [nn7]) fun j h1 h2 => ?_
 rw [List.getElem_set]
 simp only [nn7,List.getElem_map,List.getElem_range,Nat.testBit_or,Nat.testBit_two_pow]
 by_cases e:i = j <;> simp [e]
theorem zhb7 (n:Nat):nn7 0 n = ff7 n:=by
 refine List.ext_getElem (by simp [nn7,ff7]) fun j h1 h2 => ?_
 simp [nn7,ff7]
def et7 (x:ba7) (m:Nat) (c:Int):Bool:=((decide (0 ≤ c)) && decide (c < x.custs.length)) && !m.testBit c.toNat
theorem os7 (x:ba7) (m:Nat) (c:Int):et7 x m c = !ie7 x m c:=by
 unfold et7 ie7
 rw [Bool.eq_iff_iff]
 simp only [Bool.and_eq_true,decide_eq_true_eq,Bool.not_eq_true',Bool.or_eq_false_iff,decide_eq_false_iff_not]
 constructor
 ·rintro ⟨⟨h1,h2⟩,h3⟩
  exact ⟨⟨by omega,by omega⟩,h3⟩
 ·rintro ⟨⟨h1,h2⟩,h3⟩
  exact ⟨⟨by omega,by omega⟩,h3⟩
structure BInv (x:ba7) (l:List pa7) (tr lt:Bool) (k:Nat) (r ld:Bool) (sv out:List Int):Prop where
 len:out.length = x.sats.length
 svL:sv.length = x.custs.length
 yes:r = true → tr = true ∧ (∃ (m:Nat) (lb:Bool),ne7 x l = ki7 x (l.drop k) m lb ∧ ld = (lt && lb) ∧ sv = nn7 m x.custs.length ∧ m < 2 ^ x.custs.length) ∧ out = (l.take k).foldl (oo7 x) (List.replicate x.sats.length 0) ∧ jc7 out (kb7 l k)
 no:r = false → tr = false ∨ (ne7 x l).1 = false
theorem BInv.start (x:ba7) (l:List pa7) (tr lt:Bool):BInv x l tr lt 0 tr lt (ff7 x.custs.length) (ff7 x.sats.length) :=
 ⟨by simp [ff7],by simp [ff7],fun h=>⟨h,⟨0,true,rfl,by simp,(zhb7 _).symm,Nat.two_pow_pos _⟩,rfl,jc7.zero _⟩,fun h => .inl h⟩
structure sn7 (x:ba7) (l:List pa7) (tr lt:Bool) (k:Nat) (b:pa7) (j:Nat) (r ld:Bool) (sum:Int) (sv out:List Int):Prop where
 len:out.length = x.sats.length
 svL:sv.length = x.custs.length
 sumB:0 ≤ sum ∧ sum ≤ 1000000000 * (j:Int)
 yes:r = true → tr = true ∧ (∃ (m0 m:Nat) (lb:Bool),ne7 x l = ki7 x (l.drop k) m0 lb ∧ ld = (lt && lb) ∧ vf7 x b = false ∧ xp7 x m0 b.stops = (b.stops.drop j).foldl (ti7 x) (some (m,x.broom - sum)) ∧
  sv = nn7 m x.custs.length ∧ m < 2 ^ x.custs.length) ∧ out = (b.stops.take j).foldl (pf7 x b.sat) ((l.take k).foldl (oo7 x) (List.replicate x.sats.length 0)) ∧ jc7 out (kb7 l k + j)
 no:r = false → tr = false ∨ (ne7 x l).1 = false
theorem xk7 (x:ba7) (b:pa7):vf7 x b = !(decide (0 < b.stops.length) && rg7 x b.sat):=by
 unfold vf7 rg7
 rw [Bool.eq_iff_iff]
 simp only [Bool.or_eq_true,decide_eq_true_eq,Bool.not_eq_true',Bool.and_eq_false_iff,decide_eq_false_iff_not]
 omega
theorem sn7.start {x:ba7} {l:List pa7} {tr lt:Bool} {k:Nat} {r ld:Bool} {sv out:List Int} (h:BInv x l tr lt k r ld sv out) (hk:k < l.length) :
  sn7 x l tr lt k l[k] 0 ((r && decide (0 < l[k].stops.length)) && rg7 x l[k].sat) ld 0 sv out:=by
 refine ⟨h.len,h.svL,by decide,fun hr => ?_,fun hr => ?_⟩
 ·rw [Bool.and_assoc,Bool.and_eq_true] at hr
  obtain ⟨h0,⟨m,lb,h1,h2,h3,h4⟩,h5,h6⟩:=h.yes hr.1
  exact ⟨h0,⟨m,m,lb,h1,h2,by rw [xk7,hr.2]; rfl,by simp only [xp7,List.drop_zero,Int.sub_zero],h3,h4⟩,h5,h6⟩
 ·cases r with
  | false=>exact h.no rfl
  | true =>
   rw [Bool.true_and] at hr
   obtain ⟨h0,⟨m,lb,h1,h2,h3,h4⟩,h5,h6⟩:=h.yes rfl
   refine .inr ?_
   rw [h1,List.drop_eq_getElem_cons hk,kn7 (by rw [xk7,hr]; rfl)]
theorem sn7.addLoad_eq {x:ba7} {sat:Int} {out:List Int} {c:Int} (hs:rg7 x sat = true) (hl:out.length = x.sats.length) (hc:0 ≤ c ∧ c < x.custs.length) :
  pf7 x sat out c = out.set sat.toNat (out.getD sat.toNat 0 + (x.custs.getD c.toNat ⟨0,0,0,0⟩).load):=by
 simp only [rg7,Bool.and_eq_true,decide_eq_true_eq] at hs
 unfold pf7
 rw [if_pos (by rw [hl]; omega)]
theorem sn7.step {x:ba7} {l:List pa7} {tr lt:Bool} {k:Nat} {b:pa7} {j:Nat} {ld:Bool} {sum:Int} {sv out:List Int} (h:sn7 x l tr lt k b j true ld sum sv out) (hj:j < b.stops.length)
  (hcu:∀ c ∈ x.custs,0 ≤ c.load ∧ c.load ≤ 1000000000) (hc:0 ≤ b.stops[j] ∧ b.stops[j] < x.custs.length) (h0:sv.getD (b.stops[j]).toNat 0 = 0) :
  sn7 x l tr lt k b (j + 1) true ld (sum + (x.custs.getD (b.stops[j]).toNat ⟨0,0,0,0⟩).load) (sv.set (b.stops[j]).toNat 1) (pf7 x b.sat out b.stops[j]):=by
 obtain ⟨t0,⟨m0,m,lb,h1,h2,h3,h4,h5,h6⟩,h7,h8⟩:=h.yes rfl
 obtain ⟨c,hce⟩:∃ c,c = b.stops[j]:=⟨_,rfl⟩
 rw [← hce] at hc h0 ⊢
 have hcl:c.toNat < x.custs.length:=by omega
 have hld:=hcu _ (List.getElem_mem hcl)
 have hcd:(x.custs.getD c.toNat ⟨0,0,0,0⟩) = x.custs[c.toNat]:=by rw [List.getD_eq_getElem?_getD,List.getElem?_eq_getElem hcl]; rfl
 have hsb:=h.sumB
 have htb:m.testBit c.toNat = false:=by
  rw [h5,List.getD_eq_getElem?_getD,List.getElem?_eq_getElem (by rw [zcb7]; exact hcl),Option.getD_some,tv7] at h0
  cases e:m.testBit c.toNat with
  | false=>rfl
  | true=>rw [e] at h0; cases h0
 have hcb:ie7 x m c = false:=by
  have:=os7 x m c
  unfold et7 at this
  rw [decide_eq_true hc.1,decide_eq_true hc.2,htb] at this
  simpa using this.symm
 have hth:rg7 x b.sat = true:=by
  rw [xk7] at h3
  have:(decide (0 < b.stops.length) && rg7 x b.sat) = true:=by simpa using h3
  exact (Bool.and_eq_true_iff.1 this).2
 refine ⟨by rw [su7]; exact h.len,by rw [List.length_set]; exact h.svL,by rw [hcd]; push_cast; omega,fun _=>⟨t0,⟨m0,m ||| 2 ^ c.toNat,lb,h1,h2,h3, ?_, ?_, ?_⟩, ?_, ?_⟩,fun h=>by cases h⟩
 ·rw [h4,List.drop_eq_getElem_cons hj,List.foldl_cons, ← hce,nq7 hcb]
  show List.foldl (ti7 x) (some (m ||| 2 ^ c.toNat,x.broom - sum - (x.custs.getD c.toNat ⟨0,0,0,0⟩).load)) _ = _
  rw [Int.sub_sub]
 ·rw [h5,cob7 _ _ _ _ rfl]
 ·exact Nat.or_lt_two_pow h6 (Nat.pow_lt_pow_right (by decide) hcl)
 ·rw [xa7 _ _ _ _ hj, ← h7, ← hce]
 ·rw [sn7.addLoad_eq hth h.len hc, ← Nat.add_assoc]
  have hs2:b.sat.toNat < out.length:=by
   simp only [rg7,Bool.and_eq_true,decide_eq_true_eq] at hth
   rw [h.len]; omega
  refine h8.add ?_ (by rw [hcd]; exact hld)
  rw [List.getD_eq_getElem?_getD,List.getElem?_eq_getElem hs2]
  exact h8.get hs2
theorem sn7.twice {x:ba7} {l:List pa7} {tr lt:Bool} {k:Nat} (hk:k < l.length) {j:Nat} {r ld:Bool} {sum:Int} {sv out:List Int} (h:sn7 x l tr lt k l[k] j r ld sum sv out) (hj:j < l[k].stops.length)
  (hr:r = true → ¬ ((0 ≤ (l[k]).stops[j] ∧ (l[k]).stops[j] < x.custs.length) ∧ sv.getD ((l[k]).stops[j]).toNat 0 = 0)):r = true → (ne7 x l).1 = false:=by
 intro hrt
 obtain ⟨t0,⟨m0,m,lb,h1,h2,h3,h4,h5,h6⟩,h7,h8⟩:=h.yes hrt
 have hr:=hr hrt
 obtain ⟨c,hce⟩:∃ c,c = (l[k]).stops[j]:=⟨_,rfl⟩
 rw [← hce] at hr
 have hcb:ie7 x m c = true:=by
  have:=os7 x m c
  cases e:ie7 x m c with
  | true=>rfl
  | false =>
   rw [e] at this
   simp only [et7,Bool.and_eq_true,decide_eq_true_eq,Bool.not_eq_true',Bool.not_false] at this
   refine absurd ⟨this.1, ?_⟩ hr
   rw [h5,List.getD_eq_getElem?_getD,List.getElem?_eq_getElem (by rw [zcb7]; omega),Option.getD_some,tv7,this.2]; rfl
 rw [h1,List.drop_eq_getElem_cons hk,vk7 (by rw [h4,List.drop_eq_getElem_cons hj,List.foldl_cons, ← hce,jn7 hcb,hn7])]
theorem sn7.stop {x:ba7} {l:List pa7} {tr lt:Bool} {k:Nat} (hk:k < l.length) {j:Nat} {r ld:Bool} {sum sum':Int} {sv out sv' out':List Int} (h:sn7 x l tr lt k l[k] j r ld sum sv out) (hj:j < l[k].stops.length)
  (hr:r = true → ¬ ((0 ≤ (l[k]).stops[j] ∧ (l[k]).stops[j] < x.custs.length) ∧ sv.getD ((l[k]).stops[j]).toNat 0 = 0)) (hl:out'.length = x.sats.length) (hs:sv'.length = x.custs.length) (hb:0 ≤ sum' ∧ sum' ≤ 1000000000 * ((j + 1:Nat):Int)) :
  sn7 x l tr lt k l[k] (j + 1) false ld sum' sv' out' :=
 ⟨hl,hs,hb,(fun h=>by cases h),fun _=>(by
  rcases Bool.eq_false_or_eq_true r with e | e
  ·exact .inr (h.twice hk hj hr e)
  ·exact h.no e)⟩
theorem sn7.done {x:ba7} {l:List pa7} {tr lt:Bool} {k:Nat} (hk:k < l.length) {r ld:Bool} {sum:Int} {sv out:List Int} (h:sn7 x l tr lt k l[k] l[k].stops.length r ld sum sv out) :
  BInv x l tr lt (k + 1) r (ld && decide (sum ≤ x.broom)) sv out:=by
 refine ⟨h.len,h.svL,fun hr => ?_,h.no⟩
 obtain ⟨t0,⟨m0,m,lb,h1,h2,h3,h4,h5,h6⟩,h7,h8⟩:=h.yes hr
 rw [List.drop_length,List.foldl_nil] at h4
 rw [List.take_length] at h7
 refine ⟨t0,⟨m,lb && decide (0 ≤ x.broom - sum), ?_, ?_,h5,h6⟩, ?_, ?_⟩
 ·rw [h1,List.drop_eq_getElem_cons hk,vp7 h3 h4]
 ·rw [h2,Bool.and_assoc]
  congr 2
  rw [Bool.eq_iff_iff]; simp
 ·rw [xa7 _ _ _ _ hk,h7]; rfl
 ·rw [nd7 hk]; exact h8
theorem sn7.start2 {x:ba7} {l:List pa7} {tr lt:Bool} {k:Nat} {r ld:Bool} {sv out:List Int} (h:BInv x l tr lt k r ld sv out) (hk:k < l.length) {b:pa7} (hb:b = l[k]) :
  sn7 x l tr lt k b 0 ((r && decide (0 < b.stops.length)) && rg7 x b.sat) ld 0 sv out:=by
 subst hb; exact sn7.start h hk
theorem sn7.stop2 {x:ba7} {l:List pa7} {tr lt:Bool} {k:Nat} (hk:k < l.length) {b:pa7} (hbe:b = l[k]) {j:Nat} {r ld:Bool} {sum sum':Int} {sv out sv' out':List Int} (h:sn7 x l tr lt k b j r ld sum sv out) (hj:j < b.stops.length)
  (hr:r = true → ¬ ((0 ≤ b.stops[j] ∧ b.stops[j] < x.custs.length) ∧ sv.getD (b.stops[j]).toNat 0 = 0)) (hl:out'.length = x.sats.length) (hs:sv'.length = x.custs.length) (hb:0 ≤ sum' ∧ sum' ≤ 1000000000 * ((j + 1:Nat):Int)) :
  sn7 x l tr lt k b (j + 1) false ld sum' sv' out':=by
 subst hbe; exact h.stop hk hj hr hl hs hb
theorem sn7.done2 {x:ba7} {l:List pa7} {tr lt:Bool} {k:Nat} (hk:k < l.length) {b:pa7} (hb:b = l[k]) {r ld:Bool} {sum:Int} {sv out:List Int} (h:sn7 x l tr lt k b b.stops.length r ld sum sv out) :
  BInv x l tr lt (k + 1) r (ld && decide (sum ≤ x.broom)) sv out:=by
 subst hb; exact h.done hk
theorem sn7.facts {x:ba7} {l:List pa7} {tr lt:Bool} {k:Nat} {b:pa7} {j:Nat} {ld:Bool} {sum:Int} {sv out:List Int} (h:sn7 x l tr lt k b j true ld sum sv out) (c:Nat) :
  (0 ≤ b.sat ∧ b.sat < x.sats.length) ∧ (0 ≤ sv.getD c 0 ∧ sv.getD c 0 ≤ 1) ∧ jc7 out (kb7 l k + j):=by
 obtain ⟨t0,⟨m0,m,lb,h1,h2,h3,h4,h5,h6⟩,h7,h8⟩:=h.yes rfl
 refine ⟨?_, ?_,h8⟩
 ·rw [xk7] at h3
  have:(decide (0 < b.stops.length) && rg7 x b.sat) = true:=by simpa using h3
  have:=(Bool.and_eq_true_iff.1 this).2
  simpa [rg7] using this
 ·rw [h5,List.getD_eq_getElem?_getD]
  by_cases hc:c < (nn7 m x.custs.length).length
  ·rw [List.getElem?_eq_getElem hc,Option.getD_some,tv7]; split <;> decide
  ·rw [List.getElem?_eq_none (by omega)]; decide
theorem sn7.go {x:ba7} {l:List pa7} {tr lt:Bool} {k:Nat} (hk:k < l.length) {b:pa7} (hbe:b = l[k]) {j:Nat} {ld:Bool} {sum:Int} {sv out:List Int} (h:sn7 x l tr lt k b j true ld sum sv out) (hj:j < b.stops.length)
  (hcu:∀ c ∈ x.custs,0 ≤ c.load ∧ c.load ≤ 1000000000) {c:Int} (hce:c = b.stops[j]) (hc:0 ≤ c ∧ c < x.custs.length) {v ov lo:Int} (hv:sv.getD c.toNat 0 = v) (hov:out.getD b.sat.toNat 0 = ov) (hlo:(x.custs.getD c.toNat ⟨0,0,0,0⟩).load = lo) :
  sn7 x l tr lt k b (j + 1) (v + 1 == 1) ld (sum + lo) (sv.set c.toNat (v + 1)) (out.set b.sat.toNat (ov + lo)):=by
 subst hce hv hov hlo
 have hf:=h.facts 0
 have hcl:(b.stops[j]).toNat < x.custs.length:=by omega
 have hld:=hcu _ (List.getElem_mem hcl)
 have hcd:(x.custs.getD (b.stops[j]).toNat ⟨0,0,0,0⟩) = x.custs[(b.stops[j]).toNat]:=by rw [List.getD_eq_getElem?_getD,List.getElem?_eq_getElem hcl]; rfl
 by_cases h0:sv.getD (b.stops[j]).toNat 0 = 0
 ·have:=h.step hj hcu hc h0
  rw [sn7.addLoad_eq (by simp [rg7,hf.1]) h.len hc] at this
  rw [h0]
  exact this
 ·have e:(sv.getD (b.stops[j]).toNat 0 + 1 == 1) = false:=by rw [beq_eq_false_iff_ne]; omega
  rw [e]
  have hs:=h.sumB
  exact h.stop2 hk hbe hj (fun _ hn=>h0 hn.2) (by rw [List.length_set]; exact h.len) (by rw [List.length_set]; exact h.svL) (by rw [hcd]; push_cast; omega)
theorem sqb7:∀ n,n ≤ 6 → ∀ m,m < 2 ^ n → (Lib.onesCount m = n ↔ ∀ i,i < n → m.testBit i = true):=by decide +kernel
theorem wqb7 {x:ba7} {p:sa7} {tr lt r ld:Bool} {dr sv out:List Int} (hn:x.custs.length ≤ 6) (hck:check x = 0) (hT:vhb7 x p.trucks p.trucks.length tr lt dr) (hB:BInv x p.bikes tr lt p.bikes.length r ld sv out)
  (hf : ¬ (x.tmany < p.trucks.length ∨ x.bmany < p.bikes.length)):ia7 x p = if r = false then 15 else if 0 ∈ sv then 8 else if (ld && !yj7 x out x.sats.length) = false then 10 else if out = dr then 0 else 13:=by
 unfold ia7
 rw [if_neg (by simpa using hck),if_neg hf]
 have ht:=hT.done
 cases r with
 | false =>
  rw [if_pos rfl,if_pos]
  rcases hB.no rfl with h | h
  ·exact .inl (ht.2 h)
  ·exact .inr h
 | true =>
  obtain ⟨htr,⟨m,lb,h1,h2,h3,h4⟩,h5,h6⟩:=hB.yes rfl
  obtain ⟨h7,h8⟩:=ht.1 htr
  rw [List.drop_length] at h1
  rw [List.take_length] at h5
  have h9:ne7 x p.bikes = (true,decide (Lib.onesCount m = x.custs.length),lb):=h1
  have h10:out = bk7 x p.bikes:=h5
  rw [h7,h9, ← h10, ← h8]
  have hz:(0 ∈ sv) ↔ ¬ Lib.onesCount m = x.custs.length:=by
   rw [sqb7 _ hn _ h4,h3]
   simp only [nn7,List.mem_map,List.mem_range]
   constructor
   ·rintro ⟨i,hi,e⟩ hall
    rw [hall i hi] at e; cases e
   ·intro hna
    obtain ⟨i,hi⟩:=Classical.not_forall.1 hna
    obtain ⟨hi,e⟩:=Classical.not_imp.1 hi
    exact ⟨i,hi,by rw [if_neg e]⟩
  simp only [Bool.true_eq_false,or_self,if_false]
  by_cases hon:Lib.onesCount m = x.custs.length
  ·have hz2 : ¬ (0 ∈ sv):=fun h=>hz.1 h hon
   rw [decide_eq_true hon,if_neg hz2]
   subst h2
   cases lt <;> cases lb <;> cases yj7 x out x.sats.length <;> simp
  ·rw [decide_eq_false hon,if_pos rfl,if_pos (hz.2 hon)]
end Go.Proofs.Ytahffcepagopmaa

namespace Go.Proofs.Ytahffcepagopmaa
open Go.RowKit
/-! Sums. -/
theorem knb7:∀ (l:List Int) (k:Nat) (h:k < l.length) (v:Int),(l.set k v).sum = l.sum + (v - l[k])
 | a :: l,0,_,v=>by simp; omega
 | a :: l,k + 1,h,v=>by
  rw [List.set_cons_succ,List.sum_cons,List.sum_cons,knb7 l k (Nat.lt_of_succ_lt_succ h) v,List.getElem_cons_succ]; omega
def bump (l:List Int) (k:Nat) (v:Int):List Int:=l.set k (l.getD k 0 + v)
theorem pt7 {l:List Int} {k:Nat} (h:k < l.length) (v:Int):(bump l k v).sum = l.sum + v:=by
 unfold bump
 rw [knb7 l k h,List.getD_eq_getElem?_getD,List.getElem?_eq_getElem h,Option.getD_some]; omega
/-! Trucks that may go. -/
def tt7 (t:List da7):Int:=(t.map da7.load).sum
theorem zs7 (t:List da7) (s:da7):tt7 (t ++ [s]) = tt7 t + s.load:=by
 unfold tt7; rw [List.map_append,List.sum_append]; simp
structure csb7 (x:ba7) (t:List da7):Prop where
 pos:0 < t.length
 ok:∀ o ∈ t,de7 x o
 nodup:(t.map da7.sat).Nodup
 room:tt7 t ≤ x.troom
theorem qm7 (l:List (List da7)) (t:List da7) (s:da7):vb7 (l ++ [t]) s = l ++ [t ++ [s]]:=by
 unfold vb7
 rw [List.length_append,List.length_singleton,Nat.add_sub_cancel,List.getD_eq_getElem?_getD,List.getElem?_append_right (Nat.le_refl _),Nat.sub_self,List.set_append_right _ _ (Nat.le_refl _),Nat.sub_self]; rfl
theorem rr7 (l:List (List da7)) (t:List da7):lastT (l ++ [t]) = t:=by
 unfold lastT
 rw [List.length_append,List.length_singleton,Nat.add_sub_cancel,List.getD_eq_getElem?_getD,List.getElem?_append_right (Nat.le_refl _),Nat.sub_self]; rfl
theorem iv7 {α:Type} {l:List α} (h:0 < l.length):∃ l' a,l = l' ++ [a]:=⟨l.dropLast,l.getLast (List.ne_nil_of_length_pos h),(List.dropLast_concat_getLast _).symm⟩
structure Fit (x:ba7) (D:Nat → Prop) (dr:List Int) (out:List (List da7)) (left:Int):Prop where
 drop:out.foldl rh7 (ff7 x.sats.length) = dr
 many:(out.length:Int) ≤ x.tmany
 leftB:0 ≤ left ∧ left < x.troom
 sum:dr.sum = x.troom * (out.length:Int) - left
 cnt:(((out.map List.length).sum:Nat):Int) ≤ dr.sum
 trucks:∀ t ∈ out,csb7 x t
 last:0 < left → 0 < out.length ∧ tt7 (lastT out) = x.troom - left
 sats:∀ t ∈ out, ∀ o ∈ t,D o.sat.toNat
theorem Fit.len {x:ba7} {D:Nat → Prop} {dr:List Int} {out:List (List da7)} {left:Int} (h:Fit x D dr out left):dr.length = x.sats.length:=by
 rw [← h.drop,jl7]; simp [ff7]
theorem Fit.nil {x:ba7} {D:Nat → Prop} (hr:1 ≤ x.troom) (hm:0 ≤ x.tmany):Fit x D (ff7 x.sats.length) [] 0 :=
 ⟨rfl,hm,by omega,by simp [ff7],by simp [ff7],(fun _ h=>by cases h),fun h=>absurd h (by decide),fun _ h=>by cases h⟩
theorem Fit.imp {x:ba7} {D D':Nat → Prop} {dr:List Int} {out:List (List da7)} {left:Int} (h:Fit x D dr out left) (hd:∀ s,D s → D' s):Fit x D' dr out left :=
 ⟨h.drop,h.many,h.leftB,h.sum,h.cnt,h.trucks,h.last,fun t ht o ho=>hd _ (h.sats t ht o ho)⟩
theorem Fit.stop {x:ba7} {D:Nat → Prop} {dr:List Int} {out:List (List da7)} {left k:Int} {s:Nat} (h:Fit x D dr out left) (hl:0 < left) (hs:s < x.sats.length) (hD:D s) (hns:∀ o ∈ lastT out,o.sat ≠ s) (hk:1 ≤ k ∧ k ≤ left) (hr:x.troom ≤ 1000000000) :
  Fit x D (bump dr s k) (vb7 out ⟨s,k⟩) (left - k):=by
 obtain ⟨h1,h2⟩:=h.last hl
 obtain ⟨l,t,rfl⟩:=iv7 h1
 rw [rr7] at h2 hns
 have hb:=h.leftB
 have hsum:=h.sum
 have hcnt:=h.cnt
 have hsl:s < dr.length:=by rw [h.len]; exact hs
 have ht:=h.trucks t (by simp)
 rw [qm7]
 refine ⟨?_, ?_,by omega, ?_, ?_,fun t' ht' => ?_,fun _=>⟨by simp, ?_⟩,fun t' ht' o ho => ?_⟩
 ·have hd:=h.drop
  rw [List.foldl_append,List.foldl_cons,List.foldl_nil] at hd ⊢
  unfold rh7 at hd ⊢
  rw [List.foldl_append,hd]; rfl
 ·have:=h.many; simp only [List.length_append,List.length_singleton] at this ⊢; exact this
 ·rw [pt7 hsl,hsum]; simp only [List.length_append,List.length_singleton]; omega
 ·rw [pt7 hsl]
  simp only [List.map_append,List.sum_append,List.map_cons,List.map_nil,List.sum_cons,List.sum_nil,List.length_append,List.length_singleton,Nat.add_zero] at hcnt ⊢
  push_cast at hcnt ⊢; omega
 ·rcases List.mem_append.1 ht' with ht' | ht'
  ·exact h.trucks t' (List.mem_append_left _ ht')
  ·obtain rfl:=List.mem_singleton.1 ht'
   refine ⟨by simp,fun o ho => ?_, ?_,by rw [zs7]; show _ + k ≤ _; omega⟩
   ·rcases List.mem_append.1 ho with ho | ho
    ·exact ht.ok o ho
    ·obtain rfl:=List.mem_singleton.1 ho
     exact ⟨⟨Int.natCast_nonneg _,by show ((s:Nat):Int) < _; omega⟩,by show 1 ≤ k; omega,by show k ≤ _; omega⟩
   ·rw [List.map_append,List.nodup_append]
    refine ⟨ht.nodup,by simp,fun a ha b hb e => ?_⟩
    obtain ⟨o,ho,rfl⟩:=List.mem_map.1 ha
    simp only [List.map_cons,List.map_nil,List.mem_singleton] at hb
    exact hns o ho (e.trans hb)
 ·rw [rr7,zs7,h2]; show _ + k = _; omega
 ·rcases List.mem_append.1 ht' with ht' | ht'
  ·exact h.sats t' (List.mem_append_left _ ht') o ho
  ·obtain rfl:=List.mem_singleton.1 ht'
   rcases List.mem_append.1 ho with ho | ho
   ·exact h.sats t (by simp) o ho
   ·obtain rfl:=List.mem_singleton.1 ho
    show D ((s:Int)).toNat
    rw [Int.toNat_natCast]; exact hD
theorem Fit.push {x:ba7} {D:Nat → Prop} {dr:List Int} {out:List (List da7)} {k:Int} {s:Nat} (h:Fit x D dr out 0) (hm:(out.length:Int) ≠ x.tmany) (hs:s < x.sats.length) (hD:D s) (hk:1 ≤ k ∧ k ≤ x.troom) (hr:x.troom ≤ 1000000000) :
  Fit x D (bump dr s k) (vb7 (out ++ [[]]) ⟨s,k⟩) (x.troom - k):=by
 have hb:=h.leftB
 have hsum:=h.sum
 have hcnt:=h.cnt
 have hsl:s < dr.length:=by rw [h.len]; exact hs
 have hmm:=h.many
 rw [qm7,List.nil_append]
 refine ⟨?_, ?_,by omega, ?_, ?_,fun t' ht' => ?_,fun _=>⟨by simp, ?_⟩,fun t' ht' o ho => ?_⟩
 ·rw [List.foldl_append,h.drop]; rfl
 ·simp only [List.length_append,List.length_singleton]; push_cast; omega
 ·rw [pt7 hsl,hsum]; simp only [List.length_append,List.length_singleton]; push_cast; rw [Int.mul_add]; omega
 ·rw [pt7 hsl]
  simp only [List.map_append,List.sum_append,List.map_cons,List.map_nil,List.sum_cons,List.sum_nil,List.length_singleton,Nat.add_zero] at hcnt ⊢
  push_cast at hcnt ⊢; omega
 ·rcases List.mem_append.1 ht' with ht' | ht'
  ·exact h.trucks t' ht'
  ·obtain rfl:=List.mem_singleton.1 ht'
   refine ⟨by simp,fun o ho => ?_,by simp,by show (List.map da7.load [⟨(s:Int),k⟩]).sum ≤ _; simp; omega⟩
   obtain rfl:=List.mem_singleton.1 ho
   exact ⟨⟨Int.natCast_nonneg _,by show ((s:Nat):Int) < _; omega⟩,by show 1 ≤ k; omega,by show k ≤ _; omega⟩
 ·rw [rr7]; show (List.map da7.load [⟨(s:Int),k⟩]).sum = _; simp; omega
 ·rcases List.mem_append.1 ht' with ht' | ht'
  ·exact h.sats t' ht' o ho
  ·obtain rfl:=List.mem_singleton.1 ht'
   obtain rfl:=List.mem_singleton.1 ho
   show D ((s:Int)).toNat
   rw [Int.toNat_natCast]; exact hD
/-! The loads of a draft's bikes, all together. -/
end Go.Proofs.Ytahffcepagopmaa

namespace Go.Proofs.Ytahffcepagopmaa
open Go.RowKit
structure so7 (x:wb7):Prop where
 fin:wf8 x.fin
 trucks:wf8 x.trucks
 troom:wf8 x.troom
 bikes:wf8 x.bikes
 broom:wf8 x.broom
 sats:∀ s ∈ x.sats,wf8 s.room ∧ wf8 s.hold
 custs:∀ c ∈ x.custs,wf8 c.load ∧ wf8 c.opn ∧ wf8 c.wide ∧ wf8 c.stay
theorem trb7 {w:World} {F:Nat → Prop} {x:wb7} {cs:List Value} (h:bp7.rep w F x cs):so7 x:=by
 obtain ⟨_,_,_,_,rfl,h0,h1,h2, -, -⟩:=h
 obtain ⟨_,_,_,_, -, -, -, -, -, -,hs⟩:=iy7 h1
 obtain ⟨_,_,_,_, -, -, -, -, -, -,hc⟩:=zx7 h2
 exact ⟨h0.1,h0.2.1,h0.2.2.1,h0.2.2.2.1,h0.2.2.2.2,hs,hc⟩
theorem dz7 (x:wb7):le7 x = 1 ∨ le7 x = 9:=by unfold le7; split <;> simp
theorem by7 (l:List Int) (n i k0:Nat):∀ m j:Nat,0 ≤ (jg7 l n i k0 m).1.getD j 0 ∧ (jg7 l n i k0 m).1.getD j 0 ≤ 29 ∧ (i = j → (jg7 l n i k0 m).1.getD j 0 = 0)
 | 0,j=>by
  have:(List.replicate n (0:Int)).getD j 0 = 0:=by rw [List.getD_eq_getElem?_getD,List.getElem?_replicate]; split <;> rfl
  show 0 ≤ (List.replicate n (0:Int)).getD j 0 ∧ (List.replicate n (0:Int)).getD j 0 ≤ 29 ∧ (i = j → (List.replicate n (0:Int)).getD j 0 = 0)
  rw [this]; simp
 | m + 1,j=>by
  have ih:=by7 l n i k0 m j
  simp only [jg7]
  split
  ·rename_i hc
   simp only [List.getD_eq_getElem?_getD,List.getElem?_set] at ih ⊢
   split
   ·rename_i e
    split
    ·simp only [Option.getD_some]
     refine ⟨by omega,by omega,fun h=>absurd (h.trans e.symm) hc.1⟩
    ·simp
   ·exact ih
  ·exact ih
theorem oz7 (l:List Int) (n:Nat):∀ i j (h:j < (tr7 l n i).1.length),((tr7 l n i).1[j]).length = n ∧ ∀ k,0 ≤ ((tr7 l n i).1[j]).getD k 0 ∧ ((tr7 l n i).1[j]).getD k 0 ≤ 29 ∧ (j = k → ((tr7 l n i).1[j]).getD k 0 = 0)
 | 0,j,h=>by simp [tr7] at h
 | i + 1,j,h=>by
  have hl:=ik7 l n i
  by_cases hj:j < i
  ·have e:(tr7 l n (i + 1)).1[j] = (tr7 l n i).1[j]'(by omega):=by
    simp only [tr7]; rw [List.getElem_append_left (by omega)]
   rw [e]; exact oz7 l n i j _
  ·have hji:j = i:=by rw [ik7] at h; omega
   subst hji
   have e:(tr7 l n (j + 1)).1[j] = (jg7 l n j (tr7 l n j).2 n).1:=by
    simp only [tr7]; rw [List.getElem_append_right (by omega)]; simp [hl]
   rw [e]
   exact ⟨ocb7 _ _ _ _ _,fun k=>by7 l n j _ n k⟩
theorem el7 (l:List Int) (n:Nat):sg7 (he7 l n) (n:Int) = true ∧ vib7 (he7 l n) (he7 l n).length = true:=by
 have hl:(he7 l n).length = n:=by unfold he7; exact ik7 l n n
 refine ⟨?_, ?_⟩
 ·simp only [sg7,Bool.and_eq_true,beq_iff_eq,Bool.not_eq_true',List.any_eq_false,bne_iff_ne,ne_eq,Decidable.not_not]
  refine ⟨by rw [hl],fun r hr => ?_⟩
  obtain ⟨j,hj,rfl⟩:=List.getElem_of_mem hr
  rw [show ((he7 l n)[j]).length = n from (oz7 l n n j hj).1]
 ·simp only [vib7,List.all_eq_true,List.mem_range]
  intro i hi
  rw [List.getD_eq_getElem?_getD,List.getElem?_eq_getElem hi]
  simp only [yqb7,Option.getD_some,List.all_eq_true,List.mem_range]
  intro k _
  have h:=(oz7 l n n i hi).2 k
  simp only [ijb7,sl7,Bool.and_eq_true,decide_eq_true_eq,Bool.or_eq_true,bne_iff_ne,ne_eq,beq_iff_eq]
  refine ⟨⟨h.1,by have:=h.2.1; show ((tr7 l n n).1[i]).getD k 0 ≤ _; omega⟩, ?_⟩
  by_cases e:i = k
  ·exact .inr (h.2.2 e)
  ·left; omega
theorem dwb7 {x:wb7} (h:so7 x):∀ s ∈ ee7 x,(0 ≤ s.room ∧ s.room ≤ 1000) ∧ 0 ≤ s.hold ∧ s.hold ≤ 1000:=by
 intro s hs
 have hw:=dz7 x
 unfold ee7 at hs
 split at hs
 ·simp at hs; subst hs; simp
 ·unfold ce7 at hs
  obtain ⟨t,ht,rfl⟩:=List.mem_map.1 hs
  have:=h.sats t (List.mem_of_mem_take (List.mem_of_mem_take ht))
  unfold wf8 at this
  unfold rlb7
  rcases hw with e | e <;> rw [e] <;> simp only [] <;> omega
theorem fhb7 {x:wb7} (h:so7 x):∀ c ∈ ae7 x,(1 ≤ c.load ∧ c.load ≤ 1000) ∧ (0 ≤ c.opn ∧ c.opn ≤ 1000) ∧ (c.opn ≤ c.cls ∧ c.cls ≤ 10000) ∧ 0 ≤ c.stay ∧ c.stay ≤ 1000:=by
 intro s hs
 have hw:=dz7 x
 unfold ae7 at hs
 split at hs
 ·simp at hs; subst hs; simp
 ·unfold gc7 at hs
  obtain ⟨t,ht,rfl⟩:=List.mem_map.1 hs
  have:=h.custs t (List.mem_of_mem_take (List.mem_of_mem_take ht))
  unfold wf8 at this
  unfold wdb7 pdb7
  rcases hw with e | e <;> rw [e] <;> simp only [] <;> split <;> omega
theorem gq7 {n l:Int} (h:l ≤ n) (h2:n ≤ 1000000000):sl7 n l = true:=by simp [sl7,h,h2]
theorem ar7 {x:wb7} (h:so7 x):check (th7 x) = 0:=by
 have hw:=dz7 x
 have h0:=h.fin
 have h1:=h.trucks
 have h2:=h.troom
 have h3:=h.bikes
 have h4:=h.broom
 unfold wf8 at h0 h1 h2 h3 h4
 have hs:=wm7 x
 have hc:=ll7 x
 have hcount:countB (th7 x) = true:=by
  show (manyB (1 + x.trucks % 4) 60 && manyB (1 + x.bikes % 6) 60 && manyB (ee7 x).length 12 && manyB (ae7 x).length 48) = true
  simp only [manyB,Bool.and_eq_true,decide_eq_true_eq]; omega
 have hsize:teb7 (th7 x) = true:=by
  have e:nodes (th7 x) = xf7 x:=rfl
  simp only [teb7,e,Bool.and_eq_true]
  exact ⟨(el7 _ _).1,(el7 _ _).1⟩
 have hnum:bj7 (th7 x) = true:=by
  simp only [bj7,rk7,Bool.and_eq_true,List.all_eq_true]
  refine ⟨⟨⟨⟨⟨⟨?_, ?_⟩, ?_⟩,fun s hs => ?_⟩,fun c hc => ?_⟩,(el7 _ _).2⟩,(el7 _ _).2⟩
  ·refine gq7 ?_ ?_ <;> simp only [th7] <;> rcases hw with e | e <;> rw [e] <;> omega
  ·refine gq7 ?_ ?_ <;> simp only [th7] <;> rcases hw with e | e <;> rw [e] <;> omega
  ·refine gq7 ?_ ?_ <;> simp only [th7] <;> rcases hw with e | e <;> rw [e] <;> omega
  ·have:=dwb7 h s hs
   simp only [jwb7,Bool.and_eq_true]; exact ⟨gq7 (by omega) (by omega),gq7 (by omega) (by omega)⟩
  ·have:=fhb7 h c hc
   simp only [pib7,Bool.and_eq_true]; exact ⟨⟨⟨gq7 (by omega) (by omega),gq7 (by omega) (by omega)⟩,gq7 (by omega) (by omega)⟩,gq7 (by omega) (by omega)⟩
 unfold check
 rw [hcount,hsize,hnum]; rfl
theorem keb7 {x:wb7} (h:so7 x):xq7 (th7 x):=by
 have g:=te7 (ar7 h)
 have hn:=yx7 x
 have e:nodes (th7 x) = xf7 x:=rfl
 refine ⟨?_,fun s hs => ?_,fun c hc => ?_,fun r hr => ?_,fun r hr => ?_⟩
 ·have h1:=g.fin; have h2:=g.tmany; have h3:=g.troom; have h4:=g.bmany; have h5:=g.broom
  unfold ua7; omega
 ·have:=g.sat s hs; unfold ua7; omega
 ·have:=g.cust c hc; unfold ua7; omega
 ·exact ⟨by rw [g.costR r hr]; unfold maxLen; omega,fun v hv=>by have:=g.cost r hr v hv; unfold ua7; omega⟩
 ·exact ⟨by rw [g.timeR r hr]; unfold maxLen; omega,fun v hv=>by have:=g.time r hr v hv; unfold ua7; omega⟩
end Go.Proofs.Ytahffcepagopmaa


namespace Go.Proofs.Ytahffcepagopmaa
open Go.RowKit
theorem aib7 {x:wb7} (h:so7 x):1 ≤ (th7 x).troom:=by
 have:=h.troom
 have hw:=dz7 x
 unfold wf8 at this
 show 1 ≤ 5 + le7 x * (x.troom % 40)
 rcases hw with e | e <;> rw [e] <;> omega
structure pz7 (p:sa7):Prop where
 tl:p.trucks.length ≤ 100000
 bl:p.bikes.length ≤ 100
 ts:∀ t ∈ p.trucks,t.length ≤ 100000 ∧ ∀ s ∈ t,(-1000000000 ≤ s.sat ∧ s.sat ≤ 1000000000) ∧ -1000000000 ≤ s.load ∧ s.load ≤ 1000000000
 bs:∀ b ∈ p.bikes,(-1000000000 ≤ b.sat ∧ b.sat ≤ 1000000000) ∧ b.stops.length ≤ 100 ∧ ∀ c ∈ b.stops, -1000000000 ≤ c ∧ c ≤ 1000000000
theorem hob7 {many room:Int} {q:Bool} {s:Nat} (hr:1 ≤ room) (hs:s ≤ 1000):∀ (f:Nat) (n:Int) (cnt:Nat) (out:List (List da7)) (left:Int),fe7 room cnt out left → fe7 room (cnt + n.toNat) (cz7 many room q s f n (out,left)).1 (cz7 many room q s f n (out,left)).2
 | 0,n,cnt,out,left,h=>⟨h.leftB,by have:=h.lenB; show out.length ≤ _; omega,h.someB,fun t ht=>by have:=h.stB t ht; exact ⟨by omega,fun u hu=>by have:=this.2 u hu; omega⟩⟩
 | f + 1,n,cnt,out,left,h=>by
  by_cases hn:n ≤ 0
  ·rw [adb7 hn]
   exact ⟨h.leftB,by have:=h.lenB; show out.length ≤ _; omega,h.someB,fun t ht=>by have:=h.stB t ht; exact ⟨by omega,fun u hu=>by have:=this.2 u hu; omega⟩⟩
  ·obtain ⟨o,l,hrd,h1,h2,h3,h4,h5⟩:=h.readyQ (many:=many) (q:=q) hr
   have hb:=fe7.batch (room:=room) (l:=l) (much:=min n l) (s:=s) ⟨h1,h2⟩ ⟨h3,h4⟩ h5 (by omega) hs
   have ih:=hob7 (many:=many) (q:=q) hr hs f (n - min n l) _ _ _ hb
   have e:cz7 many room q s (f + 1) n (out,left) = cz7 many room q s f (n - min n l) (vb7 o ⟨s,min n l⟩,l - min n l):=by
    show (if n ≤ 0 then _ else _) = _
    rw [if_neg hn,hrd]
   rw [e]
   have ec:cnt + (min n l).toNat + (n - min n l).toNat = cnt + n.toNat:=by omega
   rw [ec] at ih
   exact ih
theorem zsb7 {x:ba7} {w:uf7} {lo:List Int} (hr:1 ≤ x.troom) (hl:∀ s,0 ≤ lo.getD s 0 ∧ lo.getD s 0 ≤ 6000):∀ s,s ≤ 1000 → fe7 x.troom (6000 * s) (dUp x w lo s).1 (dUp x w lo s).2
 | 0,_=>fe7.nil (by omega)
 | s + 1,hs=>by
  have ih:=zsb7 (w:=w) hr hl s (by omega)
  have h:=hob7 (many:=x.tmany) (q:=mpb7 w s) (s:=s) hr (by omega) (lo.getD s 0).toNat (lo.getD s 0) (6000 * s) (dUp x w lo s).1 (dUp x w lo s).2 ih
  have:=hl s
  refine ⟨h.leftB, ?_,h.someB,fun t ht => ?_⟩
  ·have hL:(cz7 x.tmany x.troom (mpb7 w s) s (lo.getD s 0).toNat (lo.getD s 0) (dUp x w lo s)).1.length ≤ 6000 * s + (lo.getD s 0).toNat:=h.lenB
   show (cz7 x.tmany x.troom (mpb7 w s) s (lo.getD s 0).toNat (lo.getD s 0) (dUp x w lo s)).1.length ≤ 6000 * (s + 1)
   omega
  ·have:=h.stB t ht; exact ⟨by omega,fun u hu=>by have:=this.2 u hu; omega⟩
theorem si7 {x:ba7} (w:uf7) (hns:1 ≤ x.sats.length ∧ x.sats.length ≤ 3) (hnc:1 ≤ x.custs.length ∧ x.custs.length ≤ 6) (hcl:∀ c ∈ x.custs,1 ≤ c.load ∧ c.load ≤ 1000) (htr:1 ≤ x.troom):pz7 (yh7 x w):=by
 have hol:(kg7 x w).length = x.custs.length:=oh7 _ _
 have hk:=xj7 (x:=x) w (os:=kg7 x w) (fun c hc=>by have:=hcl c hc; omega) (by omega) (hk7 _ _) (kg7 x w).length (Nat.le_refl _)
 have hlv:∀ s,0 ≤ (zb7 x w).1.getD s 0 ∧ (zb7 x w).1.getD s 0 ≤ 6000:=fun s=>by
  rw [List.getD_eq_getElem?_getD]
  by_cases hs:s < (zb7 x w).1.length
  ·rw [List.getElem?_eq_getElem hs]
   have:=hk.loB _ (List.getElem_mem hs)
   exact ⟨this.1,Int.le_trans this.2 (by rw [hol]; omega)⟩
  ·rw [List.getElem?_eq_none (by omega)]; simp
 have hd:=zsb7 (x:=x) (w:=w) htr hlv (zb7 x w).1.length (by unfold zb7; rw [hk.loL]; omega)
 have hll:(zb7 x w).1.length ≤ 3:=by unfold zb7; rw [hk.loL]; omega
 refine ⟨?_, ?_,fun t ht => ?_,fun b hb => ?_⟩
 ·have:=hd.lenB; show (dUp x w (zb7 x w).1 (zb7 x w).1.length).1.length ≤ _; omega
 ·have:=hk.bsL; show (zb7 x w).2.length ≤ _; unfold zb7; omega
 ·have:=hd.stB t ht; exact ⟨by omega,fun u hu=>by have:=this.2 u hu; omega⟩
 ·have:=hk.bsB b hb; exact ⟨by omega,by omega,fun c hc=>by have:=this.2.2 c hc; omega⟩
theorem bfb7 {p:sa7} (h:pz7 p) (what at_:Nat) {by_:Int} (hby : -128 ≤ by_ ∧ by_ ≤ 127):(rb7 p what at_ by_).bikes.length ≤ 200 ∧ ∀ b ∈ (rb7 p what at_ by_).bikes,ua7 b.sat ∧ b.stops.length ≤ 200 ∧ ∀ c ∈ b.stops,ua7 c:=by
 have hbl:=h.bl
 have base:p.bikes.length ≤ 200 ∧ ∀ b ∈ p.bikes,ua7 b.sat ∧ b.stops.length ≤ 200 ∧ ∀ c ∈ b.stops,ua7 c:=⟨by omega,fun b hb=>by
  have h1:=h.bs b hb
  exact ⟨by unfold ua7; omega,by omega,fun c hc=>by have:=h1.2.2 c hc; unfold ua7; omega⟩⟩
 have hget:∀ B,(-1000000000 ≤ (p.bikes.getD B ⟨0,[]⟩).sat ∧ (p.bikes.getD B ⟨0,[]⟩).sat ≤ 1000000000) ∧ (p.bikes.getD B ⟨0,[]⟩).stops.length ≤ 100 ∧ ∀ c ∈ (p.bikes.getD B ⟨0,[]⟩).stops, -1000000000 ≤ c ∧ c ≤ 1000000000:=fun B=>by
  rw [List.getD_eq_getElem?_getD]
  by_cases hB:B < p.bikes.length
  ·rw [List.getElem?_eq_getElem hB]; exact h.bs _ (List.getElem_mem hB)
  ·rw [List.getElem?_eq_none (by omega)]; exact ⟨by simp,by simp,fun c hc=>by cases hc⟩
 have hset:∀ (B:Nat) (b:pa7),(ua7 b.sat ∧ b.stops.length ≤ 200 ∧ ∀ c ∈ b.stops,ua7 c) → (p.bikes.set B b).length ≤ 200 ∧ ∀ b' ∈ p.bikes.set B b,ua7 b'.sat ∧ b'.stops.length ≤ 200 ∧ ∀ c ∈ b'.stops,ua7 c:=fun B b hb=>by
  refine ⟨by rw [List.length_set]; omega,fun b' hb' => ?_⟩
  rcases List.mem_or_eq_of_mem_set hb' with h' | rfl
  ·exact base.2 b' h'
  ·exact hb
 unfold rb7
 split
 ·exact base
 ·show (xdb7 p _ _ _ (at_:Int) by_).length ≤ 200 ∧ ∀ b ∈ xdb7 p _ _ _ (at_:Int) by_,ua7 b.sat ∧ b.stops.length ≤ 200 ∧ ∀ c ∈ b.stops,ua7 c
  generalize at_ % p.bikes.length = B
  have hg:=hget B
  have hgI:∀ (l:List Int),(∀ c ∈ l, -1000000000 ≤ c ∧ c ≤ 1000000000) → ∀ I, -1000000000 ≤ l.getD I 0 ∧ l.getD I 0 ≤ 1000000000:=fun l hl I=>by
   rw [List.getD_eq_getElem?_getD]
   by_cases hI:I < l.length
   ·rw [List.getElem?_eq_getElem hI]; exact hl _ (List.getElem_mem hI)
   ·rw [List.getElem?_eq_none (by omega)]; simp
  generalize (at_ / 3) % _ = I
  have hI:=hgI _ hg.2.2 I
  unfold xdb7
  generalize p.bikes.getD B ⟨0,[]⟩ = bk at *
  have hsw:ua7 bk.sat:=by unfold ua7; omega
  have hcw:∀ c ∈ bk.stops,ua7 c:=fun c hc=>by have:=hg.2.2 c hc; unfold ua7; omega
  split
  ·exact hset _ _ ⟨hsw,by have:=List.length_eraseIdx_le bk.stops I; show (bk.stops.eraseIdx I).length ≤ 200; omega,fun c hc=>hcw c (List.mem_of_mem_eraseIdx hc)⟩
  ·exact hset _ _ ⟨hsw,by show (bk.stops ++ [_]).length ≤ 200; rw [List.length_append,List.length_singleton]; omega,fun c hc=>by
    rcases List.mem_append.1 hc with hc | hc
    ·exact hcw c hc
    ·obtain rfl:=List.mem_singleton.1 hc; unfold ua7; omega⟩
  ·exact hset _ _ ⟨hsw,by show (bk.stops.set I _).length ≤ 200; rw [List.length_set]; omega,fun c hc=>by
    rcases List.mem_or_eq_of_mem_set hc with hc | rfl
    ·exact hcw c hc
    ·unfold ua7; omega⟩
  ·exact hset _ _ ⟨by show ua7 (bk.sat + by_); unfold ua7; omega,by show bk.stops.length ≤ 200; omega,hcw⟩
  ·refine ⟨by rw [List.length_append,List.length_singleton]; omega,fun b hb => ?_⟩
   rcases List.mem_append.1 hb with hb | hb
   ·exact base.2 b hb
   ·obtain rfl:=List.mem_singleton.1 hb
    exact ⟨by show ua7 by_; unfold ua7; omega,by simp,fun c hc=>by cases hc⟩
  ·exact base
theorem er7 {l:List pa7} {m:Nat} (h:∀ b ∈ l,b.stops.length ≤ m):∀ k,k ≤ l.length → kb7 l k ≤ m * k
 | 0,_=>by unfold kb7; simp
 | k + 1,hk=>by
  have ih:=er7 h k (by omega)
  have:=h _ (List.getElem_mem (show k < l.length by omega))
  rw [nd7 (show k < l.length by omega),Nat.mul_add,Nat.mul_one]
  omega
end Go.Proofs.Ytahffcepagopmaa
