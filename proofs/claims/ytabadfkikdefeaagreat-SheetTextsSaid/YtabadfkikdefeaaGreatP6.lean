/- Texts of the proof, joined: HaulFits, ClockF. -/
import Derived.BigQuiet
import Derived.Test.YtabadfkikdefeaaGreatCode
import Derived.Test.YtabadfkikdefeaaGreatDraftW
set_option linter.all false
set_option maxRecDepth 100000
set_option maxHeartbeats 6400000
namespace Go.Proofs.YtabadfkikdefeaaGreat
open Go.RowKit
theorem ngb7 (out:List (List ea7)) (s:ea7):((ub7 out s).map List.length).sum≤(out.map List.length).sum+1:=by
 by_cases h:0<out.length
 ·obtain⟨l,a,rfl⟩:=nw7 h
  rw[bn7]
  simp
  omega
 ·obtain rfl:=List.eq_nil_of_length_eq_zero (by omega:out.length=0)
  simp[ub7]
theorem wpb7 (many room:Int) (q:Bool) (st:List (List ea7)×Int):((readyQ many room q st).1.map List.length).sum=(st.1.map List.length).sum:=by
 unfold readyQ
 split
 ·simp
 ·rfl
theorem hjb7 (many room:Int) (q:Bool) (s:Nat):∀(f:Nat) (n:Int) (st:List (List ea7)×Int),((ccb7 many room q s f n st).1.map List.length).sum≤(st.1.map List.length).sum+f
 | 0,_,st=>Nat.le_refl _
 | f+1,n,st=>by
  unfold ccb7
  split
  ·omega
  ·have h1:=hjb7 many room q s f (n-min n (readyQ many room q st).2) (ub7 (readyQ many room q st).1 ⟨s,min n (readyQ many room q st).2⟩,(readyQ many room q st).2-min n (readyQ many room q st).2)
   have h2:=ngb7 (readyQ many room q st).1 ⟨s,min n (readyQ many room q st).2⟩
   rw[wpb7]at h2
   simp only[]at h1
   omega
theorem phb7 {x:ba7}{w:hf7}{lo:List Int}(hl:∀s,lo.getD s 0≤6000):∀s,((dUp x w lo s).1.map List.length).sum≤6000*s
 | 0=>by simp[dUp]
 | s+1=>by
  have ih:=phb7 (x:=x) (w:=w) hl s
  have h:=hjb7 x.tmany x.troom (vsb7 w s) s (lo.getD s 0).toNat (lo.getD s 0) (dUp x w lo s)
  have:=hl s
  show ((ccb7 x.tmany x.troom (vsb7 w s) s (lo.getD s 0).toNat (lo.getD s 0) (dUp x w lo s)).1.map List.length).sum≤_
  omega
theorem kgb7 {x:ba7}(w:hf7) (hns:1≤x.sats.length∧x.sats.length≤3) (hnc:1≤x.custs.length∧x.custs.length≤6) (hcl:∀c∈x.custs,1≤c.load∧c.load≤1000) (htr:1≤x.troom):jc7 (sf7 x w):=by
 have hol:(af7 x w).length=x.custs.length:=lg7 _ _
 have hk:=aj7 (x:=x) w (os:=af7 x w) (fun c hc=>by have:=hcl c hc;omega) (by omega) (cj7 _ _) (af7 x w).length (Nat.le_refl _)
 have hf:=yh7 w hns hnc hcl htr
 have hlv:∀s,(nb7 x w).1.getD s 0≤6000:=fun s=>by
  rw[List.getD_eq_getElem?_getD]
  by_cases hs:s<(nb7 x w).1.length
  ·rw[List.getElem?_eq_getElem hs]
   have:=hk.loB _ (List.getElem_mem hs)
   exact Int.le_trans this.2 (by rw[hol];omega)
  ·rw[List.getElem?_eq_none (by omega)];simp
 have hd:=phb7 (x:=x) (w:=w) hlv (nb7 x w).1.length
 have hll:(nb7 x w).1.length≤3:=by unfold nb7;rw[hk.loL];omega
 refine⟨?_, ?_⟩
 ·have h1:=cs7 (m:=100) (fun b hb=>(hf.bs b hb).2.1) (sf7 x w).bikes.length (Nat.le_refl _)
  have h2:=hf.bl
  have h3:100*(sf7 x w).bikes.length≤100*100:=Nat.mul_le_mul_left _ h2
  omega
 ·unfold ya7
  rw[List.take_length]
  have h3:6000*(nb7 x w).1.length≤6000*3:=Nat.mul_le_mul_left _ hll
  show ((dUp x w (nb7 x w).1 (nb7 x w).1.length).1.map List.length).sum≤_
  omega
theorem kr7 {w:World}(a f t:Int) :
  Calls Tryz.prog 206 #[.int .i64 a,.int .i64 f,.int .i64 t] w fun e w'=>e = .returned (.bool (uw7 a f t))∧Below w.heap.size w w':=by
 go_enter Tryz.func206,Tryz.ntmps206
 by_cases h1:f≤a
 ·have h1':a≥f:=h1
  go_wp2
  go_ret
  refine⟨?_,Below.refl _ _⟩
  simp[uw7,h1]
 ·have h1':¬(a≥f):=h1
  go_wp2
  go_ret
  refine⟨?_,Below.refl _ _⟩
  unfold uw7
  rw[decide_eq_false (by omega)];rfl
theorem thb7:∀w,(sizeOf 136).run Tryz.prog w = .ok 3 w:=fun w=>by kernel_rfl
structure FSt (w0:World) (e1 e2:TypeId) (ps ts:List Value) (w:World):Prop where
 bel:Below w0.heap.size w0 w
 one:Row w w0.heap.size e1 ps
 two:Row w (w0.heap.size+1) e2 ts
theorem FSt.below {w0 w w':World}{e1 e2:TypeId}{ps ts:List Value}(h:FSt w0 e1 e2 ps ts w) (hb:Below w.heap.size w w'):FSt w0 e1 e2 ps ts w':=⟨ca7 h.bel hb,h.one.below hb,h.two.below hb⟩
theorem FSt.start (w0:World) (e1 e2:TypeId) (ps ts:List Value):FSt w0 e1 e2 ps ts ((w0.alloc (.cells ps.toArray e1)).alloc (.cells ts.toArray e2)):=by
 have h1:=(Row.new (w:=w0) (g:=w0.heap.size) (e:=e1) (cs:=ps) rfl).alloc (.cells ts.toArray e2)
 have h2:=Row.new (w:=w0.alloc (.cells ps.toArray e1)) (e:=e2) (cs:=ts) rfl
 rw[show (w0.alloc (.cells ps.toArray e1)).heap.size=w0.heap.size+1 by simp]at h2
 exact⟨((Below.refl _ _).alloc (Nat.le_refl _) _).alloc (by simp) _,h1,h2⟩
theorem FSt.alloc {w0 w:World}{e1 e2:TypeId}{ps ts:List Value}(h:FSt w0 e1 e2 ps ts w) (b:Obj):FSt w0 e1 e2 ps ts (w.alloc b):=h.below ((Below.refl _ _).alloc (Nat.le_refl _) b)
theorem FSt.drewN {w0 w:World}{e1 e2:TypeId}{ps ts:List Value}(h:FSt w0 e1 e2 ps ts w) (n:Nat):FSt w0 e1 e2 ps ts (w.drewN n):=h.below (below_drewN (Below.refl _ _) n)
theorem yec7 {w:World}{F G:Nat→Prop}{p:sa7}{t:tb7}{ps ts:List Value}(hp:ud7.rep w F p ps) (ht:xg7.rep w G t ts) (hl1:t.trucks.length=p.trucks.length) (hl2:t.bikes.length=p.bikes.length) (hT:p.trucks.length≤60) (hB:p.bikes.length≤60)
  (hT1:∀t∈p.trucks,t.length≤60) (hB1:∀b∈p.bikes,b.stops.length≤60) :
  Calls Tryz.prog 172 #[.agg ps.toArray,.agg ts.toArray] w fun e w'=>e = .returned (.bool (eu7 p t p.trucks.length&&sq7 p t p.bikes.length))∧Below w.heap.size w w':=by
 obtain⟨tv,bv,rfl,h3,h4⟩:=hp
 obtain⟨a2,b2,off2,c2,hs2,hlc2,hc2,ha2,-,hcell2⟩:=oc7 h3
 obtain rfl:=List.cons.inj hs2 |>.1
 obtain⟨a4,b4,off4,c4,hs4,hlc4,hc4,ha4,-,hcell4⟩:=id7 h4
 obtain rfl:=List.cons.inj hs4 |>.1
 obtain⟨tv,bv,rfl,h5,h6⟩:=ht
 obtain⟨a5,b5,off5,c5,hs5,hlc5,hc5,ha5,-,hcell5⟩:=kd7 h5
 obtain rfl:=List.cons.inj hs5 |>.1
 obtain⟨a6,b6,off6,c6,hs6,hlc6,hc6,ha6,-,hcell6⟩:=lk7 h6
 obtain rfl:=List.cons.inj hs6 |>.1
 clear hs2 hs4 hs5 hs6 h3 h4 h5 h6
 rw[hl1]at hlc5 ha5
 rw[hl2]at hlc6 ha6
 have HCELL2:=hid hcell2
 have HCELL4:=hid hcell4
 have HCELL5:=hid hcell5
 have HCELL6:=hid hcell6
 have HL1:=hid hl1
 have HL2:=hid hl2
 have HT1:=hid hT1
 have HB1:=hid hB1
 rw[hl1,hl2]
 have hs0:=FSt.start w 37 41 [.slice a2 p.trucks.length c2,.slice a4 p.bikes.length c4] [.slice a5 p.trucks.length c5,.slice a6 p.bikes.length c6]
 obtain⟨p0,p1⟩:=kc7 hs0.one
 obtain⟨t0,t1⟩:=kc7 hs0.two
 clear hcell2 hcell4 hcell5 hcell6 hl1 hl2 hT1 hB1
 go_enter Tryz.func172,Tryz.ntmps172
 go_upto_region 1 with fail
 generalize (w.alloc (.cells #[.slice a2 p.trucks.length c2,.slice a4 p.bikes.length c4] 37)).alloc (.cells #[.slice a5 p.trucks.length c5,.slice a6 p.bikes.length c6] 41)=wz at hs0 p0 p1 t0 t1 ⊢
 have HS0:=hid hs0
 clear hs0
 go_wp2
 go_loopw [5,29] (fun ov kv wr=>∃k:Nat,k≤p.trucks.length∧kv = .int .i64 k∧ov = .bool (eu7 p t k)∧FSt w 37 41 [.slice a2 p.trucks.length c2,.slice a4 p.bikes.length c4] [.slice a5 p.trucks.length c5,.slice a6 p.bikes.length c6] wr) (fun _ kv _=>p.trucks.length-(intOf kv).toNat)
 case atStart=>exact⟨0,Nat.zero_le _,rfl,rfl,HS0.out⟩
 case round =>
  clear p0 p1 t0 t1 HS0
  obtain⟨k,hk,rfl,rfl,hst⟩:=hrel
  obtain⟨wo,rfl⟩:∃wo:World,wo=wr:=⟨_,rfl⟩
  have HST:=hid hst
  obtain⟨p0,p1⟩:=kc7 hst.one
  obtain⟨t0,t1⟩:=kc7 hst.two
  by_cases hlt:k<p.trucks.length
  ·have hx:=ga7 (c:=c2) Tryz.underlying34 hh7 (ha2 (by omega)) hlt
   have hx5:=ga7 (c:=c5) Tryz.underlying38 rh7 (ha5 (by omega)) hlt
   obtain⟨sv,g0,hr⟩:=HCELL2.out k hlt
   obtain⟨a3,b3,off3,c3,hs3,hl3,hc3,-,-,-,-⟩:=re7 hr
   obtain rfl:=List.cons.inj hs3 |>.1
   obtain⟨sv,g1,hr⟩:=HCELL5.out k (by rw[HL1.out];exact hlt)
   obtain⟨a7,b7,off7,c7,hs7,hl7,hc7,-,-,-,-⟩:=bb7 hr
   obtain rfl:=List.cons.inj hs7 |>.1
   have g0:=aa7 hst.bel g0
   have g1:=aa7 hst.bel g1
   have htl:=HT1.out _ (List.getElem_mem hlt)
   have HF:=hid (show eu7 p t (k+1)=(eu7 p t k&&decide ((t.trucks[k]'(by rw[HL1.out];exact hlt)).length=p.trucks[k].length)) from by
    unfold eu7
    rw[pab7,List.getD_eq_getElem?_getD,List.getD_eq_getElem?_getD,List.getElem?_eq_getElem hlt,List.getElem?_eq_getElem (by rw[HL1.out];exact hlt)]
    rfl)
   obtain⟨n1,hn1⟩:∃n,n=(t.trucks[k]'(by rw[HL1.out];exact hlt)).length:=⟨_,rfl⟩
   obtain⟨n2,hn2⟩:∃n,n=p.trucks[k].length:=⟨_,rfl⟩
   rw[← hn1,← hn2]at HF
   rw[← hn1]at g1 hl7
   rw[← hn2]at g0 hl3 htl
   obtain⟨ok,hok⟩:∃b,b=eu7 p t k:=⟨_,rfl⟩
   rw[← hok]at HF ⊢
   have hal:Below wo.heap.size wo (wo.alloc (.cells #[.slice a3 n2 c3] 124)):=(Below.refl _ _).alloc (Nat.le_refl _) _
   have q0:=aa7 hal t0
   have q1:=aa7 hal g1
   have q2:=(Row.new (w:=wo) (g:=wo.heap.size) (e:=124) (cs:=[.slice a3 n2 c3]) rfl).cell (j:=0) (by simp)
   simp only[List.getElem_cons_zero]at q2
   have HS1:=hid (HST.out.below hal)
   obtain⟨X,hX⟩:∃X,X=wo.heap.size:=⟨_,rfl⟩
   rw[← hX]at q2
   clear hs3 hs7 hr hn1 hn2 hok hst hal
   go_upto_region 5 with fail
   rw[← hX]
   generalize wo.alloc (.cells #[.slice a3 n2 c3] 124)=wq at HS1 q0 q1 q2 ⊢
   clear hX p0 p1 t0 t1 g0 g1
   cases ok
   ·go_wp2
    go_quiet (fail)
    go_wp2
    go_roundw
    case rel=>exact⟨k+1,by omega,by go_num,by rw[HF.out];rfl,HS1.out.drewN _⟩
    case measure=>simp[intOf];omega
   ·go_wp2
    go_quiet (fail)
    go_wp2
    go_roundw
    case rel=>exact⟨k+1,by omega,by go_num,by rw[HF.out,Bool.true_and];exact congrArg Value.bool (ux7 _ _),HS1.out.drewN _⟩
    case measure=>simp[intOf];omega
  ·obtain rfl:k=p.trucks.length:=by omega
   obtain⟨ot,hot⟩:∃b,b=eu7 p t p.trucks.length:=⟨_,rfl⟩
   rw[← hot]
   go_wp2
   go_loopw [5,51] (fun ov kv wr=>∃k:Nat,k≤p.bikes.length∧kv = .int .i64 k∧ov = .bool (ot&&sq7 p t k)∧FSt w 37 41 [.slice a2 p.trucks.length c2,.slice a4 p.bikes.length c4] [.slice a5 p.trucks.length c5,.slice a6 p.bikes.length c6] wr) (fun _ kv _=>p.bikes.length-(intOf kv).toNat)
   case atStart=>exact⟨0,Nat.zero_le _,rfl,by simp[sq7],HST.out⟩
   case round =>
    clear p0 p1 t0 t1 HST hst
    obtain⟨k,hk,rfl,rfl,hst⟩:=hrel
    obtain⟨wo,rfl⟩:∃wo:World,wo=wr:=⟨_,rfl⟩
    have HST:=hid hst
    obtain⟨p0,p1⟩:=kc7 hst.one
    obtain⟨t0,t1⟩:=kc7 hst.two
    by_cases hlt:k<p.bikes.length
    ·have hx:=ob7 (c:=c4) Tryz.underlying35 mi7 (ha4 (by omega)) hlt
     have hx5:=ob7 (c:=c6) Tryz.underlying39 thb7 (ha6 (by omega)) hlt
     obtain⟨sv,g0,g00,-,hr⟩:=HCELL4.out k hlt
     obtain⟨a3,b3,off3,c3,hs3,hl3,hc3,-,-,-,-⟩:=bb7 hr
     obtain rfl:=List.cons.inj hs3 |>.1
     obtain⟨sv,-,g1,-,-,-,hr⟩:=HCELL6.out k (by rw[HL2.out];exact hlt)
     obtain⟨a7,b7,off7,c7,hs7,hl7,hc7,-,-,-,-⟩:=bb7 hr
     obtain rfl:=List.cons.inj hs7 |>.1
     have g0:=aa7 hst.bel g0
     have g00:=aa7 hst.bel g00
     have g1:=aa7 hst.bel g1
     have htl:=HB1.out _ (List.getElem_mem hlt)
     have HF:=hid (show sq7 p t (k+1)=(sq7 p t k&&decide ((t.bikes[k]'(by rw[HL2.out];exact hlt)).starts.length=p.bikes[k].stops.length)) from by
      unfold sq7 ufb7
      rw[pab7,List.getD_eq_getElem?_getD,List.getD_eq_getElem?_getD,List.getElem?_eq_getElem hlt,List.getElem?_eq_getElem (by rw[HL2.out];exact hlt)]
      rfl)
     obtain⟨n1,hn1⟩:∃n,n=(t.bikes[k]'(by rw[HL2.out];exact hlt)).starts.length:=⟨_,rfl⟩
     obtain⟨n2,hn2⟩:∃n,n=p.bikes[k].stops.length:=⟨_,rfl⟩
     obtain⟨sa,hsa⟩:∃n,n=p.bikes[k].sat:=⟨_,rfl⟩
     rw[← hn1,← hn2]at HF
     rw[← hn1]at g1 hl7
     rw[← hn2]at g00 hl3 htl
     rw[← hsa]at g0
     have HFN:=hid (show ∀ok,ok=(ot&&sq7 p t k)→(ot&&sq7 p t (k+1))=(ok&&decide (n1=n2)) from fun ok h=>by rw[h,HF.out,Bool.and_assoc])
     obtain⟨ok,hok⟩:∃b,b=(ot&&sq7 p t k):=⟨_,rfl⟩
     rw[← hok]
     have HF2:=hid (HFN.out ok hok)
     have hal:Below wo.heap.size wo (wo.alloc (.cells #[.int .i64 sa,.slice a3 n2 c3] 70)):=(Below.refl _ _).alloc (Nat.le_refl _) _
     have q0:=aa7 hal t1
     have q1:=aa7 hal g1
     have q2:=(Row.new (w:=wo) (g:=wo.heap.size) (e:=70) (cs:=[.int .i64 sa,.slice a3 n2 c3]) rfl).cell (j:=1) (by simp)
     simp only[List.getElem_cons_succ,List.getElem_cons_zero]at q2
     have HS1:=hid (HST.out.below hal)
     obtain⟨X,hX⟩:∃X,X=wo.heap.size:=⟨_,rfl⟩
     rw[← hX]at q2
     clear hs3 hs7 hr hn1 hn2 hok hst hal hsa HF HFN
     go_upto_region 10 with fail
     rw[← hX]
     generalize wo.alloc (.cells #[.int .i64 sa,.slice a3 n2 c3] 70)=wq at HS1 q0 q1 q2 ⊢
     clear hX p0 p1 t0 t1 g0 g00 g1
     cases ok
     ·go_wp2
      go_quiet (fail)
      go_wp2
      go_roundw
      case rel=>exact⟨k+1,by omega,by go_num,by rw[HF2.out];rfl,HS1.out.drewN _⟩
      case measure=>simp[intOf];omega
     ·go_wp2
      go_quiet (fail)
      go_wp2
      go_roundw
      case rel=>exact⟨k+1,by omega,by go_num,by rw[HF2.out,Bool.true_and];exact congrArg Value.bool (ux7 _ _),HS1.out.drewN _⟩
      case measure=>simp[intOf];omega
    ·obtain rfl:k=p.bikes.length:=by omega
     go_wp2
     go_ret
     exact⟨by rw[hot];rfl,HST.out.bel⟩
end Go.Proofs.YtabadfkikdefeaaGreat
