/- Contract: wharfagelaw17.Code answers as plan.Check, of an instance that may be. -/
import Derived.Deep.DeepCutAuto
import Derived.BigRegion
import Derived.Test.YtedahhjopmkbbaaGreatP4
set_option linter.all false
set_option maxRecDepth 100000
set_option maxHeartbeats 6400000
namespace Go.Proofs.YtedahhjopmkbbaaGreat
open Go.RowKit
structure ji7 (w0:World) (gd gl:Nat) (ic pc:List Value) (dr lo sv:List Int) (w:World):Prop where
 inst:Row w w0.heap.size 81 ic
 plan:Row w (w0.heap.size+1) 41 pc
 serv:Row w (w0.heap.size+2) 3 (sv.map jc7)
 drop:Row w gd 2 (dr.map jc7)
 load:Row w gl 2 (lo.map jc7)
 bel:Below w0.heap.size w0 w
 ne:gd≠gl∧w0.heap.size+2<gd∧w0.heap.size+2<gl
theorem ji7.below {w0:World}{gd gl:Nat}{ic pc:List Value}{dr lo sv:List Int}{w w':World}(h:ji7 w0 gd gl ic pc dr lo sv w) (hb:Below w.heap.size w w'):ji7 w0 gd gl ic pc dr lo sv w' :=
 ⟨h.inst.below hb,h.plan.below hb,h.serv.below hb,h.drop.below hb,h.load.below hb,pa7 h.bel hb,h.ne⟩
theorem ji7.alloc {w0:World}{gd gl:Nat}{ic pc:List Value}{dr lo sv:List Int}{w:World}(h:ji7 w0 gd gl ic pc dr lo sv w) (o:Obj):ji7 w0 gd gl ic pc dr lo sv (w.alloc o):=h.below ((Below.refl _ _).alloc (Nat.le_refl _) _)
theorem ji7.drew {w0:World}{gd gl:Nat}{ic pc:List Value}{dr lo sv:List Int}{w:World}(h:ji7 w0 gd gl ic pc dr lo sv w):ji7 w0 gd gl ic pc dr lo sv w.drew:=h.below (Below.refl _ _).drew
theorem ji7.setDrop {w0:World}{gd gl:Nat}{ic pc:List Value}{dr lo sv:List Int}{w:World}(h:ji7 w0 gd gl ic pc dr lo sv w) {j:Nat}(hj:j<dr.length) (v:Int):ji7 w0 gd gl ic pc (dr.set j v) lo sv (w.setCell ⟨gd,j,none⟩ (.int .i64 v)):=by
 obtain⟨n1,n2,n3⟩:=h.ne
 refine⟨h.inst.setOther (by show w0.heap.size≠gd;omega) _,h.plan.setOther (by show w0.heap.size+1≠gd;omega) _,h.serv.setOther (by show w0.heap.size+2≠gd;omega) _, ?_,h.load.setOther (by show gl≠gd;omega) _,h.bel.setCell (by show w0.heap.size≤gd;omega) _,h.ne⟩
 rw[List.map_set]
 exact h.drop.set (by rw[List.length_map];exact hj) _
theorem ji7.setLoad {w0:World}{gd gl:Nat}{ic pc:List Value}{dr lo sv:List Int}{w:World}(h:ji7 w0 gd gl ic pc dr lo sv w) {j:Nat}(hj:j<lo.length) (v:Int):ji7 w0 gd gl ic pc dr (lo.set j v) sv (w.setCell ⟨gl,j,none⟩ (.int .i64 v)):=by
 obtain⟨n1,n2,n3⟩:=h.ne
 refine⟨h.inst.setOther (by show w0.heap.size≠gl;omega) _,h.plan.setOther (by show w0.heap.size+1≠gl;omega) _,h.serv.setOther (by show w0.heap.size+2≠gl;omega) _,h.drop.setOther (by show gd≠gl;omega) _, ?_,h.bel.setCell (by show w0.heap.size≤gl;omega) _,h.ne⟩
 rw[List.map_set]
 exact h.load.set (by rw[List.length_map];exact hj) _
theorem ji7.setServ {w0:World}{gd gl:Nat}{ic pc:List Value}{dr lo sv:List Int}{w:World}(h:ji7 w0 gd gl ic pc dr lo sv w) {j:Nat}(hj:j<sv.length) (v:Int):ji7 w0 gd gl ic pc dr lo (sv.set j v) (w.setCell ⟨w0.heap.size+2,j,none⟩ (.int .i64 v)):=by
 obtain⟨n1,n2,n3⟩:=h.ne
 refine⟨h.inst.setOther (by show w0.heap.size≠w0.heap.size+2;omega) _,h.plan.setOther (by show w0.heap.size+1≠w0.heap.size+2;omega) _, ?_,h.drop.setOther (by show gd≠w0.heap.size+2;omega) _,h.load.setOther (by show gl≠w0.heap.size+2;omega) _,h.bel.setCell (by show w0.heap.size≤w0.heap.size+2;omega) _,h.ne⟩
 rw[List.map_set]
 exact h.serv.set (by rw[List.length_map];exact hj) _
theorem ync7 {w:World}{F G:Nat→Prop}{x:ca7}{p:ua7}{cs ps:List Value}(h:erb7.rep w F x cs) (hp:ecb7.rep w G p ps) (hck:check x=0) (hn:x.custs.length≤6) (hsm:wx7 p) :
  Calls Tryz.prog 21 #[.agg cs.toArray,.agg ps.toArray] w fun e w'=>e = .returned (.int .i64 (fb7 x p))∧Below w.heap.size w w':=by
 have gd:=rl7 hck
 obtain⟨s,c,co,ti,rfl,-,h1,h2,-,-⟩:=h
 obtain⟨a,b,off,c1,hs,hlc,hc,ha,-,hcell,-⟩:=uhb7 h1
 obtain rfl:=List.cons.inj hs |>.1
 obtain⟨a',b',off',c1',hs',hlc',hc',ha',-,hcell',-⟩:=mz7 h2
 obtain rfl:=List.cons.inj hs' |>.1
 obtain⟨tv,bv,rfl,h3,h4⟩:=hp
 obtain⟨a2,b2,off2,c2,hs2,hl2,hc2,ha2,-,hcell2⟩:=xi7 h3
 obtain rfl:=List.cons.inj hs2 |>.1
 obtain⟨a4,b4,off4,c4,hs4,hl4,hc4,ha4,-,hcell4⟩:=mk7 h4
 obtain rfl:=List.cons.inj hs4 |>.1
 clear hs hs' hs2 hs4 h1 h2 h3 h4
 have R0:=(Row.new (w:=w) (e:=81) (cs:=[.int .i64 x.fin,.int .i64 x.tmany,.int .i64 x.troom,.int .i64 x.bmany,.int .i64 x.broom,.slice a x.sats.length c1,.slice a' x.custs.length c1',co,ti]) rfl).alloc (.cells #[.slice a2 p.trucks.length c2,.slice a4 p.bikes.length c4] 41)
 have P0:=Row.new (w:=w.alloc (.cells #[.int .i64 x.fin,.int .i64 x.tmany,.int .i64 x.troom,.int .i64 x.bmany,.int .i64 x.broom,.slice a x.sats.length c1,.slice a' x.custs.length c1',co,ti] 81)) (e:=41) (g:=w.heap.size+1) (cs:=[.slice a2 p.trucks.length c2,.slice a4 p.bikes.length c4]) (by simp)
 have hb0:Below w.heap.size w ((w.alloc (.cells #[.int .i64 x.fin,.int .i64 x.tmany,.int .i64 x.troom,.int .i64 x.bmany,.int .i64 x.broom,.slice a x.sats.length c1,.slice a' x.custs.length c1',co,ti] 81)).alloc (.cells #[.slice a2 p.trucks.length c2,.slice a4 p.bikes.length c4] 41)):=((Below.refl _ _).alloc (Nat.le_refl _) _).alloc (by simp) _
 have HCELL:=hid hcell
 have HCELL':=hid hcell'
 have HCELL2:=hid hcell2
 have HCELL4:=hid hcell4
 have HSM:=hid hsm
 have HCK:=hid hck
 have hss:=gd.sats
 have htr:=gd.troom
 have hbr:=gd.broom
 have HCU:=hid (show ∀c∈x.custs,0≤c.load∧c.load≤1000000000 from fun c hc=>by have:=(gd.cust c hc).1;omega)
 have HSAT:=hid gd.sat
 clear hcell hcell' hcell2 hcell4 hsm hck gd
 go_enter Tryz.func21,Tryz.ntmps21
 by_cases e1:x.tmany<p.trucks.length
 ·have HE:=hid (show fb7 x p=11 from by unfold fb7;rw[if_neg (by simpa using HCK.out),if_pos (.inl e1)])
  go_wp2
  go_ret
  exact⟨tj7 HE.out.symm,hb0⟩
 by_cases e2:x.bmany<p.bikes.length
 ·have HE:=hid (show fb7 x p=11 from by unfold fb7;rw[if_neg (by simpa using HCK.out),if_pos (.inr e2)])
  go_wp2
  go_ret
  exact⟨tj7 HE.out.symm,hb0⟩
 have HF:=hid (show ¬(x.tmany<p.trucks.length∨x.bmany<p.bikes.length) from by omega)
 obtain⟨i0,hi,hz0,hz1,hz2⟩:=info_parts lbb7
 have hmk:=aq7 Tryz.underlying72 hi hz0 hz1 hz2 (n:=x.custs.length) (by omega)
 obtain⟨i1,hi1,hy0,hy1,hy2⟩:=info_parts xbb7
 have hmk2:=aq7 Tryz.underlying60 hi1 hy0 hy1 hy2 (n:=x.sats.length) (by omega)
 clear hi hz0 hz1 hz2 i0 hi1 hy0 hy1 hy2 i1
 have R1:=(R0.alloc (.cells (Array.replicate x.custs.length (jc7 0)) 3)).drew
 have P1:=(P0.alloc (.cells (Array.replicate x.custs.length (jc7 0)) 3)).drew
 have S1:=(Row.make (w:=(w.alloc (.cells #[.int .i64 x.fin,.int .i64 x.tmany,.int .i64 x.troom,.int .i64 x.bmany,.int .i64 x.broom,.slice a x.sats.length c1,.slice a' x.custs.length c1',co,ti] 81)).alloc (.cells #[.slice a2 p.trucks.length c2,.slice a4 p.bikes.length c4] 41)) (n:=x.custs.length) (e:=3)).drew
 have B1:=(hb0.alloc (by simp;omega) (.cells (Array.replicate x.custs.length (jc7 0)) 3)).drew
 clear R0 P0 hb0
 go_wp2
 go_region
 generalize hwz:(((w.alloc (.cells #[.int .i64 x.fin,.int .i64 x.tmany,.int .i64 x.troom,.int .i64 x.bmany,.int .i64 x.broom,.slice a x.sats.length c1,.slice a' x.custs.length c1',co,ti] 81)).alloc (.cells #[.slice a2 p.trucks.length c2,.slice a4 p.bikes.length c4] 41)).alloc (.cells (Array.replicate x.custs.length (jc7 0)) 3)).drew=wz at R1 P1 S1 B1 ⊢
 have hzz:wz.heap.size=w.heap.size+3:=by rw[← hwz];simp
 have hsrv:((w.alloc (.cells #[.int .i64 x.fin,.int .i64 x.tmany,.int .i64 x.troom,.int .i64 x.bmany,.int .i64 x.broom,.slice a x.sats.length c1,.slice a' x.custs.length c1',co,ti] 81)).alloc (.cells #[.slice a2 p.trucks.length c2,.slice a4 p.bikes.length c4] 41)).heap.size=w.heap.size+2:=by simp
 rw[hsrv]at S1
 have q5:wz.cell? ⟨w.heap.size,5,none⟩=some (.slice a x.sats.length c1):=R1.get rfl
 obtain⟨ic,hic⟩:∃ic:List Value,ic=[.int .i64 x.fin,.int .i64 x.tmany,.int .i64 x.troom,.int .i64 x.bmany,.int .i64 x.broom,.slice a x.sats.length c1,.slice a' x.custs.length c1',co,ti]:=⟨_,rfl⟩
 obtain⟨pc,hpc⟩:∃pc:List Value,pc=[.slice a2 p.trucks.length c2,.slice a4 p.bikes.length c4]:=⟨_,rfl⟩
 have HIC:=hid hic
 have HPC:=hid hpc
 rw[← hic]at R1
 rw[← hpc]at P1
 clear hwz hsrv hic hpc
 go_upto_region 6 with fail
 go_cut [10,11] (fun dv lv wx=>∃gd gl:Nat,dv = .slice (some ⟨gd,0,none⟩) x.sats.length x.sats.length∧lv = .slice (some ⟨gl,0,none⟩) x.sats.length x.sats.length ∧
  ji7 w gd gl ic pc (gf7 x.sats.length) (gf7 x.sats.length) (gf7 x.custs.length) wx)
 case first =>
  as_aux_lemma =>
   have M0:Row (((wz.alloc (.cells (Array.replicate x.sats.length (jc7 0)) 2)).alloc (.cells (Array.replicate x.sats.length (jc7 0)) 2)).drew) (w.heap.size+3) 2 ((gf7 x.sats.length).map jc7):=by
    have:=(Row.make (w:=wz) (n:=x.sats.length) (e:=2)).alloc (.cells (Array.replicate x.sats.length (jc7 0)) 2)
    rw[hzz]at this
    exact this.drew
   have M1:Row (((wz.alloc (.cells (Array.replicate x.sats.length (jc7 0)) 2)).alloc (.cells (Array.replicate x.sats.length (jc7 0)) 2)).drew) (w.heap.size+4) 2 ((gf7 x.sats.length).map jc7):=by
    have:=Row.make (w:=wz.alloc (.cells (Array.replicate x.sats.length (jc7 0)) 2)) (n:=x.sats.length) (e:=2)
    rw[show (wz.alloc (.cells (Array.replicate x.sats.length (jc7 0)) 2)).heap.size=w.heap.size+4 by simp[hzz]]at this
    exact this.drew
   have hbz:Below wz.heap.size wz (((wz.alloc (.cells (Array.replicate x.sats.length (jc7 0)) 2)).alloc (.cells (Array.replicate x.sats.length (jc7 0)) 2)).drew):=(((Below.refl _ _).alloc (Nat.le_refl _) _).alloc (by simp) _).drew
   go_region
   all_goals
    go_wp2
    go_meet
   ·exact⟨w.heap.size+3,w.heap.size+4,by simp[hzz],by simp[hzz],R1.below hbz,P1.below hbz,S1.below hbz,M0,M1,pa7 B1 hbz,by omega⟩
   ·exact⟨w.heap.size+4,w.heap.size+3,by simp[hzz],by simp[hzz],R1.below hbz,P1.below hbz,S1.below hbz,M1,M0,pa7 B1 hbz,by omega⟩
 case rest =>
  clear R1 P1 S1 B1 q5 hzz hmk hmk2
  obtain⟨gd,gl,rfl,rfl,hC⟩:=hcut
  have pC:=hC.plan
  rw[HPC.out]at pC
  obtain⟨p0,p1⟩:=ry7 pC
  clear pC
  go_wp2
  go_loopw [8,9,63] (fun rv lv iv wr=>∃(k:Nat) (r ld:Bool) (out:List Int),k≤p.trucks.length∧iv = .int .i64 k∧rv = .bool r∧lv = .bool ld∧sqb7 x p.trucks k r ld out ∧
    ji7 w gd gl ic pc out (gf7 x.sats.length) (gf7 x.custs.length) wr) (fun _ _ i _=>p.trucks.length-(intOf i).toNat)
  case atStart=>exact⟨0,true,true,_,Nat.zero_le _,rfl,rfl,rfl,sqb7.start x p.trucks,hC⟩
  case round =>
   clear hC p0 p1
   obtain⟨k,r,ld,out,hk,rfl,rfl,rfl,hT,hC⟩:=hrel
   obtain⟨wo,rfl⟩:∃wo:World,wo=wr:=⟨_,rfl⟩
   have HT:=hid hT
   have HC:=hid hC
   clear hT hC
   by_cases hlt:k<p.trucks.length
   ·have hx:=nc7 (c:=c2) Tryz.underlying38 on7 (ha2 (by omega)) hlt
    obtain⟨sv,g0,hr0⟩:=HCELL2.out k hlt
    have htl:=zeb7 (List.getElem_mem hlt)
    obtain⟨tr,htr⟩:∃tr,tr=p.trucks[k]:=⟨_,rfl⟩
    rw[← htr]at hr0 htl
    have HTR:=hid htr
    have HSI:=hid (ww7.start2 HT.out hlt htr)
    obtain⟨a3,b3,off3,c3,hs3,hl3,hc3,ha3,-,hcell3,hwf3⟩:=ts7 hr0
    obtain rfl:=List.cons.inj hs3 |>.1
    have hb:=HC.out.bel
    have p0:=ea7 hb g0
    have HCELL3:=hid hcell3
    have hsl:(tr.length:Int)≤1000000:=by have:=HSM.out.2;omega
    clear hs3 hr0 g0 htr htl hcell3 hwf3
    go_upto_region 11 with fail
    generalize hwy:wo.alloc (.cells #[.slice a3 tr.length c3] 69)=wy
    have hby:Below wo.heap.size wo wy:=by rw[← hwy];exact (Below.refl _ _).alloc (Nat.le_refl _) _
    have HCY:=hid (HC.out.below hby)
    have HTY:=hid (show Row wy wo.heap.size 69 [.slice a3 tr.length c3] from by rw[← hwy];exact Row.new rfl)
    have z0:wy.cell? ⟨wo.heap.size,0,none⟩=some (.slice a3 tr.length c3):=HTY.out.get rfl
    clear hwy
    go_cut [8] (fun rv wx=>rv = .bool (r&&decide (0<tr.length))∧wx=wy)
    case first =>
     as_aux_lemma =>
      cases r
      ·go_wp2
       go_meet
       exact⟨rfl,rfl⟩
      ·by_cases e:0<tr.length
       ·go_wp2
        go_meet
        exact⟨by rw[decide_eq_true e];rfl,rfl⟩
       ·go_wp2
        go_meet
        exact⟨by rw[decide_eq_false e];rfl,rfl⟩
    case rest =>
     obtain⟨rfl,rfl⟩:=hcut
     have hb:=HCY.out.bel
     go_wp2
     go_loopw [8,14,77] (fun rv sv jv wx=>∃(j:Nat) (r2:Bool) (sum:Int) (o2:List Int),j≤tr.length∧jv = .int .i64 j∧rv = .bool r2∧sv = .int .i64 sum∧ww7 x p.trucks k tr j r2 ld sum o2 ∧
       ji7 w gd gl ic pc o2 (gf7 x.sats.length) (gf7 x.custs.length) wx∧wx.cell? ⟨wo.heap.size,0,none⟩=some (.slice a3 tr.length c3)) (fun _ _ jj _=>tr.length-(intOf jj).toNat)
     case atStart=>exact⟨0,_,0,out,Nat.zero_le _,rfl,rfl,rfl,HSI.out,HCY.out,z0⟩
     case round =>
      clear z0 hby hb
      obtain⟨j,r2,sum,o2,hj,rfl,rfl,rfl,hS,hC,z0⟩:=hrel
      obtain⟨wi,rfl⟩:∃wi:World,wi=wr:=⟨_,rfl⟩
      have HS:=hid hS
      have HC2:=hid hC
      have hsum:=hS.sumB
      have hb:=hC.bel
      clear hS hC
      by_cases hjt:j<tr.length
      ·have hy:=lh7 (c:=c3) Tryz.underlying67 mbb7 (ha3 (by omega)) hjt
       have g3:=ea7 hb (HCELL3.out j hjt).1
       have g4:=ea7 hb (HCELL3.out j hjt).2
       obtain⟨so,hso⟩:∃so,so=tr[j]:=⟨_,rfl⟩
       rw[← hso]at g3 g4
       obtain⟨st,lo⟩:=so
       simp only[]at g3 g4
       have HSO:=hid hso
       clear hso
       go_upto_region 15 with fail
       generalize hwy:wi.alloc (.cells #[.int .i64 st,.int .i64 lo] 66)=wy
       have hbi:Below wi.heap.size wi wy:=by rw[← hwy];exact (Below.refl _ _).alloc (Nat.le_refl _) _
       have HC3:=hid (HC2.out.below hbi)
       have HST:=hid (show Row wy wi.heap.size 66 [.int .i64 st,.int .i64 lo] from by rw[← hwy];exact Row.new rfl)
       have y0:wy.cell? ⟨wi.heap.size,0,none⟩=some (.int .i64 st):=HST.out.get rfl
       have y1:wy.cell? ⟨wi.heap.size,1,none⟩=some (.int .i64 lo):=HST.out.get rfl
       have z1:=ea7 hbi z0
       have q5:wy.cell? ⟨w.heap.size,5,none⟩=some (.slice a x.sats.length c1):=HC3.out.inst.get (by rw[HIC.out];rfl)
       obtain⟨tb,htb⟩:∃tb,tb=ug7 x st:=⟨_,rfl⟩
       have HTH:=hid (show Calls Tryz.prog 50 #[.int .i64 st,.pointer (some ⟨w.heap.size,0,none⟩)] wy fun e w'=>e = .returned (.bool tb)∧w'=wy from by rw[htb];exact otb7 (s:=st) q5)
       have HTB:=hid htb
       clear hwy g3 g4 z0 htb
       go_cut [8] (fun rv wx=>rv = .bool (((r2&&tb)&&decide (1≤lo))&&decide (lo≤1000000000))∧wx=wy)
       case first =>
        as_aux_lemma =>
         cases r2
         ·go_wp2
          go_meet
          exact⟨rfl,rfl⟩
         ·go_wp2_with fail
          refine HTH.out.mono ?_
          rintro e w1 ⟨rfl,rfl⟩
          cases tb
          ·go_wp2
           go_meet
           exact⟨rfl,rfl⟩
          ·by_cases f1:1≤lo
           ·by_cases f2:lo≤1000000000
            ·go_wp2
             go_meet
             exact⟨by rw[decide_eq_true f1,decide_eq_true f2];rfl,rfl⟩
            ·go_wp2
             go_meet
             exact⟨by rw[decide_eq_true f1,decide_eq_false (by omega)];rfl,rfl⟩
           ·go_wp2
            go_meet
            exact⟨by rw[decide_eq_false (by omega)];rfl,rfl⟩
       case rest =>
        obtain⟨rfl,rfl⟩:=hcut
        obtain⟨c0,hc0⟩:∃c0,c0=(((r2&&tb)&&decide (1≤lo))&&decide (lo≤1000000000)):=⟨_,rfl⟩
        rw[← hc0]
        have HC0:=hid hc0
        have hb3:=HC3.out.bel
        obtain rfl:=ha3 (by omega)
        clear hc0 HTH
        go_wp2
        go_loopw [8,104] (fun rv iv wx=>∃i:Nat,i≤j∧iv = .int .i64 i∧rv = .bool (c0&&(tr.take i).all (fun o=>o.sat != st))∧Below wc.heap.size wc wx) (fun _ iv _=>j-(intOf iv).toNat)
        case atStart=>exact⟨0,Nat.zero_le _,rfl,by simp,Below.refl _ _⟩
        case round =>
         obtain⟨i,hi,rfl,rfl,hbw⟩:=hrel
         obtain⟨wk,rfl⟩:∃wk:World,wk=wr:=⟨_,rfl⟩
         have y0':=ea7 hbw y0
         have y1':=ea7 hbw y1
         have z1':=ea7 hbw z1
         have hzk:wi.heap.size<wk.heap.size:=hdb7 y0'
         obtain⟨jb,hjb⟩:∃jb,jb=(c0&&(tr.take i).all (fun o=>o.sat != st)):=⟨_,rfl⟩
         rw[← hjb]
         have HJB:=hid hjb
         clear hjb y0 y1 z1 q5
         by_cases hit:i<j
         ·have hit2:i<tr.length:=by omega
          have hyi:=lh7 (c:=c3) Tryz.underlying67 mbb7 (a:=some ⟨b3,off3,none⟩) rfl hit
          have k3:=ea7 hbw (ea7 hb3 (HCELL3.out i hit2).1)
          have k4:=ea7 hbw (ea7 hb3 (HCELL3.out i hit2).2)
          have HAL:=hid (show (tr.take (i+1)).all (fun o=>o.sat != st)=((tr.take i).all (fun o=>o.sat != st)&&(tr[i].sat != st)) from by
           rw[List.take_succ_eq_append_getElem hit2,List.all_append];simp)
          obtain⟨oo,hoo⟩:∃oo,oo=tr[i]:=⟨_,rfl⟩
          rw[← hoo]at k3 k4 HAL
          obtain⟨os,ol⟩:=oo
          simp only[]at k3 k4 HAL
          clear hoo
          have hszk:=hbw.size
          as_aux_lemma =>
           cases jb
           ·go_wp2
            go_roundw
            case rel=>exact⟨i+1,by omega,by go_num,by rw[HAL.out,← Bool.and_assoc,← HJB.out];rfl,hbw.alloc hszk _⟩
            case measure=>simp[intOf];omega
           ·by_cases e:os=st
            ·have e1:(os==st)=true:=by simpa using e
             have e2:(os != st)=false:=by simpa using e
             clear e
             go_wp2
             go_roundw
             case rel=>exact⟨i+1,by omega,by go_num,by rw[HAL.out,← Bool.and_assoc,← HJB.out,e2];rfl,hbw.alloc hszk _⟩
             case measure=>simp[intOf];omega
            ·have e1:(os==st)=false:=by simpa using e
             have e2:(os != st)=true:=by simpa using e
             clear e
             go_wp2
             go_roundw
             case rel=>exact⟨i+1,by omega,by go_num,by rw[HAL.out,← Bool.and_assoc,← HJB.out,e2];rfl,hbw.alloc hszk _⟩
             case measure=>simp[intOf];omega
         ·have hij:i=j:=by omega
          subst hij
          have HJ2:=hid (show jb=(r2&&gi7 x (tr.take i) tr[i]) from by
           rw[HJB.out,HC0.out,← HSO.out]
           show _=(r2&&(((ug7 x st&&decide (1≤lo))&&decide (lo≤1000000000))&&_))
           rw[HTB.out,Bool.and_assoc,Bool.and_assoc,Bool.and_assoc,Bool.and_assoc,Bool.and_assoc])
          have HC4:=hid (HC3.out.below hbw)
          clear HJB HC0 HTB
          as_aux_lemma =>
           cases jb
           ·have HST2:=hid (ww7.stop2 hlt HTR.out HS.out hjt HJ2.out.symm)
            go_wp2
            go_roundw
            case rel=>exact⟨i+1,false,sum,o2,by omega,by go_num,rfl,rfl,HST2.out,HC4.out,z1'⟩
            case measure=>simp[intOf];omega
           ·have HST2:=hid (ww7.step HS.out hjt HJ2.out.symm)
            have hok:=by7 (Bool.and_eq_true_iff.1 HJ2.out.symm).2
            have hol:=HS.out.len
            have hsm9:=(HS.out.yes (Bool.and_eq_true_iff.1 HJ2.out.symm).1).2.2.2.2
            have htu:=tjb7 (l:=p.trucks) (k:=k+1)
            rw[uk7 hlt,← HTR.out]at htu
            rw[← HSO.out]at HST2 hok
            obtain⟨⟨f1,f2⟩,f3,f4⟩:=hok
            simp only[]at f1 f2 f3 f4 HST2
            have his:=nc7 (c:=x.sats.length) Tryz.underlying60 zq7 (a:=some ⟨gd,0,none⟩) rfl (k:=st.toNat) (n:=x.sats.length) (by omega)
            rw[Int.toNat_of_nonneg f1,Nat.zero_add]at his
            have hsl2:st.toNat<o2.length:=by omega
            have hov:=hsm9.get hsl2
            have hoc:=HC4.out.drop.cell (j:=st.toNat) (by rw[List.length_map];exact hsl2)
            rw[List.getElem_map]at hoc
            have hof:=HC4.out.drop.frozen st.toNat
            obtain⟨ov,hove⟩:∃ov,ov=o2[st.toNat]:=⟨_,rfl⟩
            rw[← hove]at hov hoc
            unfold jc7 at hoc
            have HN:=hid (show tk7 o2 ⟨st,lo⟩=o2.set st.toNat (ov+lo) from by
             show o2.set st.toNat (o2.getD st.toNat 0+lo)=_
             rw[hove,List.getD_eq_getElem?_getD,List.getElem?_eq_getElem hsl2];rfl)
            have hsm3:=HSM.out.2
            have hbd:1000000000*((kc7 p.trucks k+i:Nat):Int)≤1000000000*1000000:=by omega
            have HC5:=hid (HC4.out.setDrop hsl2 (ov+lo))
            have hgw:gd≠wo.heap.size:=by have:=HC.out.drop.lt;omega
            clear hove hsm9 htu hol hsl2 hsm3
            go_wp2
            go_region
            go_wp2
            go_roundw
            case rel=>exact⟨i+1,true,sum+lo,tk7 o2 ⟨st,lo⟩,by omega,by go_num,rfl,rfl,HST2.out,by rw[HN.out];exact HC5.out.drew,(World.cell?_of_block (w:=wk) (Below.heap_setCell _ _ _ _ (by show wo.heap.size≠gd;omega))).trans z1'⟩
            case measure=>simp[intOf];omega
      ·have hje:j=tr.length:=by omega
       subst hje
       have HD:=hid (ww7.done2 hlt HTR.out HS.out)
       have q2:wi.cell? ⟨w.heap.size,2,none⟩=some (.int .i64 x.troom):=HC2.out.inst.get (by rw[HIC.out];rfl)
       cases ld
       ·go_wp2
        go_roundw
        case rel=>exact⟨k+1,r2,false,o2,by omega,by go_num,rfl,rfl,HD.out,HC2.out⟩
        case measure=>simp[intOf];omega
       ·by_cases e:sum≤x.troom
        ·have HD2:=hid (show sqb7 x p.trucks (k+1) r2 true o2 from by have:=HD.out;rwa [decide_eq_true e]at this)
         go_wp2
         go_roundw
         case rel=>exact⟨k+1,r2,true,o2,by omega,by go_num,rfl,rfl,HD2.out,HC2.out⟩
         case measure=>simp[intOf];omega
        ·have HD2:=hid (show sqb7 x p.trucks (k+1) r2 false o2 from by have:=HD.out;rwa [decide_eq_false e]at this)
         go_wp2
         go_roundw
         case rel=>exact⟨k+1,r2,false,o2,by omega,by go_num,rfl,rfl,HD2.out,HC2.out⟩
         case measure=>simp[intOf];omega
   ·have hke:k=p.trucks.length:=by omega
    subst hke
    have pC:=HC.out.plan
    rw[HPC.out]at pC
    obtain⟨-,p1⟩:=ry7 pC
    have HBS:=hid (BInv.start x p.bikes r ld)
    clear pC
    as_aux_lemma =>
     go_wp2
     go_loopw [8,9,144] (fun rv lv iv wx=>∃(i:Nat) (r2 l2:Bool) (sv lo:List Int),i≤p.bikes.length∧iv = .int .i64 i∧rv = .bool r2∧lv = .bool l2∧BInv x p.bikes r ld i r2 l2 sv lo∧ji7 w gd gl ic pc out lo sv wx) (fun _ _ i _=>p.bikes.length-(intOf i).toNat)
     case atStart=>exact⟨0,r,ld,_,_,Nat.zero_le _,rfl,rfl,rfl,HBS.out,HC.out⟩
     case round =>
      clear p1 HBS
      obtain⟨i,r2,l2,sv,lo,hi,rfl,rfl,rfl,hBI,hC⟩:=hrel
      obtain⟨wb,rfl⟩:∃wb:World,wb=wr:=⟨_,rfl⟩
      have HBI:=hid hBI
      have HC2:=hid hC
      clear hBI hC
      by_cases hlt2:i<p.bikes.length
      ·have hx:=lh7 (c:=c4) Tryz.underlying39 np7 (ha4 (by omega)) hlt2
       obtain⟨bv,g0,g1,-,hr0⟩:=HCELL4.out i hlt2
       have hbl:=sjb7 (List.getElem_mem hlt2)
       obtain⟨bk,hbk⟩:∃bk,bk=p.bikes[i]:=⟨_,rfl⟩
       rw[← hbk]at g0 hr0 hbl
       have HBK:=hid hbk
       have HCI:=hid (ho7.start2 HBI.out hlt2 hbk)
       obtain⟨bs,bp⟩:=bk
       simp only[]at g0 hr0 hbl HCI
       obtain⟨a5,b5,off5,c5,hs5,hl5,hc5,ha5,-,hcell5,-⟩:=rh7 hr0
       obtain rfl:=List.cons.inj hs5 |>.1
       have hb:=HC2.out.bel
       have p0:=ea7 hb g0
       have p1:=ea7 hb g1
       have HCELL5:=hid hcell5
       have hbl2:(bp.length:Int)≤1000000:=by have:=HSM.out.1;omega
       clear hs5 hr0 g0 g1 hbk hcell5 hbl
       go_upto_region 31 with fail
       generalize hwy:wb.alloc (.cells #[.int .i64 bs,.slice a5 bp.length c5] 75)=wy
       have hby:Below wb.heap.size wb wy:=by rw[← hwy];exact (Below.refl _ _).alloc (Nat.le_refl _) _
       have HCY:=hid (HC2.out.below hby)
       have HTY:=hid (show Row wy wb.heap.size 75 [.int .i64 bs,.slice a5 bp.length c5] from by rw[← hwy];exact Row.new rfl)
       have z0:wy.cell? ⟨wb.heap.size,0,none⟩=some (.int .i64 bs):=HTY.out.get rfl
       have z1:wy.cell? ⟨wb.heap.size,1,none⟩=some (.slice a5 bp.length c5):=HTY.out.get rfl
       have q5:wy.cell? ⟨w.heap.size,5,none⟩=some (.slice a x.sats.length c1):=HCY.out.inst.get (by rw[HIC.out];rfl)
       obtain⟨tb,htb⟩:∃tb,tb=ug7 x bs:=⟨_,rfl⟩
       have HTH:=hid (show Calls Tryz.prog 50 #[.int .i64 bs,.pointer (some ⟨w.heap.size,0,none⟩)] wy fun e w'=>e = .returned (.bool tb)∧w'=wy from by rw[htb];exact otb7 (s:=bs) q5)
       rw[← htb]at HCI
       clear hwy htb p0 p1
       go_cut [8] (fun rv wx=>rv = .bool ((r2&&decide (0<bp.length))&&tb)∧wx=wy)
       case first =>
        as_aux_lemma =>
         cases r2
         ·go_wp2
          go_meet
          exact⟨rfl,rfl⟩
         ·by_cases hpos:0<bp.length
          ·go_wp2_with fail
           refine HTH.out.mono ?_
           rintro e w1 ⟨rfl,rfl⟩
           go_wp2
           go_meet
           exact⟨by rw[decide_eq_true hpos];rfl,rfl⟩
          ·go_wp2
           go_meet
           exact⟨by rw[decide_eq_false hpos];rfl,rfl⟩
       case rest =>
        obtain⟨rfl,rfl⟩:=hcut
        clear q5 HTH
        go_wp2
        go_loopw [8,21,164] (fun rv uv jv wx=>∃(j:Nat) (r3:Bool) (sum:Int) (sv3 lo3:List Int),j≤bp.length∧jv = .int .i64 j∧rv = .bool r3∧uv = .int .i64 sum∧ho7 x p.bikes r ld i ⟨bs,bp⟩ j r3 l2 sum sv3 lo3 ∧
          ji7 w gd gl ic pc out lo3 sv3 wx∧wx.cell? ⟨wb.heap.size,0,none⟩=some (.int .i64 bs)) (fun _ _ jj _=>bp.length-(intOf jj).toNat)
        case atStart=>exact⟨0,_,0,sv,lo,Nat.zero_le _,rfl,rfl,rfl,HCI.out,HCY.out,z0⟩
        case round =>
         clear z0 z1 hby hb
         obtain⟨j,r3,sum,sv3,lo3,hj,rfl,rfl,rfl,hCI,hC,z0⟩:=hrel
         obtain⟨wi,rfl⟩:∃wi:World,wi=wr:=⟨_,rfl⟩
         have HCI3:=hid hCI
         have HC3:=hid hC
         have hsum:=hCI.sumB
         have hb:=hC.bel
         clear hCI hC
         by_cases hjt:j<bp.length
         ·have hy:=nc7 (c:=c5) Tryz.underlying72 pt7 (ha5 (by omega)) hjt
          have g3:=ea7 hb (HCELL5.out j hjt)
          obtain⟨cu,hcu⟩:∃cu,cu=bp[j]:=⟨_,rfl⟩
          rw[← hcu]at g3
          have HCC:=hid hcu
          clear hcu
          go_upto_region 35 with fail
          go_cut [8] (fun rv wx=>rv = .bool ((r3&&decide (0≤cu))&&decide (cu<x.custs.length))∧wx=wi)
          case first =>
           as_aux_lemma =>
            cases r3
            ·go_wp2
             go_meet
             exact⟨rfl,rfl⟩
            ·by_cases f1:0≤cu
             ·by_cases f2:cu<x.custs.length
              ·go_wp2
               go_meet
               exact⟨by rw[decide_eq_true f1,decide_eq_true f2];rfl,rfl⟩
              ·go_wp2
               go_meet
               exact⟨by rw[decide_eq_true f1,decide_eq_false (by omega)];rfl,rfl⟩
             ·go_wp2
              go_meet
              exact⟨by rw[decide_eq_false (by omega)];rfl,rfl⟩
          case rest =>
           obtain⟨rfl,rfl⟩:=hcut
           obtain⟨r4,hr4⟩:∃r4,r4=((r3&&decide (0≤cu))&&decide (cu<x.custs.length)):=⟨_,rfl⟩
           rw[← hr4]
           cases r4
           ·have HN:=hid (ho7.stop2 (sum':=sum) (sv':=sv3) (out':=lo3) hlt2 HBK.out HCI3.out hjt (fun h3 h4=>by
             have h5:bp[j]=cu:=HCC.out.symm
             rw[h3]at hr4
             have h4':(0≤bp[j]∧bp[j]<x.custs.length)∧_:=h4
             rw[h5]at h4'
             rw[decide_eq_true h4'.1.1,decide_eq_true h4'.1.2]at hr4
             cases hr4) HCI3.out.len HCI3.out.svL (by push_cast;omega))
            clear hr4
            go_wp2
            go_roundw
            case rel=>exact⟨j+1,false,sum,sv3,lo3,by omega,by go_num,rfl,rfl,HN.out,HC3.out,z0⟩
            case measure=>simp[intOf];omega
           ·have h4:=hr4.symm
            simp only[Bool.and_eq_true,decide_eq_true_eq]at h4
            obtain⟨⟨rfl,f1⟩,f2⟩:=h4
            clear hr4
            obtain⟨hbs,hv01,hsm9⟩:=HCI3.out.facts cu.toNat
            simp only[]at hbs
            have hcl:cu.toNat<x.custs.length:=by omega
            have hsl:cu.toNat<sv3.length:=by have:=HCI3.out.svL;omega
            have hol:bs.toNat<lo3.length:=by have:=HCI3.out.len;omega
            have hov:=hsm9.get hol
            have htu:=cab7 (l:=p.bikes) (k:=i+1)
            rw[th7 hlt2,← HBK.out]at htu
            have htu2:ic7 p.bikes i+bp.length≤ic7 p.bikes p.bikes.length:=htu
            have hsm3:=HSM.out.1
            have hbd:1000000000*((ic7 p.bikes i+j:Nat):Int)≤1000000000*1000000:=by omega
            have hld:=HCU.out _ (List.getElem_mem hcl)
            have k00:=(HCELL'.out cu.toNat hcl).1
            have hgv:sv3.getD cu.toNat 0=sv3[cu.toNat]:=by rw[List.getD_eq_getElem?_getD,List.getElem?_eq_getElem hsl];rfl
            have hgo:lo3.getD bs.toNat 0=lo3[bs.toNat]:=by rw[List.getD_eq_getElem?_getD,List.getElem?_eq_getElem hol];rfl
            have hgc:(x.custs.getD cu.toNat ⟨0,0,0,0⟩).load=(x.custs[cu.toNat]).load:=by rw[List.getD_eq_getElem?_getD,List.getElem?_eq_getElem hcl];rfl
            have HN:=hid (ho7.go hlt2 HBK.out HCI3.out hjt HCU.out HCC.out ⟨f1,f2⟩ hgv hgo hgc)
            have c0:=HC3.out.serv.cell (j:=cu.toNat) (by rw[List.length_map];exact hsl)
            have c1v:=HC3.out.load.cell (j:=bs.toNat) (by rw[List.length_map];exact hol)
            rw[List.getElem_map]at c0 c1v
            rw[hgv]at hv01
            obtain⟨sv0,hsv0⟩:∃v,v=sv3[cu.toNat]:=⟨_,rfl⟩
            obtain⟨ov,hove⟩:∃v,v=lo3[bs.toNat]:=⟨_,rfl⟩
            obtain⟨cd,hcd⟩:∃v,v=(x.custs[cu.toNat]).load:=⟨_,rfl⟩
            rw[← hsv0]at c0 hv01 HN
            rw[← hove]at c1v hov HN
            rw[← hcd]at k00 hld HN
            simp only[]at HN
            unfold jc7 at c0 c1v
            have iv:=nc7 (c:=x.custs.length) Tryz.underlying72 pt7 (a:=some ⟨w.heap.size+2,0,none⟩) rfl (k:=cu.toNat) (n:=x.custs.length) hcl
            rw[Int.toNat_of_nonneg f1,Nat.zero_add]at iv
            have il:=nc7 (c:=x.sats.length) Tryz.underlying60 zq7 (a:=some ⟨gl,0,none⟩) rfl (k:=bs.toNat) (n:=x.sats.length) (by omega)
            rw[Int.toNat_of_nonneg hbs.1,Nat.zero_add]at il
            have ic2:=lh7 (c:=c1') Tryz.underlying79 azb7 (ha' (by omega)) hcl
            rw[Int.toNat_of_nonneg f1]at ic2
            have hwbz:w.heap.size+2<wb.heap.size:=by have:=HC2.out.serv.lt;omega
            have hlbz:gl<wb.heap.size:=by have:=HC2.out.load.lt;omega
            clear hgv hgo hgc hsm9 htu htu2 hsm3
            have hfz:=HC3.out.serv.frozen cu.toNat
            have HOV:=hid hove
            clear hove hsv0 hcd
            go_upto_region 38 with fail
            generalize hwv:wc.setCell ⟨w.heap.size+2,cu.toNat,none⟩ (.int .i64 (sv0+1))=wv
            have HC4:=hid (show ji7 w gd gl ic pc out lo3 (sv3.set cu.toNat (sv0+1)) wv from by rw[← hwv];exact HC3.out.setServ hsl (sv0+1))
            have s1:=HC4.out.serv.cell (j:=cu.toNat) (by rw[List.length_map,List.length_set];exact hsl)
            rw[List.getElem_map,List.getElem_set_self]at s1
            have c2v:=HC4.out.load.cell (j:=bs.toNat) (by rw[List.length_map];exact hol)
            rw[List.getElem_map,← HOV.out]at c2v
            unfold jc7 at s1 c2v
            have z0':wv.cell? ⟨wb.heap.size,0,none⟩=some (.int .i64 bs):=by rw[← hwv];exact (World.cell?_of_block (Below.heap_setCell _ _ _ _ (by show wb.heap.size≠w.heap.size+2;omega))).trans z0
            have q6:wv.cell? ⟨w.heap.size,6,none⟩=some (.slice a' x.custs.length c1'):=HC4.out.inst.get (by rw[HIC.out];rfl)
            have k0:=ea7 HC4.out.bel k00
            have hfr:=HC4.out.load.frozen bs.toNat
            clear hwv c0 c1v z0 k00 iv g3 hb
            have iv:=nc7 (c:=x.custs.length) Tryz.underlying72 pt7 (a:=some ⟨w.heap.size+2,0,none⟩) rfl (k:=cu.toNat) (n:=x.custs.length) hcl
            rw[Int.toNat_of_nonneg f1,Nat.zero_add]at iv
            go_wp2
            go_region
            go_wp2
            go_roundw
            case rel=>exact⟨j+1,_,sum+cd,_,_,by omega,by go_num,rfl,rfl,HN.out,(HC4.out.setLoad hol (ov+cd)).drew,(World.cell?_of_block (w:=wv) (Below.heap_setCell _ _ _ _ (by show wb.heap.size≠gl;omega))).trans z0'⟩
            case measure=>simp[intOf];omega
         ·have hje:j=bp.length:=by omega
          subst hje
          have HD:=hid (ho7.done2 hlt2 HBK.out HCI3.out)
          have q2:wi.cell? ⟨w.heap.size,4,none⟩=some (.int .i64 x.broom):=HC3.out.inst.get (by rw[HIC.out];rfl)
          cases l2
          ·go_wp2
           go_roundw
           case rel=>exact⟨i+1,r3,false,sv3,lo3,by omega,by go_num,rfl,rfl,HD.out,HC3.out⟩
           case measure=>simp[intOf];omega
          ·by_cases e:sum≤x.broom
           ·have HD2:=hid (show BInv x p.bikes r ld (i+1) r3 true sv3 lo3 from by have:=HD.out;rwa [decide_eq_true e]at this)
            go_wp2
            go_roundw
            case rel=>exact⟨i+1,r3,true,sv3,lo3,by omega,by go_num,rfl,rfl,HD2.out,HC3.out⟩
            case measure=>simp[intOf];omega
           ·have HD2:=hid (show BInv x p.bikes r ld (i+1) r3 false sv3 lo3 from by have:=HD.out;rwa [decide_eq_false e]at this)
            go_wp2
            go_roundw
            case rel=>exact⟨i+1,r3,false,sv3,lo3,by omega,by go_num,rfl,rfl,HD2.out,HC3.out⟩
            case measure=>simp[intOf];omega
      ·have hie:i=p.bikes.length:=by omega
       subst hie
       as_aux_lemma =>
        have HE0:=hid (gac7 hn HCK.out HT.out HBI.out HF.out)
        cases r2
        ·have HE:=hid (show fb7 x p=15 from by rw[HE0.out,if_pos rfl])
         go_wp2
         go_ret
         exact⟨tj7 HE.out.symm,HC2.out.bel⟩
        ·have HE1:=hid (show fb7 x p=if 0∈sv then 8 else if (l2 && !rt7 x lo x.sats.length)=false then 10 else if lo=out then 0 else 13 from by rw[HE0.out,if_neg (by decide)])
         have hsvl:=HBI.out.svL
         have hlol:=HBI.out.len
         obtain⟨hrt,-,-,hsl9⟩:=HBI.out.yes rfl
         have hdl:=HT.out.len
         have hsd9:=(HT.out.yes hrt).2.2
         have hwl:=ygb7 hsl9 HSM.out.1
         have hwd:=ygb7 hsd9 HSM.out.2
         have HR1:=hid (show (ia7 om7).rep wb (fun _=>True) lo [.slice (some ⟨gl,0,none⟩) x.sats.length x.sats.length] from by
          have:=rbb7 (F:=fun _=>True) HC2.out.load (Nat.le_refl _) (by unfold maxLen;omega) trivial hwl
          rwa [hlol]at this)
         have HR2:=hid (show (ia7 om7).rep wb (fun _=>True) out [.slice (some ⟨gd,0,none⟩) x.sats.length x.sats.length] from by
          have:=rbb7 (F:=fun _=>True) HC2.out.drop (Nat.le_refl _) (by unfold maxLen;omega) trivial hwd
          rwa [hdl]at this)
         clear HE0 hrt hsl9 hsd9 hwl hwd hdl
         go_wp2
         go_loop [225] (fun i=>∃k:Nat,k≤x.custs.length∧i = .int .i64 k∧∀j,j<k→sv.getD j 0≠0) (fun i=>x.custs.length-(intOf i).toNat)
         case atStart=>exact⟨0,Nat.zero_le _,rfl,fun j h=>absurd h (Nat.not_lt_zero _)⟩
         case round =>
          obtain⟨k,hk,rfl,hnz⟩:=hrel
          have HNZ:=hid hnz
          clear hnz
          by_cases hlt3:k<x.custs.length
          ·have hks:k<sv.length:=by omega
           have g0:=HC2.out.serv.cell (j:=k) (by rw[List.length_map];exact hks)
           rw[List.getElem_map]at g0
           have hix:=nc7 (c:=x.custs.length) Tryz.underlying72 pt7 (a:=some ⟨w.heap.size+2,0,none⟩) rfl hlt3
           rw[Nat.zero_add]at hix
           have hgv:sv.getD k 0=sv[k]:=by rw[List.getD_eq_getElem?_getD,List.getElem?_eq_getElem hks];rfl
           have hmem:sv[k]∈sv:=List.getElem_mem hks
           obtain⟨v,hv⟩:∃v,v=sv[k]:=⟨_,rfl⟩
           rw[← hv]at g0 hgv hmem
           have HGV:=hid hgv
           have HMEM:=hid hmem
           unfold jc7 at g0
           clear hv hgv hmem
           by_cases hv0:v=0
           ·have HE:=hid (show fb7 x p=8 from by rw[HE1.out,if_pos (hv0 ▸ HMEM.out)])
            have e1:(v==0)=true:=by simp[hv0]
            go_wp2
            go_ret
            exact⟨tj7 HE.out.symm,HC2.out.bel⟩
           ·have e1:(v==0)=false:=by simpa using hv0
            go_wp2
            go_round
            case rel=>exact⟨k+1,by omega,by go_num,fun j hj=>by
             by_cases e:j=k
             ·rw[e,HGV.out];exact hv0
             ·exact HNZ.out j (by omega)⟩
            case measure=>simp[intOf];omega
          ·have hke:k=x.custs.length:=by omega
           subst hke
           have HE2:=hid (show fb7 x p=if (l2 && !rt7 x lo x.sats.length)=false then 10 else if lo=out then 0 else 13 from by
            rw[HE1.out,if_neg]
            intro hm
            obtain⟨j,hj,e⟩:=List.getElem_of_mem hm
            exact HNZ.out j (by omega) (by rw[List.getD_eq_getElem?_getD,List.getElem?_eq_getElem hj];exact e))
           clear HE1 HNZ
           go_wp2
           go_loop [9,234] (fun lv i=>∃k:Nat,k≤x.sats.length∧i = .int .i64 k∧lv = .bool (l2 && !rt7 x lo k)) (fun _ i=>x.sats.length-(intOf i).toNat)
           case atStart=>exact⟨0,Nat.zero_le _,rfl,by simp[rt7]⟩
           case round =>
            obtain⟨k,hk,rfl,rfl⟩:=hrel
            obtain⟨lb,hlb⟩:∃lb,lb=(l2 && !rt7 x lo k):=⟨_,rfl⟩
            rw[← hlb]
            have HLB:=hid hlb
            clear hlb
            by_cases hlt4:k<x.sats.length
            ·have hkl:k<lo.length:=by omega
             have g0:=HC2.out.load.cell (j:=k) (by rw[List.length_map];exact hkl)
             rw[List.getElem_map]at g0
             have gs:=ea7 HC2.out.bel (HCELL.out k hlt4).1
             have q5:wb.cell? ⟨w.heap.size,5,none⟩=some (.slice a x.sats.length c1):=HC2.out.inst.get (by rw[HIC.out];rfl)
             have hix:=nc7 (c:=x.sats.length) Tryz.underlying60 zq7 (a:=some ⟨gl,0,none⟩) rfl hlt4
             have his:=lh7 (c:=c1) Tryz.underlying78 nnc7 (ha (by omega)) hlt4
             rw[Nat.zero_add]at hix
             obtain⟨v,hv⟩:∃v,v=lo[k]:=⟨_,rfl⟩
             obtain⟨rm,hr⟩:∃r,r=(x.sats[k]).room:=⟨_,rfl⟩
             rw[← hv]at g0
             rw[← hr]at gs
             unfold jc7 at g0
             have HO:=hid (show (l2 && !rt7 x lo (k+1))=(lb&&decide (v≤rm)) from by
              have e:(!decide (rm<v))=decide (v≤rm):=by rw[Bool.eq_iff_iff];simp
              rw[vqb7,HLB.out,Bool.not_or,← Bool.and_assoc,← e,hv,hr,List.getD_eq_getElem?_getD,List.getD_eq_getElem?_getD,List.getElem?_eq_getElem hlt4,List.getElem?_eq_getElem hkl];rfl)
             clear hv hr hkl
             cases lb
             ·go_wp2
              go_round
              case rel=>exact⟨k+1,by omega,by go_num,by rw[HO.out];rfl⟩
              case measure=>simp[intOf];omega
             ·by_cases hrv:v≤rm
              ·go_wp2
               go_round
               case rel=>exact⟨k+1,by omega,by go_num,by rw[HO.out,decide_eq_true hrv];rfl⟩
               case measure=>simp[intOf];omega
              ·go_wp2
               go_round
               case rel=>exact⟨k+1,by omega,by go_num,by rw[HO.out,decide_eq_false hrv];rfl⟩
               case measure=>simp[intOf];omega
            ·have hke:k=x.sats.length:=by omega
             subst hke
             cases lb
             ·have HE:=hid (show fb7 x p=10 from by rw[HE2.out,if_pos HLB.out.symm])
              go_wp2
              go_ret
              exact⟨tj7 HE.out.symm,HC2.out.bel⟩
             ·have HE3:=hid (show fb7 x p=if lo=out then 0 else 13 from by rw[HE2.out,if_neg (by rw[← HLB.out];decide)])
              clear HE2
              go_wp2_with fail
              refine (pob7 HR1.out HR2.out).mono ?_
              rintro e w6 ⟨rfl,nd,rfl⟩
              by_cases hd:lo=out
              ·have HE:=hid (show fb7 x p=0 from by rw[HE3.out,if_pos hd])
               rw[decide_eq_true hd]
               clear hd
               go_wp2
               go_ret
               exact⟨tj7 HE.out.symm,below_drewN HC2.out.bel _⟩
              ·have HE:=hid (show fb7 x p=13 from by rw[HE3.out,if_neg hd])
               rw[decide_eq_false hd]
               clear hd
               go_wp2
               go_ret
               exact⟨tj7 HE.out.symm,below_drewN HC2.out.bel _⟩
end Go.Proofs.YtedahhjopmkbbaaGreat
