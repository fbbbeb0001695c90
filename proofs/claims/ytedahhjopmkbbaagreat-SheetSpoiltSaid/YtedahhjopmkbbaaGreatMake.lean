/- Contracts: wharfagelaw11.Nodes, Make. -/
import Derived.Deep.DeepCutAuto
import Derived.Test.YtedahhjopmkbbaaGreatP1
set_option linter.all false
set_option maxRecDepth 100000
set_option maxHeartbeats 6400000
namespace Go.Proofs.YtedahhjopmkbbaaGreat
open Go.RowKit
theorem igb7 (w:World) (f1 f2 f3 f4 f5:Value) (a a':Option Addr) (n n' c c':Nat) (co ti:Value) (hn:n≤1000000) (hn':n'≤1000000) {N:Nat}(hN:1+n+n'=N) :
  Calls Tryz.prog 45 #[.agg #[f1,f2,f3,f4,f5,.slice a n c,.slice a' n' c',co,ti]] w fun e w'=>e = .returned (.int .i64 (N:Int))∧Below w.heap.size w w':=by
 go_enter Tryz.func45,Tryz.ntmps45
 go_wp2
 go_ret
 exact⟨tj7 (by omega),(Below.refl _ _).alloc (Nat.le_refl _) _⟩
theorem pbc7:(Tryz.prog.info? 123).map (fun i=>(i.zero,i.size,i.bytes))=some (some (.agg #[.int .i64 0,.int .i64 0]),2,16):=by kernel_rfl
theorem lyb7:(Tryz.prog.info? 127).map (fun i=>(i.zero,i.size,i.bytes))=some (some (.agg #[.int .i64 0,.int .i64 0,.int .i64 0,.int .i64 0]),4,32):=by kernel_rfl
theorem tgb7 {a w A:Int}(h0:0≤a) (h1:a≤A) (hw:1≤w∧w≤9):0≤w*a∧w*a≤9*A:=by
 constructor
 ·exact Int.mul_nonneg (by omega) h0
 ·exact Int.le_trans (Int.mul_le_mul_of_nonneg_right hw.2 h0) (Int.mul_le_mul_of_nonneg_left h1 (by omega))
theorem mfc7 {a w A:Int}(h0:0≤a) (h1:a≤A) (hw:1≤w∧w≤9):0≤a*w∧a*w≤9*A:=by
 rw[Int.mul_comm];exact tgb7 h0 h1 hw
def yV (x:jb7) (s c:Value):List Value :=
 [jc7 (40+x.fin*qe7 x),jc7 (1+x.trucks % 4),jc7 (5+qe7 x*(x.troom % 40)),jc7 (1+x.bikes % 6),jc7 (3+qe7 x*(x.broom % 20)),s,c,.slice none 0 0,.slice none 0 0]
theorem wqc7 {w:World}{F:Nat→Prop}{x:jb7}{cs:List Value}(h:bt7.rep w F x cs) :
  Calls Tryz.prog 18 #[.agg cs.toArray] w fun e w'=>∃ds,e = .returned (.agg ds.toArray)∧xe7 123 127 60 2 w' w.heap.size (yj7 x) ds∧Below w.heap.size w w':=by
 obtain⟨s,c,co,ti,rfl,⟨wf1,wf2,wf3,wf4,wf5⟩,h1,h2,h3,h4⟩:=h
 obtain⟨a,b,off,c1,hs,hlc,hc,ha,-,hcell,hwf⟩:=gbb7 h1
 obtain⟨a',b',off',c1',hs',hlc',hc',ha',-,hcell',hwf'⟩:=kz7 h2
 obtain rfl:=List.cons.inj hs |>.1
 obtain rfl:=List.cons.inj hs' |>.1
 clear hs hs' h1 h2
 unfold wf8 at wf1 wf2 wf3 wf4 wf5
 obtain⟨lo,hlo⟩:∃lo,x.loose=lo:=⟨_,rfl⟩
 obtain⟨tg,htg⟩:∃tg,x.tight=tg:=⟨_,rfl⟩
 rw[hlo,htg]
 have HW:=hid (show qe7 x=if lo then 9 else 1 from by unfold qe7;rw[hlo])
 have HL:=hid (show ∀c,xab7 x c=if tg then 1+c.load % 6+c.load / 32 else 1+c.load % 6 from fun c=>by unfold xab7;rw[htg])
 clear hlo htg
 go_enter Tryz.func18,Tryz.ntmps18
 go_upto_if 12 with fail
 go_cut [3] (fun s3 wx=>s3 = .int .i64 (qe7 x)∧Below w.heap.size w wx∧wx.heap.size=w.heap.size+2 ∧
  Row wx w.heap.size 26 [.int .u8 x.fin,.int .u8 x.trucks,.int .u8 x.troom,.int .u8 x.bikes,.int .u8 x.broom,.slice a x.sats.length c1,.slice a' x.custs.length c1',co,ti,.bool tg,.bool lo] ∧
  Row wx (w.heap.size+1) 81 [.int .i64 0,.int .i64 0,.int .i64 0,.int .i64 0,.int .i64 0,.slice none 0 0,.slice none 0 0,.slice none 0 0,.slice none 0 0])
 case first =>
  cases lo
  all_goals
   go_wp2
   go_meet
   exact⟨by rw[HW.out];rfl,((Below.refl _ _).alloc (Nat.le_refl _) _).alloc (by simp) _,by simp,(Row.new rfl).alloc _,Row.new (by simp)⟩
 case rest =>
  obtain⟨rfl,hb0,hz0,R0,R1⟩:=hcut
  have HR0:=hid R0
  have HR1:=hid R1
  have HZ:=hid hz0
  have hz:w.heap.size+1<wc.heap.size:=by omega
  have hzz:w.heap.size<wc.heap.size:=by omega
  have g0:=R0.cell (j:=0) (by simp)
  have g1:=R0.cell (j:=1) (by simp)
  have g2:=R0.cell (j:=2) (by simp)
  have g3:=R0.cell (j:=3) (by simp)
  have g4:=R0.cell (j:=4) (by simp)
  have g5:=R0.cell (j:=5) (by simp)
  simp only[List.getElem_cons_succ,List.getElem_cons_zero]at g0 g1 g2 g3 g4 g5
  clear R0 R1 hz0
  have hwd:1≤qe7 x∧qe7 x≤9:=by unfold qe7;split <;> omega
  obtain⟨wd,hwd'⟩:∃wd,wd=qe7 x:=⟨_,rfl⟩
  rw[← hwd']at hwd ⊢
  have HWD:=hid hwd'
  clear hwd'
  have b1:=mfc7 wf1.1 wf1.2 hwd
  have b2:=tgb7 (a:=x.troom % 40) (A:=39) (by omega) (by omega) hwd
  have b3:=tgb7 (a:=x.broom % 20) (A:=19) (by omega) (by omega) hwd
  go_wp2
  obtain⟨wm,rfl⟩:∃wm:World,wm=wc:=⟨_,rfl⟩
  have hyD:yV x (.slice none 0 0) (.slice none 0 0)=[.int .i64 (40+x.fin*wd),.int .i64 (1+x.trucks % 4),.int .i64 (5+wd*(x.troom % 40)),.int .i64 (1+x.bikes % 6),.int .i64 (3+wd*(x.broom % 20)),.slice none 0 0,.slice none 0 0,.slice none 0 0,.slice none 0 0]:=by
   unfold yV jc7;rw[← HWD.out]
  have HYD:=hid hyD
  clear hyD g0 g1 g2 g3 g4
  go_loopw [49] (fun ii wr=>∃(k:Nat) (ao:Option Addr) (cp:Nat),k≤x.sats.length∧ii = .int .i64 k∧wr.ownsRow (wm.heap.size+1) 123 2 (.slice ao (xd7 x k).length cp) (xd7 x k).length ((xd7 x k).flatMap tlb7) ∧
    Row wr wm.heap.size 81 (yV x (.slice ao (xd7 x k).length cp) (.slice none 0 0))∧Below wm.heap.size wm wr)
   (fun ii _=>x.sats.length-(intOf ii).toNat)
  case atStart =>
   refine⟨0,none,0,Nat.zero_le _,rfl,World.ownsRow_nil _ _ _ _, ?_,(Below.refl _ _).alloc (Nat.le_refl _) _⟩
   show Row _ _ _ (yV x (.slice none 0 0) (.slice none 0 0))
   rw[HYD.out]
   exact Row.new rfl
  case round =>
   obtain⟨k,ao,cp,hk,rfl,hown,hy,hb⟩:=hrel
   have HOWN:=hid hown
   have HY:=hid hy
   have hsz:wm.heap.size<wr.heap.size:=hy.lt
   have y5:=hy.cell (j:=5) (by simp[yV])
   simp only[yV,List.getElem_cons_succ,List.getElem_cons_zero]at y5
   have f5:=hy.frozen 5
   have hsl:=wr7 hk
   have HSL:=hid hsl
   clear hown hy
   by_cases hlt:k<x.sats.length
   ·have hx:=lh7 (c:=c1) Tryz.underlying22 qhc7 (ha (by omega)) hlt
    have hbw:Below w.heap.size w wr:=hb0.trans (hb.mono (by omega))
    have q0:=ea7 hbw (hcell k hlt).1
    have q1:=ea7 hbw (hcell k hlt).2
    have hwk:=hwf _ (List.getElem_mem hlt)
    unfold wf8 at hwk
    have b4:=tgb7 (a:=x.sats[k].room % 40) (A:=39) (by omega) (by omega) hwd
    have hsat:=hid (show lub7 x x.sats[k]=⟨4+wd*(x.sats[k].room % 40),x.sats[k].hold % 12⟩ from by unfold lub7;rw[HWD.out])
    clear hcell hcell' hwf hwf' ha ha' hbw
    by_cases h3:k<3
    ·have hlen:(xd7 x k).length=k:=by omega
     rw[hlen]at y5
     have HLEN:=hid hlen
     clear hlen hsl
     have HOWN2:Hid (wr.ownsRow (wm.heap.size+1) 123 2 (.slice ao k cp) k ((xd7 x k).flatMap tlb7)):=by have:=HOWN.out;rw[HLEN.out]at this;exact this
     have hown:=HOWN2.out
     obtain⟨i1,hi,hz0,hz1,hz2⟩:=info_parts pbc7
     go_wp2_with (at_builtin;refine wpList_append_own _ rfl _ _ 78 rfl (wm.heap.size+1) 123 i1 (.agg #[.int .i64 0,.int .i64 0]) 2 16 Tryz.underlying78 hi hz0 hz1 hz2 rfl (by decide) _ _ _ rfl ((hown.alloc _).alloc _) ⟨wr.heap.size+1,0,none⟩ 1 1 [.int .i64 (4+wd*(x.sats[k].room % 40)),.int .i64 (x.sats[k].hold % 12)] rfl rfl ?c1 ?c2 ?c3 ?c4 ?c5 ?_)
     case c1=>exact dn7 (by simp) _ _
     case c2=>intro u hu;simp at hu;rcases hu with rfl | rfl <;> rfl
     case c3=>unfold maxLen;omega
     case c4=>omega
     case c5=>simp;omega
     intro v' w1 hown' hgrow _
     have hblk:(Value.slice ao k cp).ownBlock≠some wm.heap.size:=fun e=>by
      have:=(HOWN2.out.lt _ e).1;omega
     have hy1:Row w1 wm.heap.size 81 (yV x (.slice ao (xd7 x k).length cp) (.slice none 0 0)) :=
      ((HY.out.alloc _).alloc _).keep (hgrow.block _ (by simp;omega) (fun e=>hblk e.symm))
     have hb1:Below wm.heap.size wm w1:=((hb.alloc (by omega) _).alloc (by simp;omega) _).grown hgrow (by simp;omega) (fun b hbk=>by have:=(HOWN2.out.lt _ hbk).1;omega)
     have HS:=hid (show (xd7 x (k+1)).flatMap tlb7=(xd7 x k).flatMap tlb7++[.int .i64 (4+wd*(x.sats[k].room % 40)),.int .i64 (x.sats[k].hold % 12)] from by
      rw[kvb7 hlt h3,List.flatMap_append,hsat.out];rfl)
     have HS1:=hid (show (xd7 x (k+1)).length=k+1 from by rw[wr7 (by omega)];omega)
     obtain⟨ao',cp',hv',-,-⟩:=eb7 hown'
     rw[hv']at hown'
     rw[hv']
     have HO1:=hid hown'
     have HY1:=hid hy1
     have z5:=hy1.cell (j:=5) (by simp[yV])
     simp only[yV,List.getElem_cons_succ,List.getElem_cons_zero]at z5
     have e5:=hy1.frozen 5
     clear hown' hgrow hv' hown hy1 hblk y5 f5 hi hz0 hz1 hz2 hsat
     go_wp2
     go_roundw
     case rel=>exact⟨k+1,ao',cp',by omega,by go_num,by rw[HS.out,HS1.out];exact ownsRow_setCell_below HO1.out (Nat.lt_succ_self _) _,by rw[HS1.out];exact HY1.out.set (j:=5) (by simp[yV]) _,hb1.setCell (Nat.le_refl _) _⟩
     case measure=>simp[intOf];omega
    ·have hlen:(xd7 x k).length=3:=by omega
     rw[hlen]at y5
     have HS:=hid (ezb7 (x:=x) (k:=k) (by omega))
     clear hlen hsl hsat
     go_wp2
     go_roundw
     case rel=>exact⟨k+1,ao,cp,by omega,by go_num,by rw[HS.out];exact HOWN.out.alloc _,by rw[HS.out];exact HY.out.alloc _,hb.alloc (by omega) _⟩
     case measure=>simp[intOf];omega
   ·have hks:k=x.sats.length:=by omega
    subst hks
    have hsl2:(xd7 x x.sats.length).length≤3:=by omega
    have r0:=(HR0.out.belowB hb (by omega)).cell (j:=6) (by simp)
    simp only[List.getElem_cons_succ,List.getElem_cons_zero]at r0
    clear hcell hwf ha hsl
    go_upto_if 78 with fail
    go_cut [] (fun wx=>∃gs cs1,Row wx gs 123 ((he7 x).flatMap tlb7)∧wm.heap.size<gs∧(he7 x).length≤cs1∧cs1≤maxLen ∧
     Row wx wm.heap.size 81 (yV x (.slice (some ⟨gs,0,none⟩) (he7 x).length cs1) (.slice none 0 0))∧Below wm.heap.size wm wx)
    case first =>
     by_cases hnil:x.sats=[]
     ·have hz8:(((xd7 x x.sats.length).length:Int)==0)=true:=by simp[xd7,hnil]
      have HN:=hid hnil
      clear hnil
      go_wp2
      go_meet
      have hso:he7 x=[⟨60,2⟩]:=by unfold he7;rw[if_pos HN.out]
      refine⟨wr.heap.size,1, ?_,by omega,by rw[hso];exact Nat.le_refl _,by decide, ?_,(hb.setCell (p:=⟨wm.heap.size,5,none⟩) (Nat.le_refl _) _).alloc (by simp[World.setCell];omega) _⟩
      ·rw[hso]
       exact Row.new (cs:=[.int .i64 60,.int .i64 2]) (by simp[World.setCell])
      ·rw[hso]
       exact (HY.out.set (j:=5) (by simp[yV]) _).alloc _
     ·have hz8:(((xd7 x x.sats.length).length:Int)==0)=false:=by
       have:0<x.sats.length:=List.length_pos_iff.2 hnil
       have h2:=HSL.out
       simp only[beq_eq_false_iff_ne];omega
      have hpos:0<(xd7 x x.sats.length).length:=by
       have:0<x.sats.length:=List.length_pos_iff.2 hnil
       have h2:=HSL.out
       omega
      have HN:=hid hnil
      clear hnil
      go_wp2
      go_meet
      have hso:he7 x=xd7 x x.sats.length:=by unfold he7;rw[if_neg HN.out]
      obtain⟨g,c,hv,h1,h2,h3,h4⟩:=Row.of_owns HOWN.out hpos
      simp only[Value.slice.injEq]at hv
      obtain⟨rfl,-,rfl⟩:=hv
      exact⟨g,cp,by rw[hso];exact h4,by omega,by rw[hso];exact h1,h2,by rw[hso];exact HY.out,hb⟩
    case rest =>
     clear hsl2 y5 f5 r0 HY HOWN HSL hb hsz ao cp
     obtain⟨gs,cs1,hgs,hgs1,hcs1,hcs2,hy,hb⟩:=hcut
     obtain⟨wn,rfl⟩:∃wn:World,wn=wc:=⟨_,rfl⟩
     have HGS:=hid hgs
     have HY:=hid hy
     have hsz:wm.heap.size<wn.heap.size:=hy.lt
     have hgl:gs<wn.heap.size:=hgs.lt
     have r0:=(HR0.out.belowB hb (by omega)).cell (j:=6) (by simp)
     simp only[List.getElem_cons_succ,List.getElem_cons_zero]at r0
     clear hgs hy
     go_wp2
     go_loopw [85] (fun ii wr=>∃(k:Nat) (ao:Option Addr) (cp:Nat),k≤x.custs.length∧ii = .int .i64 k∧wr.ownsRow wn.heap.size 127 4 (.slice ao (tb7 x k).length cp) (tb7 x k).length ((tb7 x k).flatMap xt7) ∧
       Row wr wm.heap.size 81 (yV x (.slice (some ⟨gs,0,none⟩) (he7 x).length cs1) (.slice ao (tb7 x k).length cp))∧Below wm.heap.size wm wr∧Row wr gs 123 ((he7 x).flatMap tlb7)∧wn.heap.size≤wr.heap.size)
      (fun ii _=>x.custs.length-(intOf ii).toNat)
     case atStart=>exact⟨0,none,0,Nat.zero_le _,rfl,World.ownsRow_nil _ _ _ _,HY.out,hb,HGS.out,Nat.le_refl _⟩
     case round =>
      obtain⟨k,ao,cp,hk,rfl,hown,hy,hb',hgs',hsn⟩:=hrel
      clear hb HY HGS r0
      have HOWN:=hid hown
      have HY:=hid hy
      have HGS:=hid hgs'
      have y6:=hy.cell (j:=6) (by simp[yV])
      simp only[yV,List.getElem_cons_succ,List.getElem_cons_zero]at y6
      have f6:=hy.frozen 6
      have hsz':wm.heap.size<wr.heap.size:=hy.lt
      have hgl':gs<wr.heap.size:=hgs'.lt
      have hzw:w.heap.size<wr.heap.size:=by omega
      have hsl:=jp7 hk
      have HSL:=hid hsl
      clear hown hy hgs'
      by_cases hlt:k<x.custs.length
      ·have hx:=lh7 (c:=c1') Tryz.underlying23 jkc7 (ha' (by omega)) hlt
       have hbw:Below w.heap.size w wr:=hb0.trans (hb'.mono (by omega))
       have q0:=ea7 hbw (hcell' k hlt).1
       have q1:=ea7 hbw (hcell' k hlt).2.1
       have q2:=ea7 hbw (hcell' k hlt).2.2.1
       have q3:=ea7 hbw (hcell' k hlt).2.2.2
       have s9:=(HR0.out.belowB hb' (by omega)).cell (j:=9) (by simp)
       simp only[List.getElem_cons_succ,List.getElem_cons_zero]at s9
       have hwk:=hwf' _ (List.getElem_mem hlt)
       unfold wf8 at hwk
       have b4:=tgb7 hwk.2.2.1.1 hwk.2.2.1.2 hwd
       clear hcell' hwf' ha' hbw
       by_cases h3:k<6
       ·have hlen:(tb7 x k).length=k:=by omega
        rw[hlen]at y6
        have HLEN:=hid hlen
        clear hlen hsl
        have HOWN2:Hid (wr.ownsRow wn.heap.size 127 4 (.slice ao k cp) k ((tb7 x k).flatMap xt7)):=by have:=HOWN.out;rw[HLEN.out]at this;exact this
        have hown:=HOWN2.out
        obtain⟨i1,hi,hz0,hz1,hz2⟩:=info_parts lyb7
        obtain⟨ld,hld⟩:∃ld,ld=xab7 x x.custs[k]:=⟨_,rfl⟩
        have hcust:=hid (show hz7 x x.custs[k]=⟨ld,x.custs[k].opn % 50,x.custs[k].opn % 50+wd*x.custs[k].wide,x.custs[k].stay % 8⟩ from by unfold hz7;rw[HWD.out,hld])
        rw[HL.out]at hld
        have HLD:=hid hld
        clear hld
        go_upto_if 99 with fail
        go_cut [9] (fun s9 wx=>s9 = .int .i64 ld∧wx=wr.alloc (.cells #[.int .u8 x.custs[k].load,.int .u8 x.custs[k].opn,.int .u8 x.custs[k].wide,.int .u8 x.custs[k].stay] 125))
        case first =>
         cases tg
         all_goals
          go_wp2
          go_meet
          exact⟨by rw[HLD.out];rfl,rfl⟩
        case rest =>
         obtain⟨rfl,rfl⟩:=hcut
         go_wp2_with (at_builtin;refine wpList_append_own _ rfl _ _ 79 rfl wn.heap.size 127 i1 (.agg #[.int .i64 0,.int .i64 0,.int .i64 0,.int .i64 0]) 4 32 Tryz.underlying79 hi hz0 hz1 hz2 rfl (by decide) _ _ _ rfl ((hown.alloc _).alloc _) ⟨wr.heap.size+1,0,none⟩ 1 1 [.int .i64 ld,.int .i64 (x.custs[k].opn % 50),.int .i64 (x.custs[k].opn % 50+wd*x.custs[k].wide),.int .i64 (x.custs[k].stay % 8)] rfl rfl ?d1 ?d2 ?d3 ?d4 ?d5 ?_)
         case d1=>exact dn7 (by simp) _ _
         case d2=>intro u hu;simp at hu;rcases hu with rfl | rfl | rfl | rfl <;> rfl
         case d3=>unfold maxLen;omega
         case d4=>omega
         case d5=>simp;omega
         intro v' w1 hown' hgrow _
         have hblk:∀b,b<wn.heap.size→(Value.slice ao k cp).ownBlock≠some b:=fun b hbl e=>by
          have:=(HOWN2.out.lt _ e).1;omega
         have hy1:Row w1 wm.heap.size 81 (yV x (.slice (some ⟨gs,0,none⟩) (he7 x).length cs1) (.slice ao (tb7 x k).length cp)) :=
          ((HY.out.alloc _).alloc _).keep (hgrow.block _ (by simp;omega) (fun e=>hblk _ hsz e.symm))
         have hg1:Row w1 gs 123 ((he7 x).flatMap tlb7):=((HGS.out.alloc _).alloc _).keep (hgrow.block _ (by simp;omega) (fun e=>hblk _ hgl e.symm))
         have hb1:Below wm.heap.size wm w1:=((hb'.alloc (by omega) _).alloc (by simp;omega) _).grown hgrow (by simp;omega) (fun b hbk=>by have:=(HOWN2.out.lt _ hbk).1;omega)
         have HS:=hid (show (tb7 x (k+1)).flatMap xt7=(tb7 x k).flatMap xt7++[.int .i64 ld,.int .i64 (x.custs[k].opn % 50),.int .i64 (x.custs[k].opn % 50+wd*x.custs[k].wide),.int .i64 (x.custs[k].stay % 8)] from by
          rw[dqb7 hlt h3,List.flatMap_append,hcust.out];rfl)
         have HS1:=hid (show (tb7 x (k+1)).length=k+1 from by rw[jp7 (by omega)];omega)
         have hn1:wn.heap.size≤w1.heap.size:=Nat.le_trans hsn (Nat.le_trans (by simp;omega) hgrow.size)
         obtain⟨ao',cp',hv',-,-⟩:=eb7 hown'
         rw[hv']at hown'
         rw[hv']
         have HO1:=hid hown'
         have HY1:=hid hy1
         have z6:=hy1.cell (j:=6) (by simp[yV])
         simp only[yV,List.getElem_cons_succ,List.getElem_cons_zero]at z6
         have e6:=hy1.frozen 6
         clear hown' hgrow hv' hown hy1 hblk y6 f6 hi hz0 hz1 hz2 hcust
         go_wp2
         go_roundw
         case rel=>exact⟨k+1,ao',cp',by omega,by go_num,by rw[HS.out,HS1.out];exact ownsRow_setCell_below HO1.out hsz _,by rw[HS1.out];exact HY1.out.set (j:=6) (by simp[yV]) _,hb1.setCell (Nat.le_refl _) _,hg1.setOther (by show gs≠wm.heap.size;omega) _,by simp[World.setCell];exact hn1⟩
         case measure=>simp[intOf];omega
       ·have hlen:(tb7 x k).length=6:=by omega
        rw[hlen]at y6
        have HS:=hid (brb7 (x:=x) (k:=k) (by omega))
        clear hlen hsl
        go_wp2
        go_roundw
        case rel=>exact⟨k+1,ao,cp,by omega,by go_num,by rw[HS.out];exact HOWN.out.alloc _,by rw[HS.out];exact HY.out.alloc _,hb'.alloc (by omega) _,HGS.out.alloc _,by simp;omega⟩
        case measure=>simp[intOf];omega
      ·have hks:k=x.custs.length:=by omega
       subst hks
       have hsl2:(tb7 x x.custs.length).length≤6:=by omega
       clear hcell' hwf' ha' hsl
       go_upto_if 133 with fail
       go_cut [] (fun wx=>∃gc cc1,Row wx gc 127 ((dd7 x).flatMap xt7)∧wm.heap.size<gc∧(dd7 x).length≤cc1∧cc1≤maxLen∧Row wx gs 123 ((he7 x).flatMap tlb7) ∧
        Row wx wm.heap.size 81 (yV x (.slice (some ⟨gs,0,none⟩) (he7 x).length cs1) (.slice (some ⟨gc,0,none⟩) (dd7 x).length cc1))∧Below wm.heap.size wm wx)
       case first =>
        by_cases hnil:x.custs=[]
        ·have hz8:(((tb7 x x.custs.length).length:Int)==0)=true:=by simp[tb7,hnil]
         have HN:=hid hnil
         clear hnil
         go_wp2
         go_meet
         have hso:dd7 x=[⟨2,5,90,1⟩]:=by unfold dd7;rw[if_pos HN.out]
         refine⟨wr.heap.size,1, ?_,by omega,by rw[hso];exact Nat.le_refl _,by decide, ?_, ?_,(hb'.setCell (p:=⟨wm.heap.size,6,none⟩) (Nat.le_refl _) _).alloc (by simp[World.setCell];omega) _⟩
         ·rw[hso]
          exact Row.new (cs:=[.int .i64 2,.int .i64 5,.int .i64 90,.int .i64 1]) (by simp[World.setCell])
         ·exact (HGS.out.setOther (by show gs≠wm.heap.size;omega) _).alloc _
         ·rw[hso]
          exact (HY.out.set (j:=6) (by simp[yV]) _).alloc _
        ·have hz8:(((tb7 x x.custs.length).length:Int)==0)=false:=by
          have:0<x.custs.length:=List.length_pos_iff.2 hnil
          have h2:=HSL.out
          simp only[beq_eq_false_iff_ne];omega
         have hpos:0<(tb7 x x.custs.length).length:=by
          have:0<x.custs.length:=List.length_pos_iff.2 hnil
          have h2:=HSL.out
          omega
         have HN:=hid hnil
         clear hnil
         go_wp2
         go_meet
         have hso:dd7 x=tb7 x x.custs.length:=by unfold dd7;rw[if_neg HN.out]
         obtain⟨g,c,hv,h1,h2,h3,h4⟩:=Row.of_owns HOWN.out hpos
         simp only[Value.slice.injEq]at hv
         obtain⟨rfl,-,rfl⟩:=hv
         exact⟨g,cp,by rw[hso];exact h4,by omega,by rw[hso];exact h1,h2,HGS.out,by rw[hso];exact HY.out,hb'⟩
       case rest =>
        clear hsl2 y6 f6 HY HOWN HSL hb' hsz' HGS ao cp hgl' hzw hsn
        obtain⟨gc,cc1,hgc,hgc1,hcc1,hcc2,hgs',hy,hb⟩:=hcut
        obtain⟨wq,rfl⟩:∃wq:World,wq=wc:=⟨_,rfl⟩
        have HGC:=hid hgc
        have HGS:=hid hgs'
        have HY:=hid hy
        have hsz':wm.heap.size<wq.heap.size:=hy.lt
        have R0:=HR0.out.belowB hb (by omega)
        have p7:=R0.cell (j:=7) (by simp)
        have p8:=R0.cell (j:=8) (by simp)
        simp only[List.getElem_cons_succ,List.getElem_cons_zero]at p7 p8
        have hyc:∀j (h:j<9),wq.cell? ⟨wm.heap.size,j,none⟩=some ((yV x (.slice (some ⟨gs,0,none⟩) (he7 x).length cs1) (.slice (some ⟨gc,0,none⟩) (dd7 x).length cc1))[j]'(by simpa[yV]using h)):=fun j h=>hy.cell (by simpa[yV]using h)
        have y0:=hyc 0 (by omega)
        have y1:=hyc 1 (by omega)
        have y2:=hyc 2 (by omega)
        have y3:=hyc 3 (by omega)
        have y4:=hyc 4 (by omega)
        have y5:=hyc 5 (by omega)
        have y6:=hyc 6 (by omega)
        have y7:=hyc 7 (by omega)
        have y8:=hyc 8 (by omega)
        simp only[yV,jc7,List.getElem_cons_succ,List.getElem_cons_zero]at y0 y1 y2 y3 y4 y5 y6 y7 y8
        have hls:(he7 x).length≤1000000:=by have:=vn7 x;omega
        have hlc':(dd7 x).length≤1000000:=by have:=el7 x;omega
        have hno:=oz7 x
        have HNO:=hid (show 1+(he7 x).length+(dd7 x).length=ag7 x from rfl)
        have h100:ag7 x≤100:=by omega
        have hbq:Below w.heap.size w wq:=hb0.trans (hb.mono (by omega))
        have c3:(ia7 u8S).rep wq F x.cost [co]:=yc7.below h3 hbq
        have c4:(ia7 u8S).rep wq F x.time [ti]:=yc7.below h4 hbq
        clear hgc hgs' hy hyc R0 h3 h4 g5
        go_upto_region 25 with fail
        have k7:∀e:At (Old wq),e.val.cell? ⟨w.heap.size,7,none⟩=some co:=fun e=>e.cell p7
        have k8:∀e:At (Old wq),e.val.cell? ⟨w.heap.size,8,none⟩=some ti:=fun e=>e.cell p8
        have z0:∀e:At (Old wq),_:=fun e=>e.cell y0
        have z1:∀e:At (Old wq),_:=fun e=>e.cell y1
        have z2:∀e:At (Old wq),_:=fun e=>e.cell y2
        have z3:∀e:At (Old wq),_:=fun e=>e.cell y3
        have z4:∀e:At (Old wq),_:=fun e=>e.cell y4
        have z5:∀e:At (Old wq),_:=fun e=>e.cell y5
        have z6:∀e:At (Old wq),_:=fun e=>e.cell y6
        have z7:∀e:At (Old wq),_:=fun e=>e.cell y7
        have z8:∀e:At (Old wq),_:=fun e=>e.cell y8
        refine qg7 (Old wq) [11,12,13] [([0,1,2,5,6,7],3,false),([],4,false),([10],8,false),([],9,false),([],11,true),([],12,true),([],13,true)] (by kernel_rfl) (by kernel_rfl) (fun _ _ d _ _ h=>by cases d <;> exact h) (Old.drew _) ?_
        simp only[kj7,List.map_cons,List.map_nil,Array.getD_eq_getD_getElem?,List.getElem?_toArray,List.getElem?_cons_succ,List.getElem?_cons_zero,Option.getD_some,dw7]
        repeat (go_big_quiet_step (fail))
        refine wpQuiet_nil ?_
        go_wp2_with (go_at_call 45;refine (igb7 _ _ _ _ _ _ _ _ _ _ _ _ _ _ hls hlc' HNO.out).mono ?_;rintro e w1 ⟨rfl,hb1⟩)
        have hO1:=(Old.drew wq).step hb1
        refine⟨hO1,wpQuiet_nil ?_⟩
        clear hb1
        have d3:=(ia7 u8S).below c3 hO1
        go_wp2_with (go_at_call 44;refine (qab7 d3 h100).mono ?_;rintro e w2 ⟨ao1,cp1,rs1,rfl,hi1,hb2⟩)
        have hO2:=hO1.step hb2
        refine⟨hO2, ?_⟩
        repeat (go_big_quiet_step (fail))
        refine wpQuiet_nil ?_
        have HI1:=hid hi1
        have HB2:=hid hb2
        clear d3 hi1 hb2
        go_wp2_with (go_at_call 45;refine (igb7 _ _ _ _ _ _ _ _ _ _ _ _ _ _ hls hlc' HNO.out).mono ?_;rintro e w3 ⟨rfl,hb3⟩)
        have hO3:=hO2.step hb3
        refine⟨hO3,wpQuiet_nil ?_⟩
        have HB3:=hid hb3
        clear hb3
        have d4:=(ia7 u8S).below c4 hO3
        go_wp2_with (go_at_call 44;refine (qab7 d4 h100).mono ?_;rintro e w4 ⟨ao2,cp2,rs2,rfl,hi2,hb4⟩)
        have hO4:=hO3.step hb4
        refine⟨hO4,wpQuiet_nil ?_⟩
        have HI2:=hid hi2
        have HB4:=hid hb4
        clear d4 hi2 hb4 k7 k8 z0 z1 z2 z3 z4 z5 z6 z7 z8
        have hy4:=HY.out.below hO4
        have hr4:=((HR1.out.belowB hb (by omega)).below hO4)
        have v0:=hO4.cell' y0
        have v1:=hO4.cell' y1
        have v2:=hO4.cell' y2
        have v3:=hO4.cell' y3
        have v4:=hO4.cell' y4
        have v5:=hO4.cell' y5
        have v6:=hO4.cell' y6
        have v7:=hO4.cell' y7
        have v8:=hO4.cell' y8
        have f7:=hy4.frozen 7
        have f8:=hy4.frozen 8
        have rc:∀j (h:j<9),∃v,w4.cell? ⟨w.heap.size+1,j,none⟩=some v:=fun j h=>⟨_,hr4.cell (j:=j) (by simpa using h)⟩
        obtain⟨u0,r0⟩:=rc 0 (by omega)
        obtain⟨u1,r1⟩:=rc 1 (by omega)
        obtain⟨u2,r2⟩:=rc 2 (by omega)
        obtain⟨u3,r3⟩:=rc 3 (by omega)
        obtain⟨u4,r4⟩:=rc 4 (by omega)
        obtain⟨u5,r5⟩:=rc 5 (by omega)
        obtain⟨u6,r6⟩:=rc 6 (by omega)
        obtain⟨u7,r7⟩:=rc 7 (by omega)
        obtain⟨u8,r8⟩:=rc 8 (by omega)
        have rf:∀j,w4.frozen? ⟨w.heap.size+1,j,none⟩=false:=fun j=>hr4.frozen j
        have rf0:=rf 0
        have rf1:=rf 1
        have rf2:=rf 2
        have rf3:=rf 3
        have rf4:=rf 4
        have rf5:=rf 5
        have rf6:=rf 6
        have rf7:=rf 7
        have rf8:=rf 8
        have HHY:=hid hy4
        have HHR:=hid hr4
        clear y0 y1 y2 y3 y4 y5 y6 y7 y8 p7 p8 rc rf hy4 hr4
        go_wp2
        refine wpQuiet_nil ?_
        go_wp2
        refine wpQuiet_nil ?_
        go_wp2
        have hle1:w.heap.size≤wm.heap.size:=by omega
        have hle2:w.heap.size≤w.heap.size+1:=by omega
        have hbw4:Below w.heap.size w w4:=hbq.trans (hO4.mono hbq.size)
        refine bodyPost_ret (v:=.agg #[.int .i64 (40+x.fin*qe7 x),.int .i64 (1+x.trucks % 4),.int .i64 (5+qe7 x*(x.troom % 40)),.int .i64 (1+x.bikes % 6),.int .i64 (3+qe7 x*(x.broom % 20)),.slice (some ⟨gs,0,none⟩) (he7 x).length cs1,.slice (some ⟨gc,0,none⟩) (dd7 x).length cc1,.slice ao1 (ag7 x) cp1,.slice ao2 (ag7 x) cp2]) (by simp[results,Tryz.results18,go_sem,r0,r1,r2,r3,r4,r5,r6,r7,r8]) rfl ⟨[.int .i64 (40+x.fin*qe7 x),.int .i64 (1+x.trucks % 4),.int .i64 (5+qe7 x*(x.troom % 40)),.int .i64 (1+x.bikes % 6),.int .i64 (3+qe7 x*(x.broom % 20)),.slice (some ⟨gs,0,none⟩) (he7 x).length cs1,.slice (some ⟨gc,0,none⟩) (dd7 x).length cc1,.slice ao1 (ag7 x) cp1,.slice ao2 (ag7 x) cp2],rfl, ?_, ?_⟩
        ·refine xe7.keepOn (w:=w4) (TX:=81) ?_ (fun b e cs hR he=>?_) (by decide) (by decide) (by decide) (by decide)
         ·have hpos1:0<(ke7 x.cost (ag7 x)).length:=by unfold ke7;rw[wk7];omega
          have hpos2:0<(ke7 x.time (ag7 x)).length:=by unfold ke7;rw[wk7];omega
          obtain⟨gco,o1⟩:=HI1.out.own hpos1
          obtain⟨gti,o2⟩:=HI2.out.own hpos2
          have l1:w.heap.size≤w1.heap.size:=Nat.le_trans hbq.size hO1.size
          have l2:=HB2.out.size
          have l3:=HB3.out.size
          have hg1:gco<w2.heap.size:=by obtain⟨_,_,_,_,_,hr,_⟩:=o1;exact hr.lt
          have hg2:w3.heap.size≤gti:=by obtain⟨_,_,_,_,hg,_⟩:=o2;exact hg
          exact⟨gs,cs1,gc,cc1,_,_,gco,rs1,gti,rs2,rfl,⟨hcs1,hcs2,hcc1,hcc2⟩,by omega,by omega,HGS.out.below hO4,HGC.out.below hO4,((o1.below HB3.out).below HB4.out).mono l1,o2.mono (by omega),by omega,
           fun a ha b hb2=>by have h1:=(HI1.out.2.2.2.2 a ha).2;have h2:=(HI2.out.2.2.2.2 b hb2).1;omega⟩
         ·have n1:b≠wm.heap.size:=hR.ne HHY.out he
          have n2:b≠w.heap.size+1:=hR.ne HHR.out he
          iterate 11 (rw[Below.heap_setCell _ _ _ _ (by first | exact n1 | exact n2)])
        ·iterate 11 (refine Below.setCell ?_ (by first | exact hle1 | exact hle2) _)
         exact hbw4
end Go.Proofs.YtedahhjopmkbbaaGreat
