/- Texts of the proof, joined: Trucks, Bikes, Good, Check, Way, Nodes, Lit, Order, HeapD, NearD, Graph. -/
import Derived.Deep.DeepCutAuto
import Derived.Deep.QuietTactic
import Derived.BigQuiet
import Derived.Laws.OwnMore
import Derived.BigRegion
import Derived.Test.YtabadfkikdefeaaGreatP1
set_option linter.all false
set_option maxRecDepth 100000
set_option maxHeartbeats 6400000
namespace Go.Proofs.YtabadfkikdefeaaGreat
open Go.RowKit
def jd7 (x:ba7) (m:Nat) (s:ea7):Bool:=decide (s.sat<0) || decide ((x.sats.length:Int)≤s.sat) || m.testBit s.sat.toNat || decide (s.load<1) || decide (1000000000<s.load)
def pj7 (x:ba7):Option (Nat×Int)→ea7→Option (Nat×Int)
 | none,_=>none
 | some (m,left),s=>if jd7 x m s then none else some (m ||| 2 ^ s.sat.toNat,left-s.load)
def pi7 (x:ba7) (t:List ea7):Option (Nat×Int):=t.foldl (pj7 x) (some (0,x.troom))
def pe7 (x:ba7):List (List ea7)→Bool→Bool→Bool×Bool
 | [],r,l=>(r,l)
 | t::ts,r,l=>match pi7 x t with
  | none=>(false,l)
  | some (_,left)=>pe7 x ts (r&&decide (0<t.length)) (l&&decide (0≤left))
def id7 (x:ba7) (l:List (List ea7)):Bool×Bool:=pe7 x l true true
theorem zn7 (x:ba7) (l:List ea7):l.foldl (pj7 x) none=none:=by
 induction l with
 | nil=>rfl
 | cons s l ih=>exact ih
theorem rbc7 {m i:Nat}(hm:m<18446744073709551616) (hi:i<64):m ||| 2 ^ i<18446744073709551616 :=
 Nat.or_lt_two_pow (n:=64) hm (Nat.pow_lt_pow_right (by decide) hi)
theorem ln7 {x:ba7}{m:Nat}{left:Int}{s:ea7}(h:jd7 x m s=true):pj7 x (some (m,left)) s=none:=by simp[pj7,h]
theorem iq7 {x:ba7}{m:Nat}{left:Int}{s:ea7}(h:jd7 x m s=false):pj7 x (some (m,left)) s=some (m ||| 2 ^ s.sat.toNat,left-s.load):=by simp[pj7,h]
theorem el7 {x:ba7}{t:List ea7}{ts:List (List ea7)}{r l:Bool}(h:pi7 x t=none):pe7 x (t::ts) r l=(false,l):=by simp[pe7,h]
theorem lk7 {x:ba7}{t:List ea7}{ts:List (List ea7)}{r l:Bool}{m:Nat}{left:Int}(h:pi7 x t=some (m,left)) :
  pe7 x (t::ts) r l=pe7 x ts (r&&decide (0<t.length)) (l&&decide (0≤left)):=by simp[pe7,h]
theorem ovb7 {w:World}{F G:Nat→Prop}{x:ba7}{p:ab7}{cs ps:List Value}(h:kb7.rep w F x cs) (hp:wd7.rep w G p ps) (hn:x.sats.length≤64)
  (hr:0≤x.troom∧x.troom≤1000000000) (ht:∀t∈p.trucks,t.length≤1000000000) :
  Calls Tryz.prog 182 #[.agg ps.toArray,.agg cs.toArray] w fun e w'=>e = .returned (.tuple #[.bool (id7 x p.trucks).1,.bool (id7 x p.trucks).2])∧Below w.heap.size w w':=by
 obtain⟨s,c,co,ti,rfl,-,h1,-,-,-⟩:=h
 obtain⟨a,b,off,c1,hs,-,-,-,-,-,-⟩:=td7 h1
 obtain rfl:=List.cons.inj hs |>.1
 obtain⟨tv,bv,rfl,h2,-⟩:=hp
 obtain⟨a2,b2,off2,c2,hs2,hl2,hc2,ha2,-,hcell2⟩:=lc7 h2
 obtain rfl:=List.cons.inj hs2 |>.1
 clear hs hs2 h1 h2
 go_enter Tryz.func182,Tryz.ntmps182
 go_wp2
 go_loopw [4,5,15] (fun rr ll ii wr=>∃(k:Nat) (r l:Bool),k≤p.trucks.length∧ii = .int .i64 k∧rr = .bool r∧ll = .bool l∧id7 x p.trucks=pe7 x (p.trucks.drop k) r l∧Below w.heap.size w wr ∧
   wr.cell? ⟨w.heap.size+1,2,none⟩=some (.int .i64 x.troom)∧wr.cell? ⟨w.heap.size+1,5,none⟩=some (.slice a x.sats.length c1)∧w.heap.size+1<wr.heap.size) (fun _ _ i _=>p.trucks.length-(intOf i).toNat)
 case atStart=>exact⟨0,true,true,Nat.zero_le _,rfl,rfl,rfl,rfl,((Below.refl _ _).alloc (Nat.le_refl _) _).alloc (by simp) _,by simp,by simp,by simp⟩
 case round =>
  obtain⟨k,r,l,hk,rfl,rfl,rfl,hgo,hb,q2,q5,hz⟩:=hrel
  obtain⟨wo,rfl⟩:∃wo:World,wo=wr:=⟨_,rfl⟩
  by_cases hlt:k<p.trucks.length
  ·have hx:=ka7 (c:=c2) Tryz.underlying34 kh7 (ha2 (by omega)) hlt
   obtain⟨sv,g0,hr0⟩:=hcell2 k hlt
   obtain⟨tr,htr⟩:∃tr,tr=p.trucks[k]:=⟨_,rfl⟩
   have htl:=ht _ (List.getElem_mem hlt)
   rw[← htr]at hr0 htl
   obtain⟨a3,b3,off3,c3,hs3,hl3,hc3,ha3,-,hcell3,hwf3⟩:=sd7 hr0
   obtain rfl:=List.cons.inj hs3 |>.1
   have p0:=aa7 hb g0
   have HGO:=hid (show id7 x p.trucks=pe7 x (tr::p.trucks.drop (k+1)) r l from by rw[hgo,htr,List.drop_eq_getElem_cons hlt])
   clear hcell2 ha2 hgo hs3 hr0 g0 htr
   go_wp2
   go_loopw [4,5,8,9,25] (fun rr ll mm ff jj wx=>∃(j m:Nat) (left:Int),j≤tr.length∧jj = .int .i64 j∧rr = .bool r∧ll = .bool l∧mm = .int .u64 m∧ff = .int .i64 left∧m<18446744073709551616∧(x.troom-1000000000*j≤left∧left≤x.troom) ∧
     pi7 x tr=(tr.drop j).foldl (pj7 x) (some (m,left))∧Below w.heap.size w wx∧wx.cell? ⟨w.heap.size+1,2,none⟩=some (.int .i64 x.troom)∧wx.cell? ⟨w.heap.size+1,5,none⟩=some (.slice a x.sats.length c1) ∧
     wx.cell? ⟨wo.heap.size,0,none⟩=some (.slice a3 tr.length c3)∧wo.heap.size<wx.heap.size) (fun _ _ _ _ jj _=>tr.length-(intOf jj).toNat)
   case atStart =>
    exact⟨0,0,x.troom,Nat.zero_le _,rfl,rfl,rfl,rfl,rfl,by decide,by omega,rfl,hb.alloc (by omega) _,aa7 ((Below.refl _ _).alloc (Nat.le_refl _) _) q2,aa7 ((Below.refl _ _).alloc (Nat.le_refl _) _) q5,by simp,by simp⟩
   case round =>
    obtain⟨j,m,left,hj,rfl,rfl,rfl,rfl,rfl,hm,hleft,hst,hb2,q2',q5',q0,hzx⟩:=hrel
    clear q2 q5
    have hz':w.heap.size+1<wr.heap.size:=by omega
    obtain⟨wi,rfl⟩:∃wi:World,wi=wr:=⟨_,rfl⟩
    by_cases hjt:j<tr.length
    ·have hy:=vb7 (c:=c3) Tryz.underlying122 vo7 (ha3 (by omega)) hjt
     have g3:=aa7 hb2 (hcell3 j hjt).1
     have g4:=aa7 hb2 (hcell3 j hjt).2
     obtain⟨sp,hsp⟩:∃sp,sp=tr[j]:=⟨_,rfl⟩
     have hwf:=hwf3 _ (List.getElem_mem hjt)
     rw[← hsp]at g3 g4 hwf
     obtain⟨st,ld⟩:=sp
     have hnx:(tr.drop j).foldl (pj7 x) (some (m,left))=(tr.drop (j+1)).foldl (pj7 x) (pj7 x (some (m,left)) ⟨st,ld⟩):=by rw[List.drop_eq_getElem_cons hjt,← hsp];rfl
     rw[hnx]at hst
     simp only[]at g3 g4 hwf
     clear hnx hsp hcell3 ha3
     have HST:=hid hst
     clear hst
     have HBAD:=hid (show jd7 x m ⟨st,ld⟩=true→id7 x p.trucks=(false,l) from fun h=>by rw[HGO.out];exact el7 (by rw[HST.out,ln7 h,zn7]))
     have HOK:=hid (show jd7 x m ⟨st,ld⟩=false→pi7 x tr=(tr.drop (j+1)).foldl (pj7 x) (some (m ||| 2 ^ st.toNat,left-ld)) from fun h=>by rw[HST.out,iq7 h])
     clear HST
     by_cases e1:st<0
     ·have HB:=hid (HBAD.out (by simp[jd7,e1]))
      go_wp2
      go_ret2
      exact⟨by rw[HB.out];rfl,by simpa using hb2.alloc (by omega) _⟩
     ·by_cases e2:(x.sats.length:Int)≤st
      ·have HB:=hid (HBAD.out (by simp[jd7,e2]))
       go_wp2
       go_ret2
       exact⟨by rw[HB.out];rfl,by simpa using hb2.alloc (by omega) _⟩
      ·obtain⟨sn,rfl⟩:∃sn:Nat,st=sn:=⟨st.toNat,by omega⟩
       rw[Int.toNat_natCast]at HOK
       have hsn:sn<64:=by omega
       cases e3:m.testBit sn
       ·by_cases e4:ld<1
        ·have HB:=hid (HBAD.out (by simp[jd7,e4]))
         have HW:=hid (qr7 m sn hsn hm)
         clear hm
         go_wp2_with (go_at_call 95;refine (HW.out _).mono ?_;rintro e w' ⟨rfl,rfl⟩;rw[e3])
         go_ret2
         exact⟨by rw[HB.out];rfl,by simpa using hb2.alloc (by omega) _⟩
        ·by_cases e5:1000000000<ld
         ·have HB:=hid (HBAD.out (by simp[jd7,e5]))
          have HW:=hid (qr7 m sn hsn hm)
          clear hm
          go_wp2_with (go_at_call 95;refine (HW.out _).mono ?_;rintro e w' ⟨rfl,rfl⟩;rw[e3])
          go_ret2
          exact⟨by rw[HB.out];rfl,by simpa using hb2.alloc (by omega) _⟩
         ·have HO:=hid (HOK.out (by simp[jd7,e3];omega))
          have HW:=hid (qr7 m sn hsn hm)
          have HV:=hid (flb7 m sn hsn hm)
          have HM:=hid (rbc7 hm hsn)
          clear hm
          go_wp2_with (first
           | (go_at_call 95;refine (HW.out _).mono ?_;rintro e w' ⟨rfl,rfl⟩;rw[e3])
           | (go_at_call 155;refine (HV.out _).mono ?_;rintro e w' ⟨rfl,rfl⟩))
          go_roundw
          case rel =>
           refine⟨j+1,m ||| 2 ^ sn,left-ld,by omega,by go_num,rfl,rfl,rfl,rfl,HM.out,by omega,HO.out,hb2.alloc (by omega) _, ?_, ?_, ?_, ?_⟩
           ·exact aa7 ((Below.refl _ _).alloc (Nat.le_refl _) _) q2'
           ·exact aa7 ((Below.refl _ _).alloc (Nat.le_refl _) _) q5'
           ·exact aa7 ((Below.refl _ _).alloc (Nat.le_refl _) _) q0
           ·simp;omega
          case measure=>simp[intOf];omega
       ·have HB:=hid (HBAD.out (by simp[jd7,e3]))
        have HW:=hid (qr7 m sn hsn hm)
        clear hm
        go_wp2_with (go_at_call 95;refine (HW.out _).mono ?_;rintro e w' ⟨rfl,rfl⟩;rw[e3])
        go_ret2
        exact⟨by rw[HB.out];rfl,by simpa using hb2.alloc (by omega) _⟩
    ·have hjl:j=tr.length:=by omega
     subst hjl
     have HG:=hid (show id7 x p.trucks=pe7 x (p.trucks.drop (k+1)) (r&&decide (0<tr.length)) (l&&decide (0≤left)) from by rw[HGO.out];exact lk7 (m:=m) (by rw[hst,List.drop_length];rfl))
     clear hst HGO hcell3 ha3
     have HL:=hid hleft
     clear hleft hj
     cases r <;> cases l <;> by_cases f1:0<tr.length <;> by_cases f2:0≤left
     all_goals
      go_wp2
      go_roundw
      case rel=>exact⟨k+1,_,_,by omega,by go_num,rfl,rfl,by rw[HG.out];simp[f1,f2],hb2,q2',q5',by omega⟩
      case measure=>simp[intOf];omega
  ·have hkl:k=p.trucks.length:=by omega
   subst hkl
   have HG:=hid (show id7 x p.trucks=(r,l) from by rw[hgo,List.drop_length];rfl)
   clear hcell2 ha2 hgo
   go_wp2
   go_ret2
   exact⟨by rw[HG.out];rfl,hb⟩
def xcb7 (x:ba7) (c:Int):ar7:=x.custs.getD c.toNat ⟨0,0,0,0⟩
def ae7 (x:ba7) (m:Nat) (c:Int):Bool:=decide (c<0) || decide ((x.custs.length:Int)≤c) || m.testBit c.toNat
def ni7 (x:ba7):Option (Nat×Int)→Int→Option (Nat×Int)
 | none,_=>none
 | some (m,left),c=>if ae7 x m c then none else some (m ||| 2 ^ c.toNat,left-(xcb7 x c).load)
def pq7 (x:ba7) (m:Nat) (l:List Int):Option (Nat×Int):=l.foldl (ni7 x) (some (m,x.broom))
def bg7 (x:ba7) (b:ga7):Bool:=decide (b.sat<0) || decide ((x.sats.length:Int)≤b.sat) || decide (b.stops.length=0)
def bi7 (x:ba7):List ga7→Nat→Bool→Bool×Bool×Bool
 | [],m,l=>(true,decide (Lib.onesCount m=x.custs.length),l)
 | b::bs,m,l=>if bg7 x b then (false,false,l) else match pq7 x m b.stops with
  | none=>(false,false,l)
  | some (m',left)=>bi7 x bs m' (l&&decide (0≤left))
def le7 (x:ba7) (l:List ga7):Bool×Bool×Bool:=bi7 x l 0 true
theorem ex7 (a b:Nat):((a:Int)==(b:Int))=decide (a=b):=by
 by_cases h:a=b
 ·subst h;simp
 ·rw[decide_eq_false h,beq_eq_false_iff_ne];omega
theorem kn7 (x:ba7) (l:List Int):l.foldl (ni7 x) none=none:=by
 induction l with
 | nil=>rfl
 | cons s l ih=>exact ih
theorem egc7 {m i:Nat}(hm:m<64) (hi:i<6):m ||| 2 ^ i<64:=Nat.or_lt_two_pow (n:=6) hm (Nat.pow_lt_pow_right (by decide) hi)
theorem nn7 {x:ba7}{m:Nat}{left:Int}{c:Int}(h:ae7 x m c=true):ni7 x (some (m,left)) c=none:=by simp[ni7,h]
theorem uq7 {x:ba7}{m:Nat}{left:Int}{c:Int}(h:ae7 x m c=false):ni7 x (some (m,left)) c=some (m ||| 2 ^ c.toNat,left-(xcb7 x c).load):=by simp[ni7,h]
theorem pn7 {x:ba7}{b:ga7}{bs:List ga7}{m:Nat}{l:Bool}(h:bg7 x b=true):bi7 x (b::bs) m l=(false,false,l):=by simp[bi7,h]
theorem ll7 {x:ba7}{b:ga7}{bs:List ga7}{m:Nat}{l:Bool}(h:pq7 x m b.stops=none):bi7 x (b::bs) m l=(false,false,l):=by simp[bi7,h]
theorem up7 {x:ba7}{b:ga7}{bs:List ga7}{m m':Nat}{l:Bool}{left:Int}(h0:bg7 x b=false) (h:pq7 x m b.stops=some (m',left)) :
  bi7 x (b::bs) m l=bi7 x bs m' (l&&decide (0≤left)):=by simp[bi7,h0,h]
theorem cac7 {w:World}{F G:Nat→Prop}{x:ba7}{p:ab7}{cs ps:List Value}(h:kb7.rep w F x cs) (hp:wd7.rep w G p ps) (hn:x.custs.length≤6)
  (hr:0≤x.broom∧x.broom≤1000000000) (hcu:∀c∈x.custs,0≤c.load∧c.load≤1000000000) (ht:∀b∈p.bikes,b.stops.length≤1000000000) :
  Calls Tryz.prog 183 #[.agg ps.toArray,.agg cs.toArray] w fun e w'=>e = .returned (.tuple #[.bool (le7 x p.bikes).1,.bool (le7 x p.bikes).2.1,.bool (le7 x p.bikes).2.2])∧Below w.heap.size w w':=by
 obtain⟨s,c,co,ti,rfl,-,h1,h2,-,-⟩:=h
 obtain⟨a,b,off,c1,hs,-,-,-,-,-,-⟩:=td7 h1
 obtain rfl:=List.cons.inj hs |>.1
 obtain⟨a',b',off',c1',hs',hlc',hc',ha',-,hcell',-⟩:=dh7 h2
 obtain rfl:=List.cons.inj hs' |>.1
 obtain⟨tv,bv,rfl,-,h3⟩:=hp
 obtain⟨a2,b2,off2,c2,hs2,hl2,hc2,ha2,-,hcell2⟩:=zc7 h3
 obtain rfl:=List.cons.inj hs2 |>.1
 clear hs hs' hs2 h1 h2 h3
 go_enter Tryz.func183,Tryz.ntmps183
 go_wp2
 go_loopw [4,5,6,7,16] (fun rr aa ll mm ii wr=>∃(k m:Nat) (l:Bool),k≤p.bikes.length∧ii = .int .i64 k∧rr = .bool true∧aa = .bool false∧ll = .bool l∧mm = .int .u64 m∧m<64 ∧
   le7 x p.bikes=bi7 x (p.bikes.drop k) m l∧Below w.heap.size w wr∧wr.cell? ⟨w.heap.size+1,4,none⟩=some (.int .i64 x.broom)∧wr.cell? ⟨w.heap.size+1,5,none⟩=some (.slice a x.sats.length c1) ∧
   wr.cell? ⟨w.heap.size+1,6,none⟩=some (.slice a' x.custs.length c1')∧w.heap.size+1<wr.heap.size) (fun _ _ _ _ i _=>p.bikes.length-(intOf i).toNat)
 case atStart=>exact⟨0,0,true,Nat.zero_le _,rfl,rfl,rfl,rfl,rfl,by decide,rfl,((Below.refl _ _).alloc (Nat.le_refl _) _).alloc (by simp) _,by simp,by simp,by simp,by simp⟩
 case round =>
  obtain⟨k,m,l,hk,rfl,rfl,rfl,rfl,rfl,hm,hgo,hb,q4,q5,q6,hz⟩:=hrel
  obtain⟨wo,rfl⟩:∃wo:World,wo=wr:=⟨_,rfl⟩
  by_cases hlt:k<p.bikes.length
  ·have hx:=vb7 (c:=c2) Tryz.underlying35 vj7 (ha2 (by omega)) hlt
   obtain⟨sv,g0,g1,hwf,hr0⟩:=hcell2 k hlt
   obtain⟨bk,hbk⟩:∃bk,bk=p.bikes[k]:=⟨_,rfl⟩
   have htl:=ht _ (List.getElem_mem hlt)
   rw[← hbk]at g0 hwf hr0 htl
   obtain⟨st,sp⟩:=bk
   simp only[]at g0 hwf hr0 htl
   obtain⟨a3,b3,off3,c3,hs3,hl3,hc3,ha3,-,hcell3,hwf3⟩:=bb7 hr0
   obtain rfl:=List.cons.inj hs3 |>.1
   have p0:=aa7 hb g0
   have p1:=aa7 hb g1
   have HGO:=hid (show le7 x p.bikes=bi7 x (⟨st,sp⟩::p.bikes.drop (k+1)) m l from by rw[hgo,hbk,List.drop_eq_getElem_cons hlt])
   clear hcell2 ha2 hgo hs3 hr0 g0 g1 hbk
   have hz':w.heap.size+1<wo.heap.size:=hz
   have HBB:=hid (show bg7 x ⟨st,sp⟩=true→le7 x p.bikes=(false,false,l) from fun h=>by rw[HGO.out];exact pn7 h)
   by_cases e1:st<0
   ·have HB:=hid (HBB.out (by simp[bg7,e1]))
    go_wp2
    go_ret3
    exact⟨by rw[HB.out];rfl,by simpa using hb.alloc (by omega) _⟩
   ·by_cases e2:(x.sats.length:Int)≤st
    ·have HB:=hid (HBB.out (by simp[bg7,e2]))
     go_wp2
     go_ret3
     exact⟨by rw[HB.out];rfl,by simpa using hb.alloc (by omega) _⟩
    ·by_cases e3:sp.length=0
     ·have HB:=hid (HBB.out (by simp[bg7,e3]))
      go_wp2
      go_ret3
      exact⟨by rw[HB.out];rfl,by simpa using hb.alloc (by omega) _⟩
     ·have HNB:=hid (show bg7 x ⟨st,sp⟩=false from by simp[bg7,e3];omega)
      clear HBB
      go_wp2
      go_loopw [4,5,6,7,10,44] (fun rr aa ll mm ff jj wx=>∃(j m2:Nat) (left:Int),j≤sp.length∧jj = .int .i64 j∧rr = .bool true∧aa = .bool false∧ll = .bool l∧mm = .int .u64 m2∧ff = .int .i64 left∧m2<64 ∧
        (x.broom-1000000000*j≤left∧left≤x.broom)∧pq7 x m sp=(sp.drop j).foldl (ni7 x) (some (m2,left))∧Below w.heap.size w wx∧wx.cell? ⟨w.heap.size+1,4,none⟩=some (.int .i64 x.broom) ∧
        wx.cell? ⟨w.heap.size+1,5,none⟩=some (.slice a x.sats.length c1)∧wx.cell? ⟨w.heap.size+1,6,none⟩=some (.slice a' x.custs.length c1')∧w.heap.size+1<wx.heap.size) (fun _ _ _ _ _ jj _=>sp.length-(intOf jj).toNat)
      case atStart =>
       exact⟨0,m,x.broom,Nat.zero_le _,rfl,rfl,rfl,rfl,rfl,rfl,hm,by omega,rfl,hb.alloc (by omega) _,aa7 ((Below.refl _ _).alloc (Nat.le_refl _) _) q4,aa7 ((Below.refl _ _).alloc (Nat.le_refl _) _) q5,
        aa7 ((Below.refl _ _).alloc (Nat.le_refl _) _) q6,by simp;omega⟩
      case round =>
       obtain⟨j,m2,left,hj,rfl,rfl,rfl,rfl,rfl,rfl,hm2,hleft,hst,hb2,q4',q5',q6',hzx⟩:=hrel
       clear q4 q5 q6
       by_cases hjt:j<sp.length
       ·have hy:=ka7 (c:=c3) Tryz.underlying68 di7 (ha3 (by omega)) hjt
        have g3:=aa7 hb2 (hcell3 j hjt)
        obtain⟨c,hc⟩:∃c,c=sp[j]:=⟨_,rfl⟩
        rw[← hc]at g3
        have hnx:(sp.drop j).foldl (ni7 x) (some (m2,left))=(sp.drop (j+1)).foldl (ni7 x) (ni7 x (some (m2,left)) c):=by rw[List.drop_eq_getElem_cons hjt,← hc];rfl
        rw[hnx]at hst
        clear hnx hc hcell3 ha3
        have HST:=hid hst
        clear hst
        have HBAD:=hid (show ae7 x m2 c=true→le7 x p.bikes=(false,false,l) from fun h=>by rw[HGO.out];exact ll7 (by rw[HST.out,nn7 h,kn7]))
        have HOK:=hid (show ae7 x m2 c=false→pq7 x m sp=(sp.drop (j+1)).foldl (ni7 x) (some (m2 ||| 2 ^ c.toNat,left-(xcb7 x c).load)) from fun h=>by rw[HST.out,uq7 h])
        clear HST
        by_cases f1:c<0
        ·have HB:=hid (HBAD.out (by simp[ae7,f1]))
         go_wp2
         go_ret3
         exact⟨by rw[HB.out];rfl,hb2⟩
        ·by_cases f2:(x.custs.length:Int)≤c
         ·have HB:=hid (HBAD.out (by simp[ae7,f2]))
          go_wp2
          go_ret3
          exact⟨by rw[HB.out];rfl,hb2⟩
         ·obtain⟨cn,rfl⟩:∃cn:Nat,c=cn:=⟨c.toNat,by omega⟩
          rw[Int.toNat_natCast]at HOK
          have hcn:cn<6:=by omega
          have hcl:cn<x.custs.length:=by omega
          cases f3:m2.testBit cn
          ·have HO:=hid (HOK.out (by simp[ae7,f3];omega))
           have HW:=hid (qr7 m2 cn (by omega) (by omega))
           have HV:=hid (flb7 m2 cn (by omega) (by omega))
           have HM:=hid (egc7 hm2 hcn)
           have hic:=vb7 (c:=c1') Tryz.underlying55 cs7 (ha' (by omega)) hcl
           have hcl1:=aa7 hb2 (hcell' cn hcl).1
           have hld:=hcu _ (List.getElem_mem hcl)
           obtain⟨ld,hlde⟩:∃ld,ld=x.custs[cn].load:=⟨_,rfl⟩
           have HLD:=hid (show (xcb7 x (cn:Int)).load=ld from by unfold xcb7;rw[Int.toNat_natCast,List.getD_eq_getElem?_getD,List.getElem?_eq_getElem hcl,hlde];rfl)
           rw[← hlde]at hcl1 hld
           clear hm hm2 hlde hcell'
           go_wp2_with (first
            | (go_at_call 95;refine (HW.out _).mono ?_;rintro e w' ⟨rfl,rfl⟩;rw[f3])
            | (go_at_call 155;refine (HV.out _).mono ?_;rintro e w' ⟨rfl,rfl⟩))
           go_roundw
           case rel=>exact⟨j+1,m2 ||| 2 ^ cn,left-ld,by omega,by go_num,rfl,rfl,rfl,rfl,rfl,HM.out,by omega,by rw[HO.out,HLD.out],hb2,q4',q5',q6',hzx⟩
           case measure=>simp[intOf];omega
          ·have HB:=hid (HBAD.out (by simp[ae7,f3]))
           have HW:=hid (qr7 m2 cn (by omega) (by omega))
           clear hm hm2
           go_wp2_with (go_at_call 95;refine (HW.out _).mono ?_;rintro e w' ⟨rfl,rfl⟩;rw[f3])
           go_ret3
           exact⟨by rw[HB.out];rfl,hb2⟩
       ·have hjl:j=sp.length:=by omega
        subst hjl
        have HG:=hid (show le7 x p.bikes=bi7 x (p.bikes.drop (k+1)) m2 (l&&decide (0≤left)) from by rw[HGO.out];exact up7 HNB.out (by rw[hst,List.drop_length];rfl))
        have HM:=hid hm2
        clear hst HGO hcell3 ha3 hleft hj hm2
        cases l <;> by_cases f2:0≤left
        all_goals
         go_wp2
         go_roundw
         case rel=>exact⟨k+1,m2,_,by omega,by go_num,rfl,rfl,rfl,rfl,HM.out,by rw[HG.out];simp[f2],hb2,q4',q5',q6',hzx⟩
         case measure=>simp[intOf];omega
  ·have hkl:k=p.bikes.length:=by omega
   subst hkl
   have HG:=hid (show le7 x p.bikes=(true,decide (Lib.onesCount m=x.custs.length),l) from by rw[hgo,List.drop_length];rfl)
   have HL:=hid (plc7 m hm)
   clear hcell2 ha2 hgo hm
   cases hdd:((Lib.onesCount m:Nat):Int)==(x.custs.length:Int)
   all_goals
    have HD:=hid (show decide (Lib.onesCount m=x.custs.length)=_ from (ex7 _ _).symm.trans hdd)
    go_wp2
    go_quiet ((go_at_call 210;exact Calls.quiet_of_same (HL.out _)))
    go_wp2
    go_ret3
    exact⟨by rw[HG.out,HD.out];rfl,by simpa using below_drewN hb _⟩
structure Good (x:ba7):Prop where
 tmany:1≤x.tmany∧x.tmany≤60
 bmany:1≤x.bmany∧x.bmany≤60
 sats:1≤x.sats.length∧x.sats.length≤12
 custs:1≤x.custs.length∧x.custs.length≤48
 fin:0≤x.fin∧x.fin≤1000000000
 troom:0≤x.troom∧x.troom≤1000000000
 broom:0≤x.broom∧x.broom≤1000000000
 sat:∀s∈x.sats,(0≤s.room∧s.room≤1000000000)∧0≤s.hold∧s.hold≤1000000000
 cust:∀c∈x.custs,(1≤c.load∧c.load≤1000000000)∧(0≤c.opn∧c.opn≤1000000000)∧(c.opn≤c.cls∧c.cls≤1000000000)∧0≤c.stay∧c.stay≤1000000000
 costL:x.cost.length=nodes x
 timeL:x.time.length=nodes x
 costR:∀r∈x.cost,r.length=nodes x
 timeR:∀r∈x.time,r.length=nodes x
 cost:∀r∈x.cost,∀v∈r,0≤v∧v≤1000000000
 time:∀r∈x.time,∀v∈r,0≤v∧v≤1000000000
theorem lh7 {n l:Int}(h:on7 n l=true):l≤n∧n≤1000000000:=by simpa[on7]using h
theorem jv7 {l:List (List Int)}{n:Nat}(h:yh7 l (n:Int)=true):l.length=n∧∀r∈l,r.length=n:=by
 simp only[yh7,Bool.and_eq_true,beq_iff_eq,Bool.not_eq_true',List.any_eq_false,bne_iff_ne,ne_eq,Decidable.not_not]at h
 exact⟨by omega,fun r hr=>by have:=h.2 r hr;omega⟩
theorem xjb7 {l:List (List Int)}(h:qrb7 l l.length=true):∀r∈l,∀v∈r,0≤v∧v≤1000000000:=by
 intro r hr v hv
 obtain⟨i,hi,rfl⟩:=List.getElem_of_mem hr
 obtain⟨j,hj,rfl⟩:=List.getElem_of_mem hv
 simp only[qrb7,List.all_eq_true,List.mem_range]at h
 have h1:=h i hi
 rw[List.getD_eq_getElem?_getD,List.getElem?_eq_getElem hi]at h1
 simp only[wub7,Option.getD_some,List.all_eq_true,List.mem_range]at h1
 have h2:=h1 j hj
 rw[List.getD_eq_getElem?_getD,List.getElem?_eq_getElem hj]at h2
 simp only[csb7,Bool.and_eq_true]at h2
 exact lh7 h2.1
theorem li7 {x:ba7}(h:check x=0):Good x:=by
 unfold check at h
 split at h
 case isFalse=>cases h
 rename_i hc
 split at h
 case isFalse=>cases h
 rename_i hs
 split at h
 case isFalse=>cases h
 rename_i hn
 simp only[countB,manyB,Bool.and_eq_true,decide_eq_true_eq]at hc
 simp only[jqb7,Bool.and_eq_true]at hs
 simp only[xn7,ggb7,Bool.and_eq_true,List.all_eq_true]at hn
 obtain⟨⟨⟨⟨⟨⟨n0,n1⟩,n2⟩,n3⟩,n4⟩,n5⟩,n6⟩:=hn
 have s1:=jv7 hs.1
 have s2:=jv7 hs.2
 exact {
     tmany:=by omega,bmany:=by omega,sats:=by omega,custs:=by omega,fin:=lh7 n0,troom:=lh7 n1,broom:=lh7 n2,
     sat:=fun s hs'=>by have:=n3 s hs';simp only[wgc7,Bool.and_eq_true]at this;exact⟨lh7 this.1,lh7 this.2⟩,
     cust:=fun c hc'=>by have:=n4 c hc';simp only[arb7,Bool.and_eq_true]at this;exact⟨lh7 this.1.1.1,lh7 this.1.1.2,lh7 this.1.2,lh7 this.2⟩,
     costL:=s1.1,timeL:=s2.1,costR:=s1.2,timeR:=s2.2,cost:=xjb7 n5,time:=xjb7 n6 }
theorem xab7 {x:ba7}{m:Nat}{s:ea7}(h:jd7 x m s=false):de7 x s:=by
 simp only[jd7,Bool.or_eq_false_iff,decide_eq_false_iff_not]at h
 unfold de7;omega
theorem zy7 {x:ba7}:∀(l:List ea7) (m:Nat) (left:Int) (r:Nat×Int),l.foldl (pj7 x) (some (m,left))=some r→∀s∈l,de7 x s
 | [],_,_,_,_,s,hs=>by cases hs
 | a::l,m,left,r,h,s,hs=>by
  rw[List.foldl_cons]at h
  cases hb:jd7 x m a
  ·rw[iq7 hb]at h
   rcases List.mem_cons.1 hs with rfl | hs
   ·exact xab7 hb
   ·exact zy7 l _ _ r h s hs
  ·rw[ln7 hb,zn7]at h;cases h
theorem dt7 {x:ba7}:∀(l:List (List ea7)) (r d:Bool),(pe7 x l r d).1=true→r=true∧∀t∈l,0<t.length∧∀s∈t,de7 x s
 | [],r,d,h=>⟨h,fun _ h=>by cases h⟩
 | a::l,r,d,h=>by
  cases ha:pi7 x a with
  | none=>rw[el7 ha]at h;cases h
  | some q =>
   obtain⟨m,left⟩:=q
   rw[lk7 ha]at h
   obtain⟨h1,h2⟩:=dt7 l _ _ h
   simp only[Bool.and_eq_true,decide_eq_true_eq]at h1
   refine⟨h1.1,fun t ht=>?_⟩
   rcases List.mem_cons.1 ht with rfl | ht
   ·exact⟨h1.2,zy7 t _ _ _ ha⟩
   ·exact h2 t ht
theorem sy7 {x:ba7}{l:List (List ea7)}(h:(id7 x l).1=true):∀t∈l,0<t.length∧∀s∈t,de7 x s:=(dt7 l true true h).2
theorem fub7:∀(l:List Nat) (a:Nat),a∈l→a≤l.sum
 | b::l,a,h=>by
  rw[List.sum_cons]
  rcases List.mem_cons.1 h with rfl | h
  ·omega
  ·have:=fub7 l a h;omega
theorem bp7 {l:List ga7}{b:ga7}(h:b∈l):b.stops.length≤pb7 l l.length:=by
 unfold pb7;rw[List.take_length];exact fub7 _ _ (List.mem_map_of_mem h)
theorem ft7 {l:List (List ea7)}{t:List ea7}(h:t∈l):t.length≤gb7 l l.length:=by
 unfold gb7;rw[List.take_length];exact fub7 _ _ (List.mem_map_of_mem h)
def ot7 (x:ba7) (l:List Int) (k:Nat):Bool:=(List.range k).any fun i=>decide ((x.sats.getD i ⟨0,0⟩).room<l.getD i 0)
theorem jnb7 (x:ba7) (l:List Int) (k:Nat):ot7 x l (k+1)=(ot7 x l k || decide ((x.sats.getD k ⟨0,0⟩).room<l.getD k 0)):=by
 unfold ot7;rw[List.range_succ,List.any_append];simp
theorem kyb7 {x:ba7}{l:List Int}{k n:Nat}(h:ot7 x l k=true) (hk:k≤n):ot7 x l n=true:=by
 simp only[ot7,List.any_eq_true,List.mem_range]at h ⊢
 obtain⟨i,hi,h⟩:=h
 exact⟨i,by omega,h⟩
def ya7 (x:ba7) (p:ab7):Int :=
 if check x≠0 then check x else
 if x.tmany<p.trucks.length∨x.bmany<p.bikes.length then 11 else
 if (id7 x p.trucks).1=false∨(le7 x p.bikes).1=false then 15 else
 if (le7 x p.bikes).2.1=false then 8 else
 if (id7 x p.trucks).2=false∨(le7 x p.bikes).2.2=false then 10 else
 if ot7 x (yl7 x p.bikes) x.sats.length=true then 10 else
 if yl7 x p.bikes=oj7 x p.trucks then 0 else 13
def bd7 (p:ab7):Prop:=pb7 p.bikes p.bikes.length≤1000000∧gb7 p.trucks p.trucks.length≤1000000
theorem xnb7 (x:ba7) (l:List ga7):(yl7 x l).length=x.sats.length:=by unfold yl7;rw[rs7];simp
theorem fob7 (x:ba7) (l:List (List ea7)):(oj7 x l).length=x.sats.length:=by unfold oj7;rw[rl7];simp
theorem sfb7 {l:List Int}{n:Nat}(h:fc7 l n) (hn:n≤1000000):∀v∈l,za7 v:=fun v hv=>by have:=h v hv;unfold za7;omega
theorem no7 (x:ba7) (hcu:∀c∈x.custs,0≤c.load∧c.load≤1000000000) (sat:Int):∀(l:List Int) (out:List Int) (n:Nat),fc7 out n→fc7 (l.foldl (jf7 x sat) out) (n+l.length)
 | [],out,n,h=>h
 | c::l,out,n,h=>by
  rw[List.foldl_cons,List.length_cons,show n+(l.length+1)=(n+1)+l.length by omega]
  refine no7 x hcu sat l _ _ ?_
  unfold jf7
  split
  ·rename_i hc
   have hc2:c.toNat<x.custs.length:=by omega
   refine h.add ?_ ?_
   ·rw[List.getD_eq_getElem?_getD,List.getElem?_eq_getElem (by omega)];exact h.get (by omega)
   ·rw[List.getD_eq_getElem?_getD,List.getElem?_eq_getElem hc2];exact hcu _ (List.getElem_mem hc2)
  ·exact h.mono (by omega)
theorem mo7 (x:ba7) (hcu:∀c∈x.custs,0≤c.load∧c.load≤1000000000):∀(l:List ga7) (out:List Int) (n:Nat),fc7 out n→fc7 (l.foldl (kp7 x) out) (n+pb7 l l.length)
 | [],out,n,h=>h.mono (by omega)
 | b::l,out,n,h=>by
  have e:pb7 (b::l) (b::l).length=b.stops.length+pb7 l l.length:=by unfold pb7;simp
  rw[List.foldl_cons,e,← Nat.add_assoc]
  exact mo7 x hcu l _ _ (no7 x hcu b.sat b.stops out n h)
theorem ucb7 {x:ba7}{l:List ga7}(hcu:∀c∈x.custs,0≤c.load∧c.load≤1000000000):fc7 (yl7 x l) (pb7 l l.length):=by
 have:=mo7 x hcu l _ 0 (fc7.zero x.sats.length)
 rwa [Nat.zero_add]at this
theorem io7:∀(l:List ea7) (out:List Int) (n:Nat),(∀s∈l,(0≤s.sat∧s.sat<out.length)∧1≤s.load∧s.load≤1000000000)→fc7 out n→fc7 (l.foldl ai7 out) (n+l.length)
 | [],out,n,_,h=>h
 | c::l,out,n,ho,h=>by
  rw[List.foldl_cons,List.length_cons,show n+(l.length+1)=(n+1)+l.length by omega]
  refine io7 l _ _ (fun s hs=>by rw[xo7];exact ho s (List.mem_cons_of_mem _ hs)) ?_
  have hc:=ho c (List.mem_cons_self ..)
  unfold ai7
  refine h.add ?_ ⟨by omega,by omega⟩
  rw[List.getD_eq_getElem?_getD,List.getElem?_eq_getElem (by omega)];exact h.get (by omega)
theorem hm7:∀(l:List (List ea7)) (out:List Int) (n:Nat),(∀t∈l,∀s∈t,(0≤s.sat∧s.sat<out.length)∧1≤s.load∧s.load≤1000000000)→fc7 out n→fc7 (l.foldl mh7 out) (n+gb7 l l.length)
 | [],out,n,_,h=>h.mono (by omega)
 | b::l,out,n,ho,h=>by
  have e:gb7 (b::l) (b::l).length=b.length+gb7 l l.length:=by unfold gb7;simp
  rw[List.foldl_cons,e,← Nat.add_assoc]
  refine hm7 l _ _ (fun t ht s hs=>?_) (io7 b out n (ho b (List.mem_cons_self ..)) h)
  unfold mh7;rw[jm7];exact ho t (List.mem_cons_of_mem _ ht) s hs
theorem gdb7 {x:ba7}{l:List (List ea7)}(ho:∀t∈l,∀s∈t,de7 x s):fc7 (oj7 x l) (gb7 l l.length):=by
 have:=hm7 l _ 0 (fun t ht s hs=>by rw[List.length_replicate];exact ho t ht s hs) (fc7.zero x.sats.length)
 rwa [Nat.zero_add]at this
theorem xl7 {a:Int}(h:a≠0):(a != 0)=true:=by simpa using h
theorem jh7 {w:World}{F G:Nat→Prop}{x:ba7}{p:ab7}{cs ps:List Value}(h:kb7.rep w F x cs) (hp:wd7.rep w G p ps) (hn:check x=0→x.custs.length≤6) (hsm:bd7 p) :
  Calls Tryz.prog 145 #[.agg cs.toArray,.agg ps.toArray] w fun e w'=>e = .returned (.int .i64 (ya7 x p))∧Below w.heap.size w w':=by
 have hrep:=h
 have hprep:=hp
 obtain⟨s,c,co,ti,rfl,-,h1,h2,-,-⟩:=h
 obtain⟨a,b,off,c1,hs,hlc,hc,ha,-,hcell,-⟩:=td7 h1
 obtain rfl:=List.cons.inj hs |>.1
 obtain⟨tv,bv,rfl,h3,h4⟩:=hp
 obtain⟨a2,b2,off2,c2,hs2,hl2,hc2,-,-,-⟩:=lc7 h3
 obtain rfl:=List.cons.inj hs2 |>.1
 obtain⟨a4,b4,off4,c4,hs4,hl4,hc4,-,-,-⟩:=zc7 h4
 obtain rfl:=List.cons.inj hs4 |>.1
 have HB4:=hid h4
 clear hs hs2 hs4 h1 h2 h3 h4
 have R:=(Row.new (w:=w) (e:=57) (cs:=[.int .i64 x.fin,.int .i64 x.tmany,.int .i64 x.troom,.int .i64 x.bmany,.int .i64 x.broom,.slice a x.sats.length c1,c,co,ti]) rfl).alloc (.cells #[.slice a2 p.trucks.length c2,.slice a4 p.bikes.length c4] 37)
 have RP:=Row.new (w:=w.alloc (.cells #[.int .i64 x.fin,.int .i64 x.tmany,.int .i64 x.troom,.int .i64 x.bmany,.int .i64 x.broom,.slice a x.sats.length c1,c,co,ti] 57)) (e:=37) (g:=w.heap.size+1) (cs:=[.slice a2 p.trucks.length c2,.slice a4 p.bikes.length c4]) (by simp)
 have hb0:Below w.heap.size w ((w.alloc (.cells #[.int .i64 x.fin,.int .i64 x.tmany,.int .i64 x.troom,.int .i64 x.bmany,.int .i64 x.broom,.slice a x.sats.length c1,c,co,ti] 57)).alloc (.cells #[.slice a2 p.trucks.length c2,.slice a4 p.bikes.length c4] 37)):=((Below.refl _ _).alloc (Nat.le_refl _) _).alloc (by simp) _
 have HS:=hid hsm
 have HC:=hid hcell
 clear hsm hcell
 by_cases hck:check x=0
 case neg =>
  have hck2:=xl7 hck
  have HE:=hid (show ya7 x p=check x from if_pos hck)
  clear hck hn
  go_enter Tryz.func145,Tryz.ntmps145
  go_wp2_with fail
  refine (xgb7 (kb7.below hrep hb0)).mono ?_
  rintro e w1 ⟨rfl,hb1⟩
  go_wp2
  go_ret
  exact⟨yb7 HE.out.symm,ca7 hb0 hb1⟩
 have gd:=li7 hck
 have hn6:=hn hck
 have hss:=gd.sats
 have htr:=gd.troom
 have hbr:=gd.broom
 have hcu:∀c∈x.custs,0≤c.load∧c.load≤1000000000:=fun c hc=>by have:=(gd.cust c hc).1;omega
 have HCK:=hid hck
 have HGD:=hid gd
 clear hck gd hn
 go_enter Tryz.func145,Tryz.ntmps145
 go_wp2_with fail
 refine (xgb7 (kb7.below hrep hb0)).mono ?_
 rintro e w1 ⟨rfl,hb1⟩
 rw[HCK.out]
 have R1:=R.below hb1
 have RP1:=RP.below hb1
 have hB1:=ca7 hb0 hb1
 clear R RP hb0 hb1
 obtain⟨q0,q1,q2,q3,q4,q5,q6,q7,q8⟩:=wh7 R1
 obtain⟨p0,p1⟩:=gf7 RP1
 by_cases e1:x.tmany<p.trucks.length
 ·have HE:=hid (show ya7 x p=11 from by unfold ya7;rw[if_neg (by simpa using HCK.out),if_pos (.inl e1)])
  go_wp2
  go_ret
  exact⟨yb7 HE.out.symm,hB1⟩
 by_cases e2:x.bmany<p.bikes.length
 ·have HE:=hid (show ya7 x p=11 from by unfold ya7;rw[if_neg (by simpa using HCK.out),if_pos (.inr e2)])
  go_wp2
  go_ret
  exact⟨yb7 HE.out.symm,hB1⟩
 have HX:=hid (show ∀v,(if (id7 x p.trucks).1=false∨(le7 x p.bikes).1=false then 15 else
   if (le7 x p.bikes).2.1=false then 8 else if (id7 x p.trucks).2=false∨(le7 x p.bikes).2.2=false then 10 else
   if ot7 x (yl7 x p.bikes) x.sats.length=true then 10 else if yl7 x p.bikes=oj7 x p.trucks then 0 else 13)=v→ya7 x p=v from fun v hv=>by
  unfold ya7;rw[if_neg (by simpa using HCK.out),if_neg (by omega)];exact hv)
 go_wp2_with fail
 refine (ovb7 (kb7.below hrep hB1) (wd7.below hprep hB1) (by omega) htr (fun t ht=>by have:=ft7 ht;have:=HS.out.2;omega)).mono ?_
 rintro e w2 ⟨rfl,hb2⟩
 have R2:=R1.below hb2
 have RP2:=RP1.below hb2
 have hB2:=ca7 hB1 hb2
 clear q0 q1 q2 q3 q4 q5 q6 q7 q8 p0 p1 R1 RP1 hB1 hb2
 obtain⟨q0,q1,q2,q3,q4,q5,q6,q7,q8⟩:=wh7 R2
 obtain⟨p0,p1⟩:=gf7 RP2
 have HTO:=hid (sy7 (x:=x) (l:=p.trucks))
 obtain⟨⟨r1,r2⟩,hrr⟩:∃r,r=id7 x p.trucks:=⟨_,rfl⟩
 rw[← hrr]at HX HTO ⊢
 have HRR:=hid hrr
 clear hrr
 simp only[]at HX HTO ⊢
 go_wp2_with fail
 refine (cac7 (kb7.below hrep hB2) (wd7.below hprep hB2) hn6 hbr hcu (fun t ht=>by have:=bp7 ht;have:=HS.out.1;omega)).mono ?_
 rintro e w3 ⟨rfl,hb3⟩
 have R3:=R2.below hb3
 have RP3:=RP2.below hb3
 have hB3:=ca7 hB2 hb3
 clear q0 q1 q2 q3 q4 q5 q6 q7 q8 p0 p1 R2 RP2 hB2 hb3
 obtain⟨q0,q1,q2,q3,q4,q5,q6,q7,q8⟩:=wh7 R3
 obtain⟨p0,p1⟩:=gf7 RP3
 obtain⟨⟨s1,s2,s3⟩,hrr⟩:∃r,r=le7 x p.bikes:=⟨_,rfl⟩
 rw[← hrr]at HX ⊢
 have HSS:=hid hrr
 clear hrr
 simp only[]at HX ⊢
 cases r1
 ·have HE:=hid (HX.out 15 (by simp))
  cases s1
  all_goals
   go_wp2
   go_ret
   exact⟨yb7 HE.out.symm,hB3⟩
 cases s1
 ·have HE:=hid (HX.out 15 (by simp))
  go_wp2
  go_ret
  exact⟨yb7 HE.out.symm,hB3⟩
 cases s2
 ·have HE:=hid (HX.out 8 (by simp))
  go_wp2
  go_ret
  exact⟨yb7 HE.out.symm,hB3⟩
 cases r2
 ·have HE:=hid (HX.out 10 (by simp))
  cases s3
  all_goals
   go_wp2
   go_ret
   exact⟨yb7 HE.out.symm,hB3⟩
 cases s3
 ·have HE:=hid (HX.out 10 (by simp))
  go_wp2
  go_ret
  exact⟨yb7 HE.out.symm,hB3⟩
 have HY:=hid (show ∀v,(if ot7 x (yl7 x p.bikes) x.sats.length=true then 10 else if yl7 x p.bikes=oj7 x p.trucks then 0 else 13)=v→ya7 x p=v from fun v hv=>HX.out v (by simpa using hv))
 clear HX HRR HSS
 go_wp2_with fail
 have hbk:oo7.rep w3 G p.bikes [.slice a4 p.bikes.length c4]:=oo7.below HB4.out hB3
 refine (zdc7 (kb7.below hrep hB3) hbk (by omega) hcu HS.out.1).mono ?_
 rintro e w4 ⟨g,rfl,hg,hgw,hb4⟩
 have hB4:=ca7 hB3 hb4
 have R4:=R3.below hb4
 have RP4:=RP3.below hb4
 have hgz:w.heap.size+1<g:=by have:=RP3.lt;omega
 clear q0 q1 q2 q3 q4 q5 q6 q7 q8 p0 p1 R3 RP3 hB3 hb4 hbk hgw
 obtain⟨q0,q1,q2,q3,q4,q5,q6,q7,q8⟩:=wh7 R4
 obtain⟨p0,p1⟩:=gf7 RP4
 have hll:=xnb7 x p.bikes
 have hsl:=ucb7 (x:=x) (l:=p.bikes) hcu
 have hsn:=HS.out.1
 obtain⟨ll,hlle⟩:∃ll,ll=yl7 x p.bikes:=⟨_,rfl⟩
 rw[← hlle]at hll hsl HY hg
 have HL:=hid hlle
 have HLL:=hid hll
 have HSL:=hid hsl
 have HG:=hid hg
 clear hlle hll hsl hg
 go_wp2
 go_loop [71] (fun i=>∃k:Nat,k≤x.sats.length∧i = .int .i64 k∧ot7 x ll k=false) (fun i=>x.sats.length-(intOf i).toNat)
 case atStart=>exact⟨0,Nat.zero_le _,rfl,rfl⟩
 case round =>
  obtain⟨k,hk,rfl,hov⟩:=hrel
  by_cases hlt:k<x.sats.length
  ·have hkl:k<ll.length:=by have:=HLL.out;omega
   have g0:=HG.out.cell (j:=k) (by rw[List.length_map];exact hkl)
   rw[List.getElem_map]at g0
   have gs:=aa7 hB4 (HC.out k hlt).1
   have hix:=ka7 (c:=x.sats.length) Tryz.underlying78 qc7 (a:=some ⟨g,0,none⟩) rfl hlt
   have his:=vb7 (c:=c1) Tryz.underlying54 xdb7 (ha (by omega)) hlt
   rw[Nat.zero_add]at hix
   obtain⟨v,hv⟩:∃v,v=ll[k]:=⟨_,rfl⟩
   obtain⟨r,hr⟩:∃r,r=(x.sats[k]).room:=⟨_,rfl⟩
   rw[← hv]at g0
   rw[← hr]at gs
   unfold ib7 at g0
   have HO:=hid (show ot7 x ll (k+1)=decide (r<v) from by
    rw[jnb7,hov,hv,hr,List.getD_eq_getElem?_getD,List.getD_eq_getElem?_getD,List.getElem?_eq_getElem hlt,List.getElem?_eq_getElem hkl];rfl)
   clear hv hr hov hkl
   by_cases hrv:r<v
   ·have HE:=hid (HY.out 10 (if_pos (kyb7 (k:=k+1) (by rw[HO.out];exact decide_eq_true hrv) (by omega))))
    go_wp2
    go_ret
    exact⟨yb7 HE.out.symm,hB4⟩
   ·have HO2:=hid (show ot7 x ll (k+1)=false from by rw[HO.out];exact decide_eq_false hrv)
    go_wp2
    go_round
    case rel=>exact⟨k+1,by omega,by go_num,HO2.out⟩
    case measure=>simp[intOf];omega
  ·have hke:k=x.sats.length:=by omega
   subst hke
   have HZ:=hid (show ∀v,(if ll=oj7 x p.trucks then 0 else 13)=v→ya7 x p=v from fun v hv=>HY.out v (by rw[if_neg (by rw[hov];decide)];exact hv))
   have hto:∀t∈p.trucks,∀s∈t,de7 x s:=fun t ht=>(HTO.out trivial t ht).2
   have hds:=gdb7 hto
   have hdl:=fob7 x p.trucks
   clear hov HY HC ha
   go_wp2_with fail
   refine (obc7 (kb7.below hrep hB4) (wd7.below hprep hB4) (by omega) hto HS.out.2).mono ?_
   rintro e w5 ⟨g',rfl,hg',hgw',hb5⟩
   have hB5:=ca7 hB4 hb5
   have hwl:=sfb7 HSL.out hsn
   have hwd:=sfb7 hds HS.out.2
   have r1:(ia7 hf7).rep w5 (fun _=>True) ll [.slice (some ⟨g,0,none⟩) ll.length ll.length]:=cab7 (HG.out.below hb5) (Nat.le_refl _) (by unfold maxLen;have:=HLL.out;omega) trivial hwl
   have r2:(ia7 hf7).rep w5 (fun _=>True) (oj7 x p.trucks) [.slice (some ⟨g',0,none⟩) (oj7 x p.trucks).length (oj7 x p.trucks).length]:=cab7 hg' (Nat.le_refl _) (by unfold maxLen;omega) trivial hwd
   rw[HLL.out]at r1
   rw[hdl]at r2
   have HDS:=hid hds
   have HWL:=hid hwl
   clear q0 q1 q2 q3 q4 q5 q6 q7 q8 p0 p1 hdl hds hwl hwd hto hb5
   go_wp2_with fail
   refine (ubb7 r1 r2).mono ?_
   rintro e w6 ⟨rfl,nd,rfl⟩
   by_cases hd:ll=oj7 x p.trucks
   ·have HE:=hid (HZ.out 0 (if_pos hd))
    rw[decide_eq_true hd]
    go_wp2
    go_ret
    exact⟨yb7 HE.out.symm,below_drewN hB5 _⟩
   ·have HE:=hid (HZ.out 13 (if_neg hd))
    rw[decide_eq_false hd]
    go_wp2
    go_ret
    exact⟨yb7 HE.out.symm,below_drewN hB5 _⟩
theorem ve7 {w:World}{F:Nat→Prop}{x:ba7}{cs:List Value}(h:kb7.rep w F x cs) {n:Int}(hn:0≤n∧n≤1000000000) :
  Calls Tryz.prog 102 #[.agg cs.toArray,.int .i64 n] w fun e w'=>e = .returned (.int .i64 (1+n))∧Below w.heap.size w w':=by
 obtain⟨s,c,co,ti,rfl,-,-,-,-,-⟩:=h
 go_enter Tryz.func102,Tryz.ntmps102
 go_wp2
 go_ret
 exact⟨rfl,(Below.refl _ _).alloc (Nat.le_refl _) _⟩
theorem vk7 {w:World}{F:Nat→Prop}{x:ba7}{cs:List Value}(h:kb7.rep w F x cs) (hl:x.sats.length≤1000000) {n:Int}(hn:0≤n∧n≤1000000000) :
  Calls Tryz.prog 103 #[.agg cs.toArray,.int .i64 n] w fun e w'=>e = .returned (.int .i64 (1+x.sats.length+n))∧Below w.heap.size w w':=by
 obtain⟨s,c,co,ti,rfl,-,h1,-,-,-⟩:=h
 obtain⟨a,b,off,c1,hs,-,-,-,-,-,-⟩:=td7 h1
 obtain rfl:=List.cons.inj hs |>.1
 clear hs h1
 go_enter Tryz.func103,Tryz.ntmps103
 go_wp2
 go_ret
 exact⟨rfl,(Below.refl _ _).alloc (Nat.le_refl _) _⟩
def kt7 (x:ba7) (a b:Int):Int:=(x.cost.getD a.toNat []).getD b.toNat 0
def ey7 (x:ba7) (l:List Int) (k:Nat):Int:=((List.range k).map fun i=>kt7 x (l.getD i 0) (l.getD ((i+1) % l.length) 0)).sum
def ttb7 (x:ba7) (l:List Int):Int:=ey7 x l l.length
theorem tz7 (x:ba7) (l:List Int) (k:Nat):ey7 x l (k+1)=ey7 x l k+kt7 x (l.getD k 0) (l.getD ((k+1) % l.length) 0):=by
 unfold ey7;rw[List.range_succ,List.map_append,List.sum_append];simp
theorem ddb7 {x:ba7}(g:Good x) (a b:Int):0≤kt7 x a b∧kt7 x a b≤1000000000:=by
 unfold kt7
 rw[List.getD_eq_getElem?_getD,List.getD_eq_getElem?_getD]
 by_cases h:a.toNat<x.cost.length
 ·rw[List.getElem?_eq_getElem h,Option.getD_some]
  by_cases h2:b.toNat<(x.cost[a.toNat]).length
  ·rw[List.getElem?_eq_getElem h2];exact g.cost _ (List.getElem_mem h) _ (List.getElem_mem h2)
  ·rw[List.getElem?_eq_none (by omega)];decide
 ·rw[show x.cost[a.toNat]? = none from List.getElem?_eq_none (by omega)];simp
theorem vab7 {x:ba7}(g:Good x) (l:List Int):∀k:Nat,0≤ey7 x l k∧ey7 x l k≤1000000000*(k:Int)
 | 0=>by unfold ey7;simp
 | k+1=>by
  have h1:=vab7 g l k
  have h2:=ddb7 g (l.getD k 0) (l.getD ((k+1) % l.length) 0)
  rw[tz7];push_cast;omega
theorem vec7 {w:World}{F G:Nat→Prop}{x:ba7}{cs:List Value}{l:List Int}{v:Value}(h:kb7.rep w F x cs) (hl:(ia7 hf7).rep w G l [v]) (hck:check x=0) (hin:∀a∈l,0≤a∧a<nodes x) (hn:l.length≤2000000) :
  Calls Tryz.prog 150 #[.agg cs.toArray,v] w fun e w'=>e = .returned (.int .i64 (ttb7 x l))∧Below w.heap.size w w':=by
 have hrep:=h
 obtain⟨s,c,co,ti,rfl,-,h1,-,h3,-⟩:=h
 obtain⟨a,b,off,c1,hs,-,-,-,-,-,-⟩:=td7 h1
 obtain rfl:=List.cons.inj hs |>.1
 obtain⟨a7,b7,off7,c7,hs7,hl7,hc7,ha7,-,hcell7⟩:=cd7 h3
 obtain rfl:=List.cons.inj hs7 |>.1
 obtain⟨a2,b2,off2,c2,hs2,hl2,hc2,ha2,-,hcell2,-⟩:=bb7 hl
 obtain rfl:=List.cons.inj hs2 |>.1
 clear hs hs7 hs2 h1 h3 hl
 have gd:=li7 hck
 have hnl:=gd.sats
 have hnc:=gd.custs
 have hco:=gd.costL
 have HCK:=hid hck
 have HGD:=hid gd
 have HCO:=hid hco
 clear hck gd hco
 go_enter Tryz.func150,Tryz.ntmps150
 go_wp2
 go_loopw [5,11] (fun ss i wr=>∃k:Nat,k≤l.length∧i = .int .i64 k∧ss = .int .i64 (ey7 x l k)∧Row wr w.heap.size 57 [.int .i64 x.fin,.int .i64 x.tmany,.int .i64 x.troom,.int .i64 x.bmany,.int .i64 x.broom,.slice a x.sats.length c1,c,.slice a7 x.cost.length c7,ti] ∧
   Below w.heap.size w wr) (fun _ i _=>l.length-(intOf i).toNat)
 case atStart=>exact⟨0,Nat.zero_le _,rfl,rfl,Row.new (cs:=[.int .i64 x.fin,.int .i64 x.tmany,.int .i64 x.troom,.int .i64 x.bmany,.int .i64 x.broom,.slice a x.sats.length c1,c,.slice a7 x.cost.length c7,ti]) rfl,(Below.refl _ _).alloc (Nat.le_refl _) _⟩
 case round =>
  obtain⟨k,hk,rfl,rfl,R,hb⟩:=hrel
  obtain⟨wo,rfl⟩:∃wo:World,wo=wr:=⟨_,rfl⟩
  have hsb:=vab7 HGD.out l k
  have hkk:1000000000*(k:Int)≤1000000000*2000000:=by omega
  obtain⟨sm,hsm⟩:∃sm,sm=ey7 x l k:=⟨_,rfl⟩
  rw[← hsm]at hsb ⊢
  have HSM:=hid hsm
  clear hsm
  by_cases hlt:k<l.length
  ·have hx:=ka7 (c:=c2) Tryz.underlying68 di7 (ha2 (by omega)) hlt
   have hml:(k+1) % l.length<l.length:=Nat.mod_lt _ (by omega)
   have hx2:∀w,(Instr.indexAt 68 (.slice a2 l.length c2) (.int .i64 (((k:Int)+1) % (l.length:Int)))).run Tryz.prog w = .ok (.pointer (some ⟨b2,off2+(k+1) % l.length,none⟩)) w:=fun w=>by
    have:=ka7 (c:=c2) Tryz.underlying68 di7 (ha2 (by omega)) hml w
    simpa using this
   have g0:=aa7 hb (hcell2 k hlt)
   have g1:=aa7 hb (hcell2 _ hml)
   have i0:=hin _ (List.getElem_mem hlt)
   have i1:=hin _ (List.getElem_mem hml)
   obtain⟨A,hA⟩:∃A,A=l[k]:=⟨_,rfl⟩
   obtain⟨B,hB⟩:∃B,B=l[(k+1) % l.length]:=⟨_,rfl⟩
   rw[← hA]at g0 i0
   rw[← hB]at g1 i1
   have HS:=hid (show ey7 x l (k+1)=sm+kt7 x A B from by
    rw[tz7,HSM.out,hA,hB,List.getD_eq_getElem?_getD,List.getD_eq_getElem?_getD,List.getElem?_eq_getElem hlt,List.getElem?_eq_getElem hml];rfl)
   obtain⟨an,rfl⟩:∃an:Nat,A=an:=⟨A.toNat,by omega⟩
   obtain⟨bn,rfl⟩:∃bn:Nat,B=bn:=⟨B.toNat,by omega⟩
   have hab:=ddb7 HGD.out an bn
   have ha3:an<x.cost.length:=by rw[HCO.out];omega
   obtain⟨rv,gr,rr⟩:=hcell7 an ha3
   obtain⟨a8,b8,off8,c8,hs8,hl8,hc8,ha8,-,hcell8,-⟩:=bb7 rr
   obtain rfl:=List.cons.inj hs8 |>.1
   have hrl:=HGD.out.costR _ (List.getElem_mem ha3)
   have hb3:bn<(x.cost[an]).length:=by rw[hrl];omega
   clear hrl
   have hxr:=ka7 (c:=c7) Tryz.underlying38 ah7 (ha7 (by omega)) ha3
   have hxc:=ka7 (c:=c8) Tryz.underlying78 qc7 (ha8 (by omega)) hb3
   have g3:=hcell8 bn hb3
   obtain⟨cv,hcv⟩:∃cv,cv=x.cost[an][bn]:=⟨_,rfl⟩
   have HCV:=hid (show kt7 x an bn=cv from by unfold kt7;rw[Int.toNat_natCast,Int.toNat_natCast,List.getD_eq_getElem?_getD,List.getD_eq_getElem?_getD,List.getElem?_eq_getElem ha3,Option.getD_some,List.getElem?_eq_getElem hb3,hcv];rfl)
   rw[← hcv]at g3
   rw[HCV.out]at hab
   rw[HCV.out]at HS
   clear hA hB hcv hcell2 ha2 hcell7 ha7 hcell8 ha8 hs8 rr hin
   obtain⟨q0,q1,q2,q3,q4,q5,q6,q7,q8⟩:=wh7 R
   go_wp2_with fail
   refine (xgb7 (kb7.below hrep hb)).mono ?_
   rintro e w1 ⟨rfl,hb1⟩
   rw[HCK.out]
   have R1:=R.below hb1
   have hB1:=ca7 hb hb1
   clear q0 q1 q2 q3 q4 q5 q6 q7 q8 R
   obtain⟨q0,q1,q2,q3,q4,q5,q6,q7,q8⟩:=wh7 R1
   go_wp2_with fail
   refine (ejb7 (kb7.below hrep hB1) (by omega) (by omega)).mono ?_
   rintro e w2 ⟨rfl,hb2⟩
   have R2:=R1.below hb2
   have hB2:=ca7 hB1 hb2
   clear q0 q1 q2 q3 q4 q5 q6 q7 q8 R1
   obtain⟨q0,q1,q2,q3,q4,q5,q6,q7,q8⟩:=wh7 R2
   go_wp2_with fail
   refine (ejb7 (kb7.below hrep hB2) (by omega) (by omega)).mono ?_
   rintro e w3 ⟨rfl,hb3⟩
   have R3:=R2.below hb3
   have hB3:=ca7 hB2 hb3
   have g5:=aa7 hB3 gr
   have g6:=aa7 hB3 g3
   clear q0 q1 q2 q3 q4 q5 q6 q7 q8 R2 gr g3 g0 g1
   obtain⟨q0,q1,q2,q3,q4,q5,q6,q7,q8⟩:=wh7 R3
   go_wp2
   go_roundw
   case rel=>exact⟨k+1,by omega,by go_num,by rw[HS.out],R3,hB3⟩
   case measure=>simp[intOf];omega
  ·have hke:k=l.length:=by omega
   subst hke
   clear hcell2 ha2 hcell7 ha7
   go_wp2
   go_ret
   exact⟨yb7 HSM.out,hb⟩
theorem shc7 {α β:Type}(f:α→β):∀xs:List α,xs.flatMap (fun x=>[f x])=xs.map f
 | []=>rfl
 | x::xs=>by rw[List.flatMap_cons,List.map_cons,shc7 f xs];rfl
theorem vbb7 {α:Type}{S:Shape α}{h0:0<S.sz}{w:World}{B:Nat}{T:TypeId}{v:Value}{xs:List α}(enc:α→List Value) (hl:∀x,(enc x).length=S.sz) (hs:∀x∈xs,S.rep w (fun b=>B≤b) x (enc x))
  (h:w.ownsRow B T S.sz v xs.length (xs.flatMap enc)):(ia7 S h0).rep w (fun b=>B≤b) xs [v]:=by
 obtain⟨h1,h2⟩:=h
 rcases h2 with ⟨rfl,hn⟩ | ⟨g,cap,cur,rfl,hg,hh,hn1,hc,hsz,ht⟩
 ·have:xs=[]:=List.eq_nil_of_length_eq_zero hn
  subst this
  exact⟨none,0,0,0,rfl,Nat.le_refl _,Nat.zero_le _,fun h=>absurd h (Nat.not_lt_zero _),fun i h=>absurd h (Nat.not_lt_zero _)⟩
 ·have hR:Row w g T (xs.flatMap enc):=⟨cur,cur.toList.drop (xs.length*S.sz),hh,by rw[← ht,List.take_append_drop]⟩
  refine⟨some ⟨g,0,none⟩,g,0,cap,rfl,hn1,hc,fun _=>⟨rfl,hg⟩,fun i hi=>⟨enc xs[i],hs _ (List.getElem_mem hi),fun j hj=>?_⟩⟩
  have e:=dl7 enc S.sz hl xs i j hi hj
  have hj':j<(enc xs[i]).length:=by rw[hl];exact hj
  rw[List.getElem?_eq_getElem hj']at e ⊢
  rw[Nat.zero_add]
  exact hR.get e
theorem kk7 {w:World}{B:Nat}{T:TypeId}{v:Value}{xs:List Int}(h:w.ownsRow B T 1 v xs.length (xs.map ib7)) (hw:∀x∈xs,za7 x):(ia7 hf7).rep w (fun b=>B≤b) xs [v] :=
 vbb7 (S:=hf7) (fun x=>[ib7 x]) (fun _=>rfl) (fun x hx=>⟨rfl,hw x hx⟩) (by rw[shc7];exact h)
theorem Row.grown {w w':World}{g:Nat}{e:TypeId}{cs:List Value}{B T n k:Nat}{v:Value}{xs:List Value}(h:Row w g e cs) (hown:w.ownsRow B T k v n xs) (he:e≠T) (hg:w.grownBy w' v.ownBlock):Row w' g e cs :=
 h.keep (hg.block g h.lt fun e=>by obtain⟨cs',hc'⟩:=eg7 hown e.symm;exact h.ne hc' he rfl)
theorem ce7 {B B' T n k:Nat}{a w w':World}{v:Value}{xs:List Value}(h:Below B a w) (hown:w.ownsRow B' T k v n xs) (hB:B≤w.heap.size) (hB':B≤B') (hg:w.grownBy w' v.ownBlock):Below B a w' :=
 h.grown hg hB fun k hk=>Nat.le_trans hB' (hown.lt k hk).1
def xb7 (t:List ea7):List Int:=0::t.map (fun s=>1+s.sat)
def dc7 (x:ba7) (b:ga7):List Int:=(1+b.sat)::b.stops.map (fun c=>1+x.sats.length+c)
theorem sq7 {α β:Type}(f:α→β) (z:β) (l:List α) (k:Nat) (h:k<l.length):z::(l.take (k+1)).map f=(z::(l.take k).map f)++[f l[k]]:=by
 rw[List.take_succ_eq_append_getElem h,List.map_append];rfl
def yw7 (t:List ea7) (k:Nat):List Value:=(0::(t.take k).map (fun s=>1+s.sat)).map ib7
def thb7 (x:ba7) (st:Int) (t:List Int) (k:Nat):List Value:=((1+st)::(t.take k).map (fun c=>1+x.sats.length+c)).map ib7
theorem qgb7 (t:List ea7) (k:Nat) (h:k<t.length):yw7 t (k+1)=yw7 t k++[.int .i64 (1+t[k].sat)]:=by
 unfold yw7;rw[sq7 _ _ _ _ h,List.map_append];rfl
theorem vnb7 (x:ba7) (st:Int) (t:List Int) (k:Nat) (h:k<t.length):thb7 x st t (k+1)=thb7 x st t k++[.int .i64 (1+x.sats.length+t[k])]:=by
 unfold thb7;rw[sq7 _ _ _ _ h,List.map_append];rfl
theorem ql7:(Tryz.prog.info? 3).map (fun i=>(i.zero,i.size,i.bytes))=some (some (.int .i64 0),1,8):=by kernel_rfl
theorem ieb7 {w:World}{F G:Nat→Prop}{x:ba7}{cs:List Value}{t:List ea7}{v:Value}(h:kb7.rep w F x cs) (hl:(ia7 oe7).rep w G t [v]) (hin:∀s∈t,0≤s.sat∧s.sat≤1000000) (hn:t.length≤1000000) :
  Calls Tryz.prog 151 #[.agg #[v],.agg cs.toArray] w fun e w'=>∃u,e = .returned u∧(ia7 hf7).rep w' (fun b=>w.heap.size≤b) (xb7 t) [u]∧Below w.heap.size w w':=by
 have hrep:=h
 obtain⟨s,c,co,ti,rfl,-,-,-,-,-⟩:=h
 obtain⟨a2,b2,off2,c2,hs2,hl2,hc2,ha2,-,hcell2,-⟩:=sd7 hl
 obtain rfl:=List.cons.inj hs2 |>.1
 clear hs2 hl
 go_enter Tryz.func151,Tryz.ntmps151
 go_wp2
 go_loopw [5,12] (fun ov i wr=>∃(k:Nat) (ao:Option Addr) (cp:Nat),k≤t.length∧i = .int .i64 k∧ov = .slice ao (k+1) cp∧wr.ownsRow w.heap.size 3 1 (.slice ao (k+1) cp) (k+1) (yw7 t k) ∧
   Row wr (w.heap.size+1) 57 [.int .i64 x.fin,.int .i64 x.tmany,.int .i64 x.troom,.int .i64 x.bmany,.int .i64 x.broom,s,c,co,ti]∧Below w.heap.size w wr) (fun _ i _=>t.length-(intOf i).toNat)
 case atStart =>
  refine⟨0,_,_,Nat.zero_le _,rfl,rfl, ?_, ?_,(((Below.refl _ _).alloc (Nat.le_refl _) _).alloc (by simp) _).alloc (by simp;omega) _⟩
  ·have:=World.ownsRow_lit (e:=3) (size:=1) (base:=w.heap.size) ((w.alloc (.cells #[.slice a2 t.length c2] 124)).alloc (.cells #[.int .i64 x.fin,.int .i64 x.tmany,.int .i64 x.troom,.int .i64 x.bmany,.int .i64 x.broom,s,c,co,ti] 57)) #[.int .i64 0] 1 (by simp;omega) (by decide) rfl
   simpa[yw7,ib7]using this
  ·exact Row.alloc (Row.new (w:=w.alloc (.cells #[.slice a2 t.length c2] 124)) (cs:=[.int .i64 x.fin,.int .i64 x.tmany,.int .i64 x.troom,.int .i64 x.bmany,.int .i64 x.broom,s,c,co,ti]) (by simp)) _
 case round =>
  obtain⟨k,ao,cp,hk,rfl,rfl,hown,R,hb⟩:=hrel
  obtain⟨wo,rfl⟩:∃wo:World,wo=wr:=⟨_,rfl⟩
  by_cases hlt:k<t.length
  ·have hx:=vb7 (c:=c2) Tryz.underlying122 vo7 (ha2 (by omega)) hlt
   have g0:=aa7 hb (hcell2 k hlt).1
   have g1:=aa7 hb (hcell2 k hlt).2
   have i0:=hin _ (List.getElem_mem hlt)
   obtain⟨sp,hsp⟩:∃sp,sp=t[k]:=⟨_,rfl⟩
   rw[← hsp]at g0 g1 i0
   obtain⟨st,ld⟩:=sp
   simp only[]at g0 g1 i0
   have HM:=hid (qgb7 t k hlt)
   rw[← hsp]at HM
   have R0:=R.alloc (.cells #[.int .i64 st,.int .i64 ld] 121)
   have hsz:=hb.size
   have hb0:=hb.alloc hb.size (.cells #[.int .i64 st,.int .i64 ld] 121)
   have hown0:=hown.alloc (.cells #[.int .i64 st,.int .i64 ld] 121)
   have HO:=hid hown0
   obtain⟨q0,q1,q2,q3,q4,q5,q6,q7,q8⟩:=wh7 R0
   clear hcell2 ha2 hsp hin hown R hown0
   go_wp2_with fail
   refine (ve7 (kb7.below hrep hb0) (by omega)).mono ?_
   rintro e w1 ⟨rfl,hb1⟩
   have R1:=R0.below hb1
   have hB1:=ca7 hb0 hb1
   have hown1:=oa7 HO.out hb1
   have hs1:=hB1.size
   clear q0 q1 q2 q3 q4 q5 q6 q7 q8 R0
   have HR1:=hid R1
   have HB1:=hid hB1
   obtain⟨i1,hi,hz0,hz1,hz2⟩:=info_parts ql7
   clear R1 hB1 hb0 hb1
   go_wp2_with (at_builtin;refine wpList_append_own _ rfl _ _ 68 rfl w.heap.size 3 i1 (.int .i64 0) 1 8 Tryz.underlying68 hi hz0 hz1 hz2 rfl (by decide) _ _ _ rfl (hown1.alloc _) ⟨w1.heap.size,0,none⟩ 1 1 [.int .i64 (1+st)] rfl rfl ?c1 ?c2 ?c3 ?c4 ?c5 ?_)
   case c1=>exact cell_one_new _ _ _
   case c2=>intro u hu;simp at hu;subst hu;rfl
   case c3=>unfold maxLen;omega
   case c4=>omega
   case c5=>simp;omega
   intro v' w2 hown' hgrow _
   obtain⟨ao',cp',hv',-,-⟩:=xa7 hown'
   subst hv'
   have hR2:=(HR1.out.alloc _).grown (hown1.alloc _) (by decide) hgrow
   have hB2:=ce7 (HB1.out.alloc hs1 _) (hown1.alloc _) (by simp;omega) (Nat.le_refl _) hgrow
   have HOW:=hid (show w2.ownsRow w.heap.size 3 1 (.slice ao' (k+1+1) cp') (k+1+1) (yw7 t (k+1)) from by rw[HM.out];exact hown')
   clear hown' hgrow hown1 hi hz0 hz1 hz2
   go_wp2
   go_roundw
   case rel=>exact⟨k+1,ao',cp',by omega,by go_num,rfl,HOW.out,hR2,hB2⟩
   case measure=>simp[intOf];omega
  ·have hke:k=t.length:=by omega
   subst hke
   have hr:(ia7 hf7).rep wo (fun b=>w.heap.size≤b) (xb7 t) [.slice ao (t.length+1) cp]:=by
    refine kk7 (T:=3) ?_ ?_
    ·have:(xb7 t).length=t.length+1:=by simp[xb7]
     rw[this];unfold xb7;unfold yw7 at hown;rw[List.take_length]at hown;exact hown
    ·intro v hv
     simp only[xb7,List.mem_cons,List.mem_map]at hv
     rcases hv with rfl | ⟨s,hs,rfl⟩
     ·unfold za7;omega
     ·have:=hin s hs;unfold za7;omega
   have HR:=hid hr
   clear hr hown hcell2 ha2 hin
   go_wp2
   go_ret
   exact⟨_,rfl,HR.out,hb⟩
theorem ogb7 {w:World}{F G:Nat→Prop}{x:ba7}{cs:List Value}{k0:ga7}{bs:List Value}(h:kb7.rep w F x cs) (hl:cq7.rep w G k0 bs) (hsl:x.sats.length≤1000000) (hb0:0≤k0.sat∧k0.sat≤1000000)
  (hin:∀c∈k0.stops,0≤c∧c≤1000000) (hn:k0.stops.length≤1000000) :
  Calls Tryz.prog 152 #[.agg bs.toArray,.agg cs.toArray] w fun e w'=>∃u,e = .returned u∧(ia7 hf7).rep w' (fun b=>w.heap.size≤b) (dc7 x k0) [u]∧Below w.heap.size w w':=by
 have hrep:=h
 obtain⟨s,c,co,ti,rfl,-,-,-,-,-⟩:=h
 obtain⟨v,rfl,-,hl⟩:=hl
 obtain⟨st,t⟩:=k0
 simp only[]at hl hb0 hin hn
 obtain⟨a2,b2,off2,c2,hs2,hl2,hc2,ha2,-,hcell2,-⟩:=bb7 hl
 obtain rfl:=List.cons.inj hs2 |>.1
 clear hs2 hl
 have R0:=Row.new (w:=w.alloc (.cells #[.int .i64 st,.slice a2 t.length c2] 70)) (g:=w.heap.size+1) (e:=57) (cs:=[.int .i64 x.fin,.int .i64 x.tmany,.int .i64 x.troom,.int .i64 x.bmany,.int .i64 x.broom,s,c,co,ti]) (by simp)
 have P0:=(Row.new (w:=w) (g:=w.heap.size) (e:=70) (cs:=[.int .i64 st,.slice a2 t.length c2]) rfl).alloc (.cells #[.int .i64 x.fin,.int .i64 x.tmany,.int .i64 x.troom,.int .i64 x.bmany,.int .i64 x.broom,s,c,co,ti] 57)
 have hbb:Below w.heap.size w ((w.alloc (.cells #[.int .i64 st,.slice a2 t.length c2] 70)).alloc (.cells #[.int .i64 x.fin,.int .i64 x.tmany,.int .i64 x.troom,.int .i64 x.bmany,.int .i64 x.broom,s,c,co,ti] 57)):=((Below.refl _ _).alloc (Nat.le_refl _) _).alloc (by simp) _
 go_enter Tryz.func152,Tryz.ntmps152
 go_wp2_with fail
 refine (ve7 (kb7.below hrep hbb) (by omega)).mono ?_
 rintro e w1 ⟨rfl,hb1⟩
 have R1:=R0.below hb1
 have hB1:=ca7 hbb hb1
 have P1:=P0.below hb1
 clear R0 P0 hbb hb1
 obtain⟨p0,p1⟩:=gf7 P1
 have hs1:=hB1.size
 have hz1:=P1.lt
 have hz2:=R1.lt
 go_wp2
 go_loopw [5,16] (fun ov i wr=>∃(k:Nat) (ao:Option Addr) (cp:Nat),k≤t.length∧i = .int .i64 k∧ov = .slice ao (k+1) cp∧wr.ownsRow w.heap.size 3 1 (.slice ao (k+1) cp) (k+1) (thb7 x st t k) ∧
   Row wr (w.heap.size+1) 57 [.int .i64 x.fin,.int .i64 x.tmany,.int .i64 x.troom,.int .i64 x.bmany,.int .i64 x.broom,s,c,co,ti]∧Below w.heap.size w wr) (fun _ i _=>t.length-(intOf i).toNat)
 case atStart =>
  refine⟨0,_,_,Nat.zero_le _,rfl,rfl, ?_,R1.alloc _,hB1.alloc hs1 _⟩
  have:=World.ownsRow_lit (e:=3) (size:=1) (base:=w.heap.size) w1 #[.int .i64 (1+st)] 1 hs1 (by decide) rfl
  simpa[thb7,ib7]using this
 case round =>
  clear R1 P1 p0 p1 hB1
  obtain⟨k,ao,cp,hk,rfl,rfl,hown,R,hb⟩:=hrel
  obtain⟨wo,rfl⟩:∃wo:World,wo=wr:=⟨_,rfl⟩
  by_cases hlt:k<t.length
  ·have hx:=ka7 (c:=c2) Tryz.underlying68 di7 (ha2 (by omega)) hlt
   have g0:=aa7 hb (hcell2 k hlt)
   have i0:=hin _ (List.getElem_mem hlt)
   obtain⟨sp,hsp⟩:∃sp,sp=t[k]:=⟨_,rfl⟩
   rw[← hsp]at g0 i0
   have HM:=hid (vnb7 x st t k hlt)
   rw[← hsp]at HM
   have hsz:=hb.size
   have HO:=hid hown
   obtain⟨q0,q1,q2,q3,q4,q5,q6,q7,q8⟩:=wh7 R
   clear hcell2 ha2 hsp hin hown
   go_wp2_with fail
   refine (vk7 (kb7.below hrep hb) hsl (by omega)).mono ?_
   rintro e w1 ⟨rfl,hb1⟩
   have R1:=R.below hb1
   have hB1:=ca7 hb hb1
   have hown1:=oa7 HO.out hb1
   have hs1:=hB1.size
   clear q0 q1 q2 q3 q4 q5 q6 q7 q8 R
   have HR1:=hid R1
   have HB1:=hid hB1
   obtain⟨i1,hi,hz0,hz1,hz2⟩:=info_parts ql7
   clear R1 hB1 hb hb1
   go_wp2_with (at_builtin;refine wpList_append_own _ rfl _ _ 68 rfl w.heap.size 3 i1 (.int .i64 0) 1 8 Tryz.underlying68 hi hz0 hz1 hz2 rfl (by decide) _ _ _ rfl (hown1.alloc _) ⟨w1.heap.size,0,none⟩ 1 1 [.int .i64 (1+x.sats.length+sp)] rfl rfl ?c1 ?c2 ?c3 ?c4 ?c5 ?_)
   case c1=>exact cell_one_new _ _ _
   case c2=>intro u hu;simp at hu;subst hu;rfl
   case c3=>unfold maxLen;omega
   case c4=>omega
   case c5=>simp;omega
   intro v' w2 hown' hgrow _
   obtain⟨ao',cp',hv',-,-⟩:=xa7 hown'
   subst hv'
   have hR2:=(HR1.out.alloc _).grown (hown1.alloc _) (by decide) hgrow
   have hB2:=ce7 (HB1.out.alloc hs1 _) (hown1.alloc _) (by simp;omega) (Nat.le_refl _) hgrow
   have HOW:=hid (show w2.ownsRow w.heap.size 3 1 (.slice ao' (k+1+1) cp') (k+1+1) (thb7 x st t (k+1)) from by rw[HM.out];exact hown')
   clear hown' hgrow hown1 hi hz0 hz1 hz2
   go_wp2
   go_roundw
   case rel=>exact⟨k+1,ao',cp',by omega,by go_num,rfl,HOW.out,hR2,hB2⟩
   case measure=>simp[intOf];omega
  ·have hke:k=t.length:=by omega
   subst hke
   have hr:(ia7 hf7).rep wo (fun b=>w.heap.size≤b) (dc7 x ⟨st,t⟩) [.slice ao (t.length+1) cp]:=by
    refine kk7 (T:=3) ?_ ?_
    ·have:(dc7 x ⟨st,t⟩).length=t.length+1:=by simp[dc7]
     rw[this];unfold dc7;unfold thb7 at hown;rw[List.take_length]at hown;exact hown
    ·intro v hv
     simp only[dc7,List.mem_cons,List.mem_map]at hv
     rcases hv with rfl | ⟨s,hs,rfl⟩
     ·unfold za7;omega
     ·have:=hin s hs;unfold za7;omega
   have HR:=hid hr
   clear hr hown hcell2 ha2 hin
   go_wp2
   go_ret
   exact⟨_,rfl,HR.out,hb⟩
theorem or7 {α:Type}{S:Shape α}{h0:0<S.sz}{w:World}{F:Nat→Prop}{xs:List α}{g c:Nat}{T:TypeId}(vs:List (List Value)) (hl:vs.length=xs.length) (hv:∀v∈vs,v.length=S.sz)
  (hr:∀i (h:i<xs.length) (h':i<vs.length),S.rep w F xs[i] vs[i]) (h:Row w g T vs.flatten) (hc:xs.length≤c) (hm:c≤maxLen) (hF:F g):(ia7 S h0).rep w F xs [.slice (some ⟨g,0,none⟩) xs.length c]:=by
 refine⟨some ⟨g,0,none⟩,g,0,c,rfl,hc,hm,fun _=>⟨rfl,hF⟩,fun i hi=>⟨vs[i]'(by omega),hr i hi (by omega),fun j hj=>?_⟩⟩
 have hget:∀(l:List (List Value)) (i:Nat) (hi:i<l.length),(∀v∈l,v.length=S.sz)→l.flatten[i*S.sz+j]? = (l[i])[j]? := by
  intro l
  induction l with
  | nil=>intro i hi;simp at hi
  | cons a l ih =>
   intro i hi hl
   have ha:=hl a (List.mem_cons_self ..)
   rw[List.flatten_cons]
   cases i with
   | zero=>rw[Nat.zero_mul,Nat.zero_add,List.getElem?_append_left (by rw[ha];exact hj)];rfl
   | succ i =>
    rw[List.getElem?_append_right (by rw[ha,Nat.succ_mul];omega),ha,show (i+1)*S.sz+j-S.sz=i*S.sz+j by rw[Nat.succ_mul];omega]
    exact ih i (by simpa using hi) fun v hv=>hl v (List.mem_cons_of_mem _ hv)
 have e:=hget vs i (by omega) hv
 have hj':j<(vs[i]'(by omega)).length:=by rw[hv _ (List.getElem_mem _)];exact hj
 rw[List.getElem?_eq_getElem hj']at e ⊢
 rw[Nat.zero_add]
 exact h.get e
theorem iyb7 {α:Type}{S:Shape α}{h0:0<S.sz}{w:World}{F:Nat→Prop}{x:α}{v:List Value}{g:Nat}{T:TypeId}(hr:S.rep w F x v) (h:Row w g T v) (hF:F g):(ia7 S h0).rep w F [x] [.slice (some ⟨g,0,none⟩) 1 1]:=by
 refine or7 (xs:=[x]) (T:=T) [v] rfl ?_ ?_ (by simpa using h) (Nat.le_refl _) (by decide) hF
 ·intro u hu;simp at hu;subst hu;exact S.len hr
 ·intro i h h'
  obtain rfl:i=0:=by simp at h;exact h
  exact hr
theorem Row.setApart {w:World}{g g':Nat}{e e':TypeId}{cs cs':List Value}(h:Row w g e cs) (h':Row w g' e' cs') (he:e≠e') (j:Nat) (u:Value):Row (w.setCell ⟨g',j,none⟩ u) g e cs:=h.setOther (a:=⟨g',j,none⟩) (h.ne h' he) u
theorem bf7 (w:World) (c:List Value) (T:TypeId):Below w.heap.size w (w.alloc (.cells c.toArray T))∧Row (w.alloc (.cells c.toArray T)) w.heap.size T c∧(w.alloc (.cells c.toArray T)).heap.size=w.heap.size+1 :=
 ⟨(Below.refl _ _).alloc (Nat.le_refl _) _,Row.new rfl,by simp⟩
theorem mdc7 (w:World) (c1 c2 c3:List Value) (T1 T2 T3:TypeId):∃W,W=((w.alloc (.cells c1.toArray T1)).alloc (.cells c2.toArray T2)).alloc (.cells c3.toArray T3)∧Below w.heap.size w W ∧
  Row W w.heap.size T1 c1∧Row W (w.heap.size+1) T2 c2∧Row W (w.heap.size+2) T3 c3∧W.heap.size=w.heap.size+3:=by
 obtain⟨b1,r1,z1⟩:=bf7 w c1 T1
 obtain⟨b2,r2,z2⟩:=bf7 (w.alloc (.cells c1.toArray T1)) c2 T2
 obtain⟨b3,r3,z3⟩:=bf7 ((w.alloc (.cells c1.toArray T1)).alloc (.cells c2.toArray T2)) c3 T3
 refine⟨_,rfl,ca7 (ca7 b1 b2) b3,(r1.below b2).below b3, ?_, ?_,by omega⟩
 ·rw[z1]at r2;exact r2.below b3
 ·rw[show w.heap.size+2=((w.alloc (.cells c1.toArray T1)).alloc (.cells c2.toArray T2)).heap.size by omega];exact r3
theorem vib7 (w:World) (c1 c2 c3 c4 c5:List Value) (T1 T2 T3 T4 T5:TypeId):∃W,W=((((w.alloc (.cells c1.toArray T1)).alloc (.cells c2.toArray T2)).alloc (.cells c3.toArray T3)).alloc (.cells c4.toArray T4)).alloc (.cells c5.toArray T5)∧Below w.heap.size w W ∧
  Row W w.heap.size T1 c1∧Row W (w.heap.size+1) T2 c2∧Row W (w.heap.size+2) T3 c3∧Row W (w.heap.size+3) T4 c4∧Row W (w.heap.size+4) T5 c5∧W.heap.size=w.heap.size+5:=by
 obtain⟨b1,r1,z1⟩:=bf7 w c1 T1
 obtain⟨b2,r2,z2⟩:=bf7 (w.alloc (.cells c1.toArray T1)) c2 T2
 obtain⟨b3,r3,z3⟩:=bf7 ((w.alloc (.cells c1.toArray T1)).alloc (.cells c2.toArray T2)) c3 T3
 obtain⟨b4,r4,z4⟩:=bf7 (((w.alloc (.cells c1.toArray T1)).alloc (.cells c2.toArray T2)).alloc (.cells c3.toArray T3)) c4 T4
 obtain⟨b5,r5,z5⟩:=bf7 ((((w.alloc (.cells c1.toArray T1)).alloc (.cells c2.toArray T2)).alloc (.cells c3.toArray T3)).alloc (.cells c4.toArray T4)) c5 T5
 refine⟨_,rfl,ca7 (ca7 (ca7 (ca7 b1 b2) b3) b4) b5,(((r1.below b2).below b3).below b4).below b5, ?_, ?_, ?_, ?_,by omega⟩
 ·rw[z1]at r2;exact ((r2.below b3).below b4).below b5
 ·rw[show w.heap.size+2=((w.alloc (.cells c1.toArray T1)).alloc (.cells c2.toArray T2)).heap.size by omega];exact (r3.below b4).below b5
 ·rw[show w.heap.size+3=(((w.alloc (.cells c1.toArray T1)).alloc (.cells c2.toArray T2)).alloc (.cells c3.toArray T3)).heap.size by omega];exact r4.below b5
 ·rw[show w.heap.size+4=((((w.alloc (.cells c1.toArray T1)).alloc (.cells c2.toArray T2)).alloc (.cells c3.toArray T3)).alloc (.cells c4.toArray T4)).heap.size by omega];exact r5
theorem ob7.set {TR TI B:Nat}{w:World}{v:Value}{rows:List (List Int)}{g:Nat}{rs:List Nat}(h:ob7 w B TR TI v rows g rs) (hne:TR≠TI) {i j:Nat}(hi:i<rows.length) (hi':i<rs.length) (hj:j<rows[i].length) (u:Int) :
  ob7 (w.setCell ⟨rs[i],j,none⟩ (ib7 u)) B TR TI v (rows.set i (rows[i].set j u)) g rs:=by
 obtain⟨c,k0,k1,k2,k3,k4,k5,k6,k7,k8⟩:=h
 have hz:List.zipWith xib7 rs (rows.set i (rows[i].set j u))=List.zipWith xib7 rs rows:=by
  apply List.ext_getElem
  ·simp
  ·intro n h1 h2
   simp only[List.getElem_zipWith,List.getElem_set]
   split
   ·rename_i e;subst e;unfold xib7;simp
   ·rfl
 refine⟨c,by rw[k0];simp,by simpa using k1,k2,k3, ?_,by simpa using k5,fun n h1 h2=>?_,k7,k8⟩
 ·rw[hz]
  exact k4.setApart (k6 i hi' hi) hne _ _
 ·simp only[List.getElem_set]
  split
  ·rename_i e;subst e
   have:=(k6 i hi' hi).set (j:=j) (by rw[List.length_map];exact hj) (ib7 u)
   rwa [← List.map_set]at this
  ·rename_i e
   have hn:n<rows.length:=by simpa using h2
   refine (k6 n h1 hn).setOther (fun e2=>e ?_) _
   exact ((List.getElem_inj k7).1 e2).symm
theorem ob7.keepAll {w w':World}{B TR TI:Nat}{v:Value}{rows:List (List Int)}{g:Nat}{rs:List Nat}(h:ob7 w B TR TI v rows g rs) (h1:w'.heap[g]? = w.heap[g]?) (h2:∀b∈rs,w'.heap[b]? = w.heap[b]?):ob7 w' B TR TI v rows g rs:=by
 obtain⟨c,k0,k1,k2,k3,k4,k5,k6,k7,k8⟩:=h
 exact⟨c,k0,k1,k2,k3,k4.keep h1,k5,fun i h h'=>(k6 i h h').keep (h2 _ (List.getElem_mem h)),k7,k8⟩
theorem ob7.open {TR TI B:Nat}{w:World}{v:Value}{rows:List (List Int)}{g:Nat}{rs:List Nat}(h:ob7 w B TR TI v rows g rs):∃c,v = .slice (some ⟨g,0,none⟩) rows.length c∧rs.length=rows.length ∧
  (∀i (h:i<rows.length) (h':i<rs.length),w.cell? ⟨g,i,none⟩=some (.slice (some ⟨rs[i],0,none⟩) rows[i].length rows[i].length)) ∧
  (∀i (h:i<rows.length) (h':i<rs.length),Row w rs[i] TI (rows[i].map ib7)∧B≤rs[i]):=by
 obtain⟨c,k0,k1,k2,k3,k4,k5,k6,k7,k8⟩:=h
 refine⟨c,k0,k5,fun i h h'=>?_,fun i h h'=>⟨k6 i h' h,k8 _ (List.getElem_mem h')⟩⟩
 have:=k4.get (j:=i) (v:=xib7 rs[i] rows[i]) (by rw[List.getElem?_zipWith,List.getElem?_eq_getElem h',List.getElem?_eq_getElem h])
 exact this
def setAt (l:List (List Int)) (i j:Nat) (u:Int):List (List Int):=l.set i ((l.getD i []).set j u)
def ba7.putCost (x:ba7) (i j:Nat) (u:Int):ba7:={ x with cost:=setAt x.cost i j u }
def ba7.putTime (x:ba7) (i j:Nat) (u:Int):ba7:={ x with time:=setAt x.time i j u }
structure ke7 (TS TC TR TI:Nat) (w:World) (B:Nat) (x:ba7) (cs:List Value) (gs cs1 gc cc1 gco cco:Nat) (rco:List Nat) (gti cti:Nat) (rti:List Nat):Prop where
 lit:cs=[.int .i64 x.fin,.int .i64 x.tmany,.int .i64 x.troom,.int .i64 x.bmany,.int .i64 x.broom,.slice (some ⟨gs,0,none⟩) x.sats.length cs1,.slice (some ⟨gc,0,none⟩) x.custs.length cc1,.slice (some ⟨gco,0,none⟩) x.cost.length cco,.slice (some ⟨gti,0,none⟩) x.time.length cti]
 caps:x.sats.length≤cs1∧cs1≤maxLen∧x.custs.length≤cc1∧cc1≤maxLen
 leS:B≤gs
 leC:B≤gc
 sats:Row w gs TS (x.sats.flatMap pab7)
 custs:Row w gc TC (x.custs.flatMap co7)
 costs:ob7 w B TR TI (.slice (some ⟨gco,0,none⟩) x.cost.length cco) x.cost gco rco
 times:ob7 w B TR TI (.slice (some ⟨gti,0,none⟩) x.time.length cti) x.time gti rti
 apart:gco≠gti
 apart2:∀a∈rco,∀b∈rti,a≠b
section
variable {TS TC TR TI B gs cs1 gc cc1 gco cco gti cti:Nat} {w:World} {x:ba7} {cs:List Value} {rco rti:List Nat}
theorem nd7.at (h:nd7 TS TC TR TI w B x cs):∃gs cs1 gc cc1 gco cco rco gti cti rti,ke7 TS TC TR TI w B x cs gs cs1 gc cc1 gco cco rco gti cti rti:=by
 obtain⟨gs,cs1,gc,cc1,vco,vti,gco,rco,gti,rti,k0,k1,k2,k3,k4,k5,k6,k7,k8,k9⟩:=h
 obtain⟨c,hv,-⟩:=k6.open
 obtain⟨c',hv',-⟩:=k7.open
 subst hv;subst hv'
 exact⟨gs,cs1,gc,cc1,gco,c,rco,gti,c',rti,k0,k1,k2,k3,k4,k5,k6,k7,k8,k9⟩
theorem ke7.own (h:ke7 TS TC TR TI w B x cs gs cs1 gc cc1 gco cco rco gti cti rti):nd7 TS TC TR TI w B x cs :=
 ⟨gs,cs1,gc,cc1,_,_,gco,rco,gti,rti,h.lit,h.caps,h.leS,h.leC,h.sats,h.custs,h.costs,h.times,h.apart,h.apart2⟩
theorem ke7.drew (h:ke7 TS TC TR TI w B x cs gs cs1 gc cc1 gco cco rco gti cti rti):ke7 TS TC TR TI w.drew B x cs gs cs1 gc cc1 gco cco rco gti cti rti:=⟨h.lit,h.caps,h.leS,h.leC,h.sats.drew,h.custs.drew,h.costs.keepAll rfl fun _ _=>rfl,h.times.keepAll rfl fun _ _=>rfl,h.apart,h.apart2⟩
theorem ke7.below {w':World}(h:ke7 TS TC TR TI w B x cs gs cs1 gc cc1 gco cco rco gti cti rti) (hb:Below w.heap.size w w'):ke7 TS TC TR TI w' B x cs gs cs1 gc cc1 gco cco rco gti cti rti :=
 ⟨h.lit,h.caps,h.leS,h.leC,h.sats.below hb,h.custs.below hb,h.costs.below hb,h.times.below hb,h.apart,h.apart2⟩
theorem ob7.row {TR TI B:Nat}{w:World}{v:Value}{rows:List (List Int)}{g:Nat}{rs:List Nat}(h:ob7 w B TR TI v rows g rs) {i:Nat}(hi:i<rows.length) :
  w.cell? ⟨g,i,none⟩=some (.slice (some ⟨rs.getD i 0,0,none⟩) (rows.getD i []).length (rows.getD i []).length)∧Row w (rs.getD i 0) TI ((rows.getD i []).map ib7)∧B≤rs.getD i 0∧rs.getD i 0∈rs:=by
 obtain⟨c,hv,hrl,hg,hr⟩:=h.open
 have hi':i<rs.length:=by omega
 have e1:rows.getD i []=rows[i]:=by rw[List.getD_eq_getElem?_getD,List.getElem?_eq_getElem hi];rfl
 have e2:rs.getD i 0=rs[i]:=by rw[List.getD_eq_getElem?_getD,List.getElem?_eq_getElem hi'];rfl
 rw[e1,e2]
 exact⟨hg i hi hi',(hr i hi hi').1,(hr i hi hi').2,List.getElem_mem _⟩
theorem ob7.apart {TR TI B:Nat}{w:World}{v:Value}{rows:List (List Int)}{g:Nat}{rs:List Nat}(h:ob7 w B TR TI v rows g rs) {i i':Nat}(hi:i<rows.length) (hi':i'<rows.length) (hne:i≠i'):rs.getD i 0≠rs.getD i' 0:=by
 obtain⟨c,k0,k1,k2,k3,k4,k5,k6,k7,k8⟩:=h
 rw[List.getD_eq_getElem?_getD,List.getD_eq_getElem?_getD,List.getElem?_eq_getElem (by omega),List.getElem?_eq_getElem (by omega)]
 intro e
 exact hne ((List.getElem_inj k7).1 e)
theorem ob7.setAt {TR TI B:Nat}{w:World}{v:Value}{rows:List (List Int)}{g:Nat}{rs:List Nat}(h:ob7 w B TR TI v rows g rs) (hne:TR≠TI) {i j:Nat}(hi:i<rows.length) (hj:j<(rows.getD i []).length) (u:Int) :
  ob7 (w.setCell ⟨rs.getD i 0,j,none⟩ (ib7 u)) B TR TI v (setAt rows i j u) g rs:=by
 have hrl:rs.length=rows.length:=by obtain⟨c,k0,k1,k2,k3,k4,k5,k6,k7,k8⟩:=h;exact k5
 have hi':i<rs.length:=by omega
 have e1:rows.getD i []=rows[i]:=by rw[List.getD_eq_getElem?_getD,List.getElem?_eq_getElem hi];rfl
 have e2:rs.getD i 0=rs[i]:=by rw[List.getD_eq_getElem?_getD,List.getElem?_eq_getElem hi'];rfl
 unfold Go.Proofs.YtabadfkikdefeaaGreat.setAt
 rw[e1]at hj ⊢
 rw[e2]
 exact h.set hne hi hi' hj u
theorem hr7 (l:List (List Int)) (i j:Nat) (u:Int):(setAt l i j u).length=l.length:=by unfold setAt;simp
theorem ke7.setCost (h:ke7 TS TC TR TI w B x cs gs cs1 gc cc1 gco cco rco gti cti rti) (n1:TS≠TI) (n2:TC≠TI) (n3:TR≠TI) {i j:Nat}(hi:i<x.cost.length) (hj:j<(x.cost.getD i []).length) (u:Int) :
  ke7 TS TC TR TI (w.setCell ⟨rco.getD i 0,j,none⟩ (ib7 u)) B (x.putCost i j u) cs gs cs1 gc cc1 gco cco rco gti cti rti:=by
 obtain⟨h1,h2,h3,h4⟩:=h.costs.row hi
 have hrt:Row w gti TR (List.zipWith xib7 rti x.time):=by obtain⟨_,_,_,_,_,kr,_⟩:=h.times;exact kr
 refine⟨by rw[h.lit];simp only[ba7.putCost,hr7],h.caps,h.leS,h.leC,h.sats.setApart h2 n1 _ _,h.custs.setApart h2 n2 _ _, ?_, ?_,h.apart,h.apart2⟩
 ·have:=h.costs.setAt n3 hi hj u
  show ob7 _ B TR TI (.slice _ (setAt x.cost i j u).length _) (setAt x.cost i j u) gco rco
  rw[hr7];exact this
 ·exact h.times.keepAll (Below.heap_setCell _ _ _ _ (hrt.ne h2 n3)) fun b hb=>Below.heap_setCell _ _ _ _ fun e=>h.apart2 _ h4 b hb e.symm
theorem ke7.setTime (h:ke7 TS TC TR TI w B x cs gs cs1 gc cc1 gco cco rco gti cti rti) (n1:TS≠TI) (n2:TC≠TI) (n3:TR≠TI) {i j:Nat}(hi:i<x.time.length) (hj:j<(x.time.getD i []).length) (u:Int) :
  ke7 TS TC TR TI (w.setCell ⟨rti.getD i 0,j,none⟩ (ib7 u)) B (x.putTime i j u) cs gs cs1 gc cc1 gco cco rco gti cti rti:=by
 obtain⟨h1,h2,h3,h4⟩:=h.times.row hi
 have hrt:Row w gco TR (List.zipWith xib7 rco x.cost):=by obtain⟨_,_,_,_,_,kr,_⟩:=h.costs;exact kr
 refine⟨by rw[h.lit];simp only[ba7.putTime,hr7],h.caps,h.leS,h.leC,h.sats.setApart h2 n1 _ _,h.custs.setApart h2 n2 _ _, ?_, ?_,h.apart,h.apart2⟩
 ·exact h.costs.keepAll (Below.heap_setCell _ _ _ _ (hrt.ne h2 n3)) fun a ha=>Below.heap_setCell _ _ _ _ fun e=>h.apart2 a ha _ h4 e
 ·have:=h.times.setAt n3 hi hj u
  show ob7 _ B TR TI (.slice _ (setAt x.time i j u).length _) (setAt x.time i j u) gti rti
  rw[hr7];exact this
end
def sb7 (row:Option Nat) (W w':World):Prop:=W.heap.size≤w'.heap.size∧∀b,b<W.heap.size→some b≠row→w'.heap[b]? = W.heap[b]?
instance (row:Option Nat) (W:World):Nonempty (At (sb7 row W)):=⟨⟨W,Nat.le_refl _,fun _ _ _=>rfl⟩⟩
theorem sb7.cell {row:Option Nat}{W w':World}(h:sb7 row W w') {a:Addr}{v:Value}(hc:W.cell? a=some v) (hne:some a.block≠row):w'.cell? a=some v:=by
 rw[World.cell?_of_block (h.2 _ (mhb7 hc) hne)];exact hc
theorem sb7.refl (row:Option Nat) (W:World):sb7 row W W:=⟨Nat.le_refl _,fun _ _ _=>rfl⟩
theorem sb7.drew {row:Option Nat}{W w':World}(h:sb7 row W w'):sb7 row W w'.drew:=h
theorem sb7.below {row:Option Nat}{W w1 w2:World}(h:sb7 row W w1) (hb:Below w1.heap.size w1 w2):sb7 row W w2:=⟨Nat.le_trans h.1 hb.size,fun b hb' hne=>(hb.block b (Nat.lt_of_lt_of_le hb' h.1)).trans (h.2 b hb' hne)⟩
theorem sb7.grown {row:Option Nat}{W w1 w2:World}(h:sb7 row W w1) (hg:w1.grownBy w2 row):sb7 row W w2:=⟨Nat.le_trans h.1 hg.size,fun b hb' hne=>(hg.block b (Nat.lt_of_lt_of_le hb' h.1) hne).trans (h.2 b hb' hne)⟩
theorem vmb7 {w:World}{B T n k b:Nat}{v:Value}{xs:List Value}(h:w.ownsRow B T k v n xs) (hb:b<B):some b≠v.ownBlock:=fun e=>by have:=(h.lt b e.symm).1;omega
theorem ec7 {w:World}{B T n k g:Nat}{v:Value}{xs:List Value}{e:TypeId}{cs:List Value}(h:w.ownsRow B T k v n xs) (hr:Row w g e cs) (he:e≠T):some g≠v.ownBlock:=fun e'=>by obtain⟨cs',hc'⟩:=eg7 h e'.symm;exact hr.ne hc' he rfl
theorem pg7 (w:World) (a:Addr) (u:Value):w.grownBy (w.setCell a u) (some a.block):=⟨rfl,rfl,rfl,by simp[World.setCell],fun k _ hk=>Below.heap_setCell _ _ _ _ (fun e=>hk (by rw[e]))⟩
theorem la7 {w:World}{B T n k g:Nat}{v:Value}{xs:List Value}{e:TypeId}{cs:List Value}(h:w.ownsRow B T k v n xs) (hr:Row w g e cs) (he:e≠T) (j:Nat) (u:Value):(w.setCell ⟨g,j,none⟩ u).ownsRow B T k v n xs :=
 h.kept (pg7 w ⟨g,j,none⟩ u) (.inr fun e'=>ec7 h hr he e'.symm)
theorem Row.makeF {w:World}{n:Nat}{e:TypeId}:Row (w.alloc (.cells (Array.replicate n (qkc7 0)) e)) w.heap.size e ((List.replicate n 0).map qkc7):=by
 have:=Row.new (w:=w) (e:=e) (cs:=(List.replicate n 0).map qkc7) rfl
 simpa using this
theorem fh7 {α:Type}(S:Shape α) {h0:0<S.sz}(w:World) (F:Nat→Prop):(ia7 S h0).rep w F [] [.slice none 0 0] :=
 ⟨none,0,0,0,rfl,Nat.le_refl _,Nat.zero_le _,fun h=>absurd h (Nat.not_lt_zero _),fun i h=>absurd h (Nat.not_lt_zero _)⟩
abbrev sa7:=Int×Int
def zm7 (l:List sa7) (i j:Nat) (a b:sa7):List sa7:=(l.set i b).set j a
def yd7 (a b:sa7):Bool:=if a.1=b.1 then decide (a.2<b.2) else decide (a.1<b.1)
def leI (a b:sa7):Prop:=a.1<b.1∨a.1=b.1∧a.2≤b.2
theorem ecb7 (a:sa7):leI a a:=by unfold leI;omega
theorem rq7 {a b c:sa7}(h:leI a b) (k:leI b c):leI a c:=by unfold leI at *; omega
theorem wq7 {a b:sa7}(h:yd7 a b=true):leI a b:=by
 unfold yd7 at h
 unfold leI
 split at h
 ·have:=of_decide_eq_true h;omega
 ·have:=of_decide_eq_true h;omega
theorem es7 {a b:sa7}(h:yd7 a b=false):leI b a:=by
 unfold yd7 at h
 unfold leI
 split at h
 ·have:=of_decide_eq_false h;omega
 ·have:=of_decide_eq_false h;omega
def hj7 (l:List sa7) (i:Nat):sa7:=l.getD i (0,0)
theorem ed7 {l:List sa7}{i:Nat}(h:i<l.length):hj7 l i=l[i]:=by
 unfold hj7
 rw[List.getD_eq_getElem?_getD,List.getElem?_eq_getElem h]
 rfl
def swI (l:List sa7) (i j:Nat):List sa7:=zm7 l i j (hj7 l i) (hj7 l j)
theorem tl7 (l:List sa7) (i j:Nat):(swI l i j).length=l.length:=by unfold swI zm7;simp
theorem ik7 {l:List sa7}{i j:Nat}(hi:i<l.length) (hj:j<l.length) (x:Nat):hj7 (swI l i j) x=if x=j then hj7 l i else if x=i then hj7 l j else hj7 l x:=by
 unfold swI zm7
 by_cases h1:x=j
 ·subst h1
  rw[if_pos rfl,ed7 (by simpa using hj)]
  simp
 ·rw[if_neg h1]
  by_cases h2:x=i
  ·subst h2
   rw[if_pos rfl,ed7 (by simpa using hi)]
   rw[List.getElem_set_ne (fun e=>h1 e.symm)]
   simp
  ·rw[if_neg h2]
   unfold hj7
   simp[List.getD_eq_getElem?_getD,List.getElem?_set,h1,h2,Ne.symm h1,Ne.symm h2]
inductive UpR:List sa7→Nat→List sa7→Prop
 | zero (l:List sa7):UpR l 0 l
 | stop {l:List sa7} {i:Nat} (h:yd7 (hj7 l i) (hj7 l ((i-1) / 2))=false):UpR l i l
 | swap {l l':List sa7} {i:Nat} (h0:0<i) (h:yd7 (hj7 l i) (hj7 l ((i-1) / 2))=true) (hr:UpR (swI l ((i-1) / 2) i) ((i-1) / 2) l'):UpR l i l'
def phc7 (n:Nat) (l:List sa7):Prop:=∀c,1≤c→c<n→leI (hj7 l ((c-1) / 2)) (hj7 l c)
def do7 (l:List sa7):Prop:=phc7 l.length l
def sec7 (l:List sa7) (i:Nat):Prop:=(∀c,1≤c→c<l.length→c≠i→leI (hj7 l ((c-1) / 2)) (hj7 l c))∧∀c,1≤c→c<l.length→(c-1) / 2=i→1≤i→leI (hj7 l ((i-1) / 2)) (hj7 l c)
theorem adc7 {l l':List sa7}{i:Nat}(h:UpR l i l'):i<l.length→sec7 l i→do7 l':=by
 induction h with
 | zero l=>exact fun _ hp c h1 h2=>hp.1 c h1 h2 (by omega)
 | @stop l i h =>
  intro hi hp c h1 h2
  by_cases e:c=i
  ·subst e;exact es7 h
  ·exact hp.1 c h1 h2 e
 | @swap l l' i h0 h hr ih =>
  intro hi hp
  have hk:(i-1) / 2<l.length:=by omega
  refine ih (by rw[tl7];exact hk) ⟨fun c h1 h2 hne=>?_,fun c h1 h2 h3 h4=>?_⟩
  ·rw[tl7]at h2
   rw[ik7 hk hi,ik7 hk hi]
   by_cases ec:c=i
   ·subst ec
    rw[if_neg (by omega),if_pos rfl,if_pos rfl]
    exact wq7 h
   ·rw[if_neg ec,if_neg hne]
    by_cases e1:(c-1) / 2=i
    ·rw[if_pos e1]
     exact hp.2 c h1 h2 e1 h0
    ·rw[if_neg e1]
     by_cases e2:(c-1) / 2=(i-1) / 2
     ·rw[if_pos e2]
      have:=hp.1 c h1 h2 ec
      rw[e2]at this
      exact rq7 (wq7 h) this
     ·rw[if_neg e2]
      exact hp.1 c h1 h2 ec
  ·rw[tl7]at h2
   rw[ik7 hk hi,ik7 hk hi]
   rw[if_neg (by omega),if_neg (by omega)]
   have hkk:=hp.1 ((i-1) / 2) h4 hk (by omega)
   by_cases ec:c=i
   ·subst ec
    rw[if_pos rfl]
    exact hkk
   ·rw[if_neg ec,if_neg (by omega)]
    have:=hp.1 c h1 h2 ec
    rw[h3]at this
    exact rq7 hkk this
def kid (n:Nat) (l:List sa7) (i:Nat):Nat:=if 2*i+2<n∧yd7 (hj7 l (2*i+2)) (hj7 l (2*i+1))=true then 2*i+2 else 2*i+1
inductive sr7 (n:Nat):List sa7→Nat→List sa7→Prop
 | stop {l:List sa7} {i:Nat} (h:n≤2*i+1):sr7 n l i l
 | keep {l:List sa7} {i:Nat} (h0:2*i+1<n) (h:yd7 (hj7 l (kid n l i)) (hj7 l i)=false):sr7 n l i l
 | swap {l l':List sa7} {i:Nat} (h0:2*i+1<n) (h:yd7 (hj7 l (kid n l i)) (hj7 l i)=true) (hr:sr7 n (swI l i (kid n l i)) (kid n l i) l'):sr7 n l i l'
def oqb7 (n:Nat) (l:List sa7) (i:Nat):Prop:=(∀c,1≤c→c<n→(c-1) / 2≠i→leI (hj7 l ((c-1) / 2)) (hj7 l c))∧∀c,1≤c→c<n→(c-1) / 2=i→1≤i→leI (hj7 l ((i-1) / 2)) (hj7 l c)
theorem fzb7 {n:Nat}{l:List sa7}{i:Nat}(h:2*i+1<n):kid n l i<n∧(kid n l i=2*i+1∨kid n l i=2*i+2)∧∀c,1≤c→c<n→(c-1) / 2=i→leI (hj7 l (kid n l i)) (hj7 l c):=by
 unfold kid
 split
 ·rename_i hh
  refine⟨hh.1,.inr rfl,fun c h1 h2 h3=>?_⟩
  rcases (show c=2*i+1∨c=2*i+2 by omega) with rfl | rfl
  ·exact wq7 hh.2
  ·exact ecb7 _
 ·rename_i hh
  refine⟨h,.inl rfl,fun c h1 h2 h3=>?_⟩
  rcases (show c=2*i+1∨c=2*i+2 by omega) with rfl | rfl
  ·exact ecb7 _
  ·refine es7 ?_
   cases e:yd7 (hj7 l (2*i+2)) (hj7 l (2*i+1)) with
   | false=>rfl
   | true=>exact absurd ⟨h2,e⟩ hh
theorem kpb7 {n:Nat}{l l':List sa7}{i:Nat}(h:sr7 n l i l'):n≤l.length→i<l.length→(oqb7 n l i→phc7 n l')∧l'.length=l.length∧∀x,n≤x→i<n∨x≠i→hj7 l' x=hj7 l x:=by
 induction h with
 | @stop l i h =>
  exact fun _ _=>⟨fun hp c h1 h2=>hp.1 c h1 h2 (by omega),rfl,fun _ _ _=>rfl⟩
 | @keep l i h0 h =>
  refine fun _ _=>⟨fun hp c h1 h2=>?_,rfl,fun _ _ _=>rfl⟩
  by_cases e:(c-1) / 2=i
  ·rw[e];exact rq7 (es7 h) ((fzb7 h0).2.2 c h1 h2 e)
  ·exact hp.1 c h1 h2 e
 | @swap l l' i h0 h hr ih =>
  intro hn hi
  obtain⟨k1,k2,k3⟩:=fzb7 (l:=l) h0
  generalize kid n l i=j at *
  have hj:j<l.length:=by omega
  obtain⟨i1,i2,i3⟩:=ih (by rw[tl7];exact hn) (by rw[tl7];exact hj)
  refine⟨fun hp=>i1 ⟨fun c h1 h2 hne=>?_,fun c h1 h2 h3 h4=>?_⟩,by rw[i2,tl7],fun x hx hxi=>?_⟩
  ·rw[ik7 hi hj,ik7 hi hj,if_neg hne]
   by_cases e1:(c-1) / 2=i
   ·rw[if_pos e1]
    by_cases e2:c=j
    ·rw[if_pos e2];exact wq7 h
    ·rw[if_neg e2,if_neg (by omega)];exact k3 c h1 h2 e1
   ·rw[if_neg e1]
    by_cases e2:c=j
    ·omega
    ·rw[if_neg e2]
     by_cases e3:c=i
     ·rw[if_pos e3]
      subst e3
      exact hp.2 j (by omega) k1 (by omega) h1
     ·rw[if_neg e3];exact hp.1 c h1 h2 e1
  ·rw[ik7 hi hj,ik7 hi hj]
   have e1:(j-1) / 2=i:=by omega
   rw[e1,if_neg (by omega),if_pos rfl,if_neg (by omega),if_neg (by omega)]
   have:=hp.1 c h1 h2 (by omega)
   rw[h3]at this
   exact this
  ·rw[i3 x hx (.inl k1),ik7 hi hj,if_neg (by omega)]
   by_cases e:x=i
   ·omega
   ·rw[if_neg e]
theorem dsb7 {l:List sa7}(h:do7 l):∀c,c<l.length→leI (hj7 l 0) (hj7 l c):=by
 intro c
 induction c using Nat.strongRecOn with
 | _ c ih =>
  intro hc
  by_cases h0:c=0
  ·subst h0;exact ecb7 _
  ·exact rq7 (ih ((c-1) / 2) (by omega) (by omega)) (h c (by omega) hc)
theorem cl7 {l:List sa7}{s:sa7}{c:Nat}(h:c<l.length):hj7 (l++[s]) c=hj7 l c:=by
 unfold hj7
 simp[List.getD_eq_getElem?_getD,List.getElem?_append_left h]
theorem zwb7 {l:List sa7}{s:sa7}(h:do7 l):sec7 (l++[s]) l.length:=by
 refine⟨fun c h1 h2 h3=>?_,fun c h1 h2 h3 h4=>?_⟩
 ·simp at h2
  rw[cl7 (by omega),cl7 (by omega)]
  exact h c h1 (by omega)
 ·simp at h2;omega
theorem lbc7 {l:List sa7}(h:do7 l) (h0:0<l.length):oqb7 (l.length-1) (swI l 0 (l.length-1)) 0:=by
 refine⟨fun c h1 h2 h3=>?_,fun c h1 h2 h3 h4=>by omega⟩
 rw[ik7 h0 (by omega),ik7 h0 (by omega),if_neg (by omega),if_neg h3,if_neg (by omega),if_neg (by omega)]
 exact h c h1 (by omega)
theorem gxb7 {l l3 l4:List sa7}{s:sa7}(hd:sr7 (l.length-1) (swI l 0 (l.length-1)) 0 l3) (h0:0<l.length) (he:l3=l4++[s]) (h:do7 l):do7 l4∧∀t∈l,leI s t:=by
 obtain⟨d1,d2,d3⟩:=kpb7 hd (by rw[tl7];omega) (by rw[tl7];exact h0)
 have hl:l4.length=l.length-1:=by rw[he,tl7]at d2;simp at d2;omega
 have hs:s=hj7 l 0:=by
  by_cases e:l.length=1
  ·have h3:l3=swI l 0 (l.length-1):=by
    cases hd with
    | stop=>rfl
    | keep h=>omega
    | swap h=>omega
   have h4:hj7 l3 0=s:=by
    have:l4=[]:=List.eq_nil_of_length_eq_zero (by omega)
    rw[he,this];rfl
   rw[← h4,h3,ik7 h0 (by omega),if_pos (by omega)]
  ·have h4:hj7 l3 (l.length-1)=s:=by
    rw[he,← hl]
    unfold hj7
    simp[List.getD_eq_getElem?_getD]
   rw[← h4,d3 _ (Nat.le_refl _) (.inl (by omega)),ik7 h0 (by omega),if_pos rfl]
 refine⟨fun c h1 h2=>?_,fun t ht=>?_⟩
 ·have:=d1 (lbc7 h h0) c h1 (by omega)
  rwa [he,cl7 (by omega),cl7 (by omega)]at this
 ·obtain⟨c,hc,rfl⟩:=List.getElem_of_mem ht
  rw[hs,← ed7 hc]
  exact dsb7 h c hc
theorem vhb7 {l:List sa7}{i j:Nat}(hi:i<l.length) (hj:j<l.length):zm7 l i j l[i] l[j]=swI l i j:=by unfold swI;rw[ed7 hi,ed7 hj]
theorem icc7 {l:List sa7}{i k:Nat}(hk:k=(i-1) / 2) (hi:i<l.length) (hkl:k<l.length) (h:yd7 l[i] l[k]=false):UpR l i l:=.stop (by subst hk;rw[ed7 hi,ed7 hkl];exact h)
theorem fdc7 {l l':List sa7}{i k:Nat}(h0:0<i) (hk:k=(i-1) / 2) (hi:i<l.length) (hkl:k<l.length) (h:yd7 l[i] l[k]=true) (hr:UpR (zm7 l k i l[k] l[i]) k l'):UpR l i l':=by
 subst hk
 rw[vhb7 hkl hi]at hr
 exact .swap h0 (by rw[ed7 hi,ed7 hkl];exact h) hr
theorem vcc7 {n:Nat}{l:List sa7}{i j1 j2:Nat}(e1:j1=2*i+1) (e2:j2=j1+1) (h1:j1<l.length) (h2:j2<l.length) (hn:j2<n) (h:yd7 l[j2] l[j1]=true):kid n l i=j2:=by
 subst e2;subst e1
 unfold kid
 rw[if_pos ⟨hn,by rw[ed7 h2,ed7 h1];exact h⟩]
theorem vob7 {n:Nat}{l:List sa7}{i j1 j2:Nat}(e1:j1=2*i+1) (e2:j2=j1+1) (h1:j1<l.length) (h:j2<n→∃h2:j2<l.length,yd7 l[j2] l[j1]=false):kid n l i=j1:=by
 subst e2;subst e1
 unfold kid
 rw[if_neg]
 rintro⟨a,b⟩
 obtain⟨h2,h3⟩:=h a
 rw[ed7 h2,ed7 h1]at b
 rw[b]at h3;cases h3
theorem pu7 {n:Nat}{l:List sa7}{i j:Nat}(hj:kid n l i=j) (h0:2*i+1<n) (hi:i<l.length) (hjl:j<l.length) (h:yd7 l[j] l[i]=false):sr7 n l i l:=.keep h0 (by rw[hj,ed7 hi,ed7 hjl];exact h)
theorem nx7 {n:Nat}{l l':List sa7}{i j:Nat}(hj:kid n l i=j) (h0:2*i+1<n) (hi:i<l.length) (hjl:j<l.length) (h:yd7 l[j] l[i]=true) (hr:sr7 n (zm7 l i j l[i] l[j]) j l'):sr7 n l i l':=by
 rw[vhb7 hi hjl]at hr
 exact .swap h0 (by rw[hj,ed7 hi,ed7 hjl];exact h) (by rw[hj];exact hr)
structure ay7 where
 frm:Nat
 dst:Nat
 wt:Int
 deriving DecidableEq
structure db7 where
 n:Nat
 arcs:List ay7
 deriving DecidableEq
def ua7 (g:db7) (k:Nat):ay7:=g.arcs.getD k ⟨0,0,0⟩
def sg7 (g:db7) (i k:Nat):List Nat:=(List.range k).filter fun j=>(ua7 g j).frm==i
structure GIn (g:db7):Prop where
 n:g.n≤1000
 len:g.arcs.length≤20000
 arc:∀a∈g.arcs,a.frm<g.n∧a.dst<g.n∧0≤a.wt∧a.wt≤1099511627776
theorem GIn.at {g:db7}(h:GIn g) {k:Nat}(hk:k<g.arcs.length):(ua7 g k).frm<g.n∧(ua7 g k).dst<g.n∧0≤(ua7 g k).wt∧(ua7 g k).wt≤1099511627776:=by
 unfold ua7
 rw[List.getD_eq_getElem?_getD,List.getElem?_eq_getElem hk]
 exact h.arc _ (List.getElem_mem hk)
def farI:Int:=1152921504606846976
def fAt (l:List Int) (i:Nat):Int:=l.getD i 0
theorem ucc7 {l:List Int}{i:Nat}(hi:i<l.length) (v:Int) (x:Nat):fAt (l.set i v) x=if x=i then v else fAt l x:=by
 unfold fAt
 by_cases h:x=i
 ·subst h;simp[List.getD_eq_getElem?_getD,hi]
 ·simp[List.getD_eq_getElem?_getD,h,Ne.symm h]
inductive xgc7 (g:db7) (src:Nat):Nat→Int→Prop
 | here:xgc7 g src src 0
 | step {i k:Nat} {c:Int} (h:xgc7 g src i c) (hk:k<g.arcs.length) (hf:(ua7 g k).frm=i):xgc7 g src (ua7 g k).dst (c+(ua7 g k).wt)
structure Dij (g:db7) (src:Nat) (far:List Int) (D:List Bool) (its:List sa7) (x:Nat) (key:Int) (rest:List Nat):Prop where
 len:far.length=g.n
 dlen:D.length=g.n
 srcn:src<g.n
 src0:fAt far src=0
 bnd:∀i,i<g.n→0≤fAt far i∧fAt far i≤farI
 ach:∀i,i<g.n→fAt far i<farI→xgc7 g src i (fAt far i)
 items:∀t∈its,∃i,i<g.n∧t.2=(i:Int)∧fAt far i≤t.1∧t.1<farI
 opn:∀i,i<g.n→D.getD i false=false→fAt far i<farI→(fAt far i,(i:Int))∈its
 key0:0≤key
 low:∀i,i<g.n→D.getD i false=true→fAt far i≤key∧fAt far i<farI
 keyle:∀t∈its,key≤t.1
 rel:∀k,k<g.arcs.length→D.getD (ua7 g k).frm false=true→k∈rest∨fAt far (ua7 g k).dst≤fAt far (ua7 g k).frm+(ua7 g k).wt
 rst:∀k∈rest,k<g.arcs.length∧(ua7 g k).frm=x
 cur:rest≠[]→x<g.n∧D.getD x false=true∧fAt far x=key
theorem Dij.start {g:db7}{src:Nat}(h:src<g.n):Dij g src ((List.replicate g.n farI).set src 0) (List.replicate g.n false) [(0,(src:Int))] 0 0 []:=by
 have hf:∀i,i<g.n→fAt ((List.replicate g.n farI).set src 0) i=if i=src then 0 else farI:=fun i hi=>by
  rw[ucc7 (by simpa using h)]
  split
  ·rfl
  ·simp[fAt,List.getD_eq_getElem?_getD,List.getElem?_replicate,hi]
 have hd:∀i,(List.replicate g.n false).getD i false=false:=fun i=>by
  simp only[List.getD_eq_getElem?_getD,List.getElem?_replicate]
  split <;> rfl
 refine⟨by simp,by simp,h,by rw[hf _ h,if_pos rfl],fun i hi=>?_,fun i hi hlt=>?_,fun t ht=>?_,fun i hi _ hlt=>?_,Int.le_refl _,fun i _ hD=>?_,fun t ht=>?_,fun k _ hD=>?_,fun k hk=>by simp at hk,fun h=>absurd rfl h⟩
 ·rw[hf i hi];unfold farI;split <;> omega
 ·rw[hf i hi]at hlt ⊢
  split at hlt
  ·rename_i e;subst e;rw[if_pos rfl];exact .here
  ·exact absurd hlt (by omega)
 ·obtain rfl:=List.mem_singleton.1 ht
  exact⟨src,h,rfl,by rw[hf _ h,if_pos rfl];exact Int.le_refl _,by show (0:Int)<farI;unfold farI;decide⟩
 ·rw[hf i hi]at hlt ⊢
  split at hlt
  ·rename_i e;subst e;rw[if_pos rfl];exact List.mem_singleton.2 rfl
  ·exact absurd hlt (by omega)
 ·rw[hd]at hD;cases hD
 ·obtain rfl:=List.mem_singleton.1 ht;exact Int.le_refl _
 ·rw[hd]at hD;cases hD
theorem Dij.perm {g:db7}{src:Nat}{far:List Int}{D:List Bool}{its its':List sa7}{x:Nat}{key:Int}{rest:List Nat}(h:Dij g src far D its x key rest) (hp:its'.Perm its):Dij g src far D its' x key rest :=
 ⟨h.len,h.dlen,h.srcn,h.src0,h.bnd,h.ach,fun t ht=>h.items t (hp.subset ht),fun i hi h1 h2=>hp.symm.subset (h.opn i hi h1 h2),h.key0,h.low,fun t ht=>h.keyle t (hp.subset ht),h.rel,h.rst,h.cur⟩
theorem Dij.skip {g:db7}{src:Nat}{far:List Int}{D:List Bool}{its its':List sa7}{t:sa7}{x:Nat}{key:Int}(h:Dij g src far D its x key []) (hp:(t::its').Perm its) {i:Nat}(hi:t.2=(i:Int)) (hD:D.getD i false=true):Dij g src far D its' x key []:=by
 refine⟨h.len,h.dlen,h.srcn,h.src0,h.bnd,h.ach,fun s hs=>h.items s (hp.subset (List.mem_cons_of_mem _ hs)),fun j hj h1 h2=>?_,h.key0,h.low,fun s hs=>h.keyle s (hp.subset (List.mem_cons_of_mem _ hs)),h.rel,h.rst,h.cur⟩
 have:=hp.symm.subset (h.opn j hj h1 h2)
 rcases List.mem_cons.1 this with e | e
 ·rw[← e]at hi
  have:j=i:=by have:(j:Int)=(i:Int):=hi;exact_mod_cast this
  rw[this,hD]at h1;cases h1
 ·exact e
theorem Dij.take {g:db7}{src:Nat}{far:List Int}{D:List Bool}{its its':List sa7}{t:sa7}{x:Nat}{key:Int}(h:Dij g src far D its x key []) (hp:(t::its').Perm its) (hm:∀s∈its,leI t s) {i:Nat}(hi:t.2=(i:Int)) (hn:i<g.n) (hD:D.getD i false=false) :
  Dij g src far (D.set i true) its' i t.1 (sg7 g i g.arcs.length)∧fAt far i=t.1:=by
 have htm:t∈its:=hp.subset (List.mem_cons_self ..)
 obtain⟨j,hj,hj2,hj3,hj4⟩:=h.items t htm
 obtain rfl:j=i:=by rw[hi]at hj2;exact_mod_cast hj2.symm
 have hle:=hm _ (h.opn j hj hD (by omega))
 have hk:fAt far j=t.1:=by unfold leI at hle;simp only at hle;omega
 have hkey:=h.keyle t htm
 have hset:∀a,(D.set j true).getD a false=if a=j then true else D.getD a false:=fun a=>by
  by_cases e:a=j
  ·subst e;simp[List.getD_eq_getElem?_getD,h.dlen,hn]
  ·simp[List.getD_eq_getElem?_getD,e,Ne.symm e]
 refine⟨⟨h.len,by simpa using h.dlen,h.srcn,h.src0,h.bnd,h.ach,fun s hs=>h.items s (hp.subset (List.mem_cons_of_mem _ hs)),fun a ha h1 h2=>?_,Int.le_trans h.key0 hkey,fun a ha h1=>?_,fun s hs=>?_,fun k hk2 h1=>?_,fun k hk2=>?_,fun _=>⟨hn,by rw[hset,if_pos rfl],hk⟩⟩,hk⟩
 ·rw[hset]at h1
  split at h1
  ·cases h1
  ·rename_i e
   have:=hp.symm.subset (h.opn a ha h1 h2)
   rcases List.mem_cons.1 this with e2 | e2
   ·rw[← e2]at hi
    exact absurd (by have:(a:Int)=(j:Int):=hi;exact_mod_cast this) e
   ·exact e2
 ·rw[hset]at h1
  split at h1
  ·rename_i e;subst e;omega
  ·have:=h.low a ha h1;omega
 ·have:=hm s (hp.subset (List.mem_cons_of_mem _ hs))
  unfold leI at this;omega
 ·rw[hset]at h1
  split at h1
  ·rename_i e
   exact .inl (List.mem_filter.2 ⟨List.mem_range.2 hk2,by simp[e]⟩)
  ·rcases h.rel k hk2 h1 with h2 | h2
   ·simp at h2
   ·exact .inr h2
 ·obtain⟨h1,h2⟩:=List.mem_filter.1 hk2
  exact⟨List.mem_range.1 h1,by simpa using h2⟩
structure uec7 (g:db7) (src:Nat) (far:List Int):Prop where
 len:far.length=g.n
 src0:fAt far src=0
 bnd:∀i,i<g.n→0≤fAt far i∧fAt far i≤farI
 ach:∀i,i<g.n→fAt far i<farI→xgc7 g src i (fAt far i)
 rel:∀k,k<g.arcs.length→fAt far (ua7 g k).frm<farI→fAt far (ua7 g k).dst≤fAt far (ua7 g k).frm+(ua7 g k).wt
theorem Dij.done {g:db7}(hg:GIn g) {src:Nat}{far:List Int}{D:List Bool}{x:Nat}{key:Int}(h:Dij g src far D [] x key []):uec7 g src far :=
 ⟨h.len,h.src0,h.bnd,h.ach,fun k hk hlt=>by
  have h1:=hg.at hk
  cases e:D.getD (ua7 g k).frm false with
  | false=>exact absurd (h.opn _ h1.1 e hlt) (by simp)
  | true =>
   rcases h.rel k hk e with h2 | h2
   ·simp at h2
   ·exact h2⟩
def gdc7 (s:ay7):List Value:=[.int .i64 s.frm,.int .i64 s.dst,.int .i64 s.wt]
def mvb7:Shape ay7:=xc7 3 (fun x cs=>cs=gdc7 x) (by rintro x cs rfl;rfl)
def po7:Shape db7 where
 sz:=2
 rep:=fun w F x cs=>∃v,cs=[.int .i64 (x.n:Int),v]∧(ia7 mvb7).rep w F x.arcs [v]
 len:=by rintro w F x cs ⟨v,rfl,_⟩;rfl
 keep:=by rintro w w' F x cs ⟨v,rfl,h⟩ ha;exact⟨v,rfl,(ia7 mvb7).keep h ha⟩
 weak:=by rintro w F G x cs ⟨v,rfl,h⟩ ha;exact⟨v,rfl,(ia7 mvb7).weak h ha⟩
 lt:=by rintro w F x cs ⟨v,rfl,h⟩;exact⟨v,rfl,(ia7 mvb7).lt h⟩
theorem gr7 {w:World}{F:Nat→Prop}{xs:List ay7}{cs:List Value}(h:(ia7 mvb7).rep w F xs cs) :
  ∃(a:Option Addr) (b off c:Nat),cs=[.slice a xs.length c]∧xs.length≤c∧c≤9223372036854775807∧(0<xs.length→a=some ⟨b,off,none⟩)∧(0<xs.length→F b) ∧
   (∀k (h:k<xs.length),w.cell? ⟨b,off+k*3,none⟩=some (.int .i64 xs[k].frm)∧w.cell? ⟨b,off+k*3+1,none⟩=some (.int .i64 xs[k].dst)∧w.cell? ⟨b,off+k*3+2,none⟩=some (.int .i64 xs[k].wt)):=by
 obtain⟨a,b,off,c,rfl,h1,h2,h3,h4⟩:=h
 refine⟨a,b,off,c,rfl,h1,h2,fun h=>(h3 h).1,fun h=>(h3 h).2,fun k hk=>?_⟩
 obtain⟨es,rfl,hc⟩:=h4 k hk
 have e0:=hc 0 (by decide)
 have e1:=hc 1 (by decide)
 have e2:=hc 2 (by decide)
 exact⟨by simpa[mvb7,xc7,gdc7]using e0,by simpa[mvb7,xc7,gdc7]using e1,by simpa[mvb7,xc7,gdc7]using e2⟩
theorem fgb7:∀w,(sizeOf 260).run Tryz.prog w = .ok 3 w:=fun w=>by kernel_rfl
structure kfb7 (g:db7):Prop where
 n:g.n≤1000
 len:g.arcs.length≤20000
 arc:∀a∈g.arcs,a.frm<a.dst∧a.dst<g.n∧0≤a.wt∧a.wt≤1099511627776
theorem kfb7.in {g:db7}(h:kfb7 g):GIn g:=⟨h.n,h.len,fun a ha=>by have:=h.arc a ha;exact⟨by omega,this.2.1,this.2.2.1,this.2.2.2⟩⟩
theorem xec7 {w:World}{n:Nat}{v:Value}{i:Nat}(hi:i<n) :
  Calls Tryz.prog 211 #[.agg #[.int .i64 (n:Int),v],.int .i64 (i:Int)] w fun e w'=>e = .returned (.bool true)∧Below w.heap.size w w':=by
 have h1:(i:Int)<(n:Int):=by omega
 have h0:(0:Int)≤(i:Int):=by omega
 go_enter Tryz.func211,Tryz.ntmps211
 go_wp2
 go_ret
 exact⟨rfl,(Below.refl _ _).alloc (Nat.le_refl _) _⟩
theorem ws7 {w:World}{F:Nat→Prop}{g:db7}{cs:List Value}(h:po7.rep w F g cs) (hg:GIn g) :
  Calls Tryz.prog 187 #[.agg cs.toArray] w fun e w'=>e = .returned (.int .i64 0)∧Below w.heap.size w w':=by
 obtain⟨v,rfl,h⟩:=h
 obtain⟨a,b,off,c,hs,-,-,ha,-,hcell⟩:=gr7 h
 obtain rfl:=List.cons.inj hs |>.1
 have HCELL:=hid hcell
 have HG:=hid hg
 have hn:(g.n:Int)≤1000:=by have:=hg.n;omega
 have hl:(g.arcs.length:Int)≤20000:=by have:=hg.len;omega
 clear hs h hcell hg
 go_enter Tryz.func187,Tryz.ntmps187
 go_wp2
 go_loopw [22] (fun i wr=>∃k:Nat,k≤g.arcs.length∧i = .int .i64 k∧Below w.heap.size w wr∧Row wr w.heap.size 243 [.int .i64 (g.n:Int),.slice a g.arcs.length c]) (fun i _=>g.arcs.length-(intOf i).toNat)
 case atStart=>exact⟨0,Nat.zero_le _,rfl,(Below.refl _ _).alloc (Nat.le_refl _) _,Row.new rfl⟩
 case round =>
  obtain⟨k,hk,rfl,hb,R⟩:=hrel
  obtain⟨wq,rfl⟩:∃wq:World,wq=wr:=⟨_,rfl⟩
  by_cases hlt:k<g.arcs.length
  ·have hx:=vb7 (c:=c) Tryz.underlying241 fgb7 (ha (by omega)) hlt
   obtain⟨g0,g1,g2⟩:=HCELL.out k hlt
   have p0:=aa7 hb g0
   have p1:=aa7 hb g1
   have p2:=aa7 hb g2
   obtain⟨f1,f2,f3,f4⟩:=HG.out.arc _ (List.getElem_mem hlt)
   obtain⟨ar,har⟩:∃ar,ar=g.arcs[k]:=⟨_,rfl⟩
   rw[← har]at p0 p1 p2 f1 f2 f3 f4
   obtain⟨x1,x2,x3⟩:=ar
   simp only[]at p0 p1 p2 f1 f2 f3 f4
   have hal:Below wq.heap.size wq (wq.alloc (.cells #[.int .i64 (x1:Int),.int .i64 (x2:Int),.int .i64 x3] 260)):=(Below.refl _ _).alloc (Nat.le_refl _) _
   have RA:=Row.new (w:=wq) (g:=wq.heap.size) (e:=260) (cs:=[.int .i64 (x1:Int),.int .i64 (x2:Int),.int .i64 x3]) rfl
   have R1:=R.below hal
   have hb1:=ca7 hb hal
   clear har g0 g1 g2
   go_upto_region 6 with fail
   generalize wq.alloc (.cells #[.int .i64 (x1:Int),.int .i64 (x2:Int),.int .i64 x3] 260)=wa at *
   obtain⟨q0,q1⟩:=gf7 R1
   have a0:=RA.cell (j:=0) (by simp)
   have a1:=RA.cell (j:=1) (by simp)
   have a2:=RA.cell (j:=2) (by simp)
   simp only[List.getElem_cons_zero,List.getElem_cons_succ]at a0 a1 a2
   go_wp2_with fail
   refine (xec7 f1).mono ?_
   rintro e w1 ⟨rfl,hb2⟩
   have RA1:=RA.below hb2
   have R2:=R1.below hb2
   obtain⟨q0,q1⟩:=gf7 R2
   have a0:=RA1.cell (j:=0) (by simp)
   have a1:=RA1.cell (j:=1) (by simp)
   have a2:=RA1.cell (j:=2) (by simp)
   simp only[List.getElem_cons_zero,List.getElem_cons_succ]at a0 a1 a2
   go_wp2_with fail
   refine (xec7 f2).mono ?_
   rintro e w2 ⟨rfl,hb3⟩
   have RA2:=RA1.below hb3
   have R3:=R2.below hb3
   have hb4:=ca7 (ca7 hb1 hb2) hb3
   have a2:=RA2.cell (j:=2) (by simp)
   simp only[List.getElem_cons_zero,List.getElem_cons_succ]at a2
   clear R R1 R2 RA RA1 RA2 hb1 hb2 hb3 hal q0 q1 p0 p1 p2
   go_wp2
   go_roundw
   case rel=>exact⟨k+1,by omega,by go_num,hb4,R3⟩
   case measure=>simp[intOf];omega
  ·have hke:k=g.arcs.length:=by omega
   subst hke
   go_wp2
   go_ret
   exact⟨rfl,hb⟩
def ev7 (k:Nat):Value:=.int .i64 (k:Int)
theorem jrb7 {g:db7}{i k:Nat}(h:(ua7 g k).frm=i):sg7 g i (k+1)=sg7 g i k++[k]:=by
 unfold sg7;rw[List.range_succ,List.filter_append];simp[h]
theorem jyb7 {g:db7}{i k:Nat}(h:(ua7 g k).frm≠i):sg7 g i (k+1)=sg7 g i k:=by
 unfold sg7;rw[List.range_succ,List.filter_append];simp[h]
theorem ru7 (g:db7) (i k:Nat):(sg7 g i k).length≤k:=by
 have:=List.length_filter_le (fun j=>(ua7 g j).frm==i) (List.range k);rw[List.length_range]at this;exact this
theorem pd7 {g:db7}{k:Nat}(h:k<g.arcs.length):ua7 g k=g.arcs[k]:=by
 unfold ua7;rw[List.getD_eq_getElem?_getD,List.getElem?_eq_getElem h];rfl
theorem qy7 {w:World}{F:Nat→Prop}{g:db7}{cs:List Value}(h:po7.rep w F g cs) (hl:g.arcs.length≤20000) (i:Nat) :
  Calls Tryz.prog 191 #[.agg cs.toArray,.int .i64 (i:Int)] w fun e w'=>∃v,e = .returned v∧w'.ownsRow w.heap.size 3 1 v (sg7 g i g.arcs.length).length ((sg7 g i g.arcs.length).map ev7)∧Below w.heap.size w w':=by
 obtain⟨v,rfl,h⟩:=h
 obtain⟨a,b,off,c,hs,-,-,ha,-,hcell⟩:=gr7 h
 obtain rfl:=List.cons.inj hs |>.1
 have HCELL:=hid hcell
 have hli:(g.arcs.length:Int)≤20000:=by omega
 clear hs h hcell
 go_enter Tryz.func191,Tryz.ntmps191
 go_wp2
 go_loopw [5,11] (fun ov kv wr=>∃(k:Nat) (ao:Option Addr) (cp:Nat),k≤g.arcs.length∧kv = .int .i64 k∧ov = .slice ao (sg7 g i k).length cp∧wr.ownsRow w.heap.size 3 1 (.slice ao (sg7 g i k).length cp) (sg7 g i k).length ((sg7 g i k).map ev7) ∧
   Below w.heap.size w wr∧Row wr w.heap.size 243 [.int .i64 (g.n:Int),.slice a g.arcs.length c]) (fun _ kv _=>g.arcs.length-(intOf kv).toNat)
 case atStart=>exact⟨0,none,0,Nat.zero_le _,rfl,rfl,World.ownsRow_nil _ _ _ _,(Below.refl _ _).alloc (Nat.le_refl _) _,Row.new rfl⟩
 case round =>
  obtain⟨k,ao,cp,hk,rfl,rfl,hown,hb,R⟩:=hrel
  obtain⟨wq,rfl⟩:∃wq:World,wq=wr:=⟨_,rfl⟩
  by_cases hlt:k<g.arcs.length
  ·have hx:=vb7 (c:=c) Tryz.underlying241 fgb7 (ha (by omega)) hlt
   obtain⟨g0,g1,g2⟩:=HCELL.out k hlt
   have p0:=aa7 hb g0
   have p1:=aa7 hb g1
   have p2:=aa7 hb g2
   obtain⟨ar,har⟩:∃ar,ar=g.arcs[k]:=⟨_,rfl⟩
   have har2:ua7 g k=ar:=by rw[har];exact pd7 hlt
   rw[← har]at p0 p1 p2
   obtain⟨x1,x2,x3⟩:=ar
   simp only[]at p0 p1 p2
   have hal:Below wq.heap.size wq (wq.alloc (.cells #[.int .i64 (x1:Int),.int .i64 (x2:Int),.int .i64 x3] 260)):=(Below.refl _ _).alloc (Nat.le_refl _) _
   have HR1:=hid (R.below hal)
   have HB1:=hid (ca7 hb hal)
   have HO1:=hid (oa7 hown hal)
   have hsz:=hb.size
   have hol:=ru7 g i k
   by_cases e:x1=i
   ·have e1:((x1:Int)==(i:Int))=true:=by simp[e]
    have HU:=hid (jrb7 (g:=g) (i:=i) (k:=k) (by rw[har2];exact e))
    clear har har2 g0 g1 g2 R hown hb e hal
    obtain⟨i1,hi,hz0',hz1',hz2'⟩:=info_parts ql7
    obtain⟨ol,hole⟩:∃ol,ol=(sg7 g i k).length:=⟨_,rfl⟩
    rw[← hole]at HO1 hol ⊢
    have HOL:=hid hole
    clear hole
    go_upto_region 6 with fail
    generalize wq.alloc (.cells #[.int .i64 (x1:Int),.int .i64 (x2:Int),.int .i64 x3] 260)=wa at *
    have hown1:=HO1.out.alloc (.cells #[.int .i64 k] 3)
    have hwa:=HB1.out.size
    go_wp2_with (at_builtin;refine wpList_append_own _ rfl _ _ 68 rfl w.heap.size 3 i1 (.int .i64 0) 1 8 Tryz.underlying68 hi hz0' hz1' hz2' rfl (by decide) _ _ _ rfl hown1 ⟨wa.heap.size,0,none⟩ 1 1 [.int .i64 (k:Int)] rfl rfl ?c1 ?c2 ?c3 ?c4 ?c5 ?_)
    case c1=>exact cell_one_new _ _ _
    case c2=>intro u hu;simp at hu;subst hu;rfl
    case c3=>unfold maxLen;omega
    case c4=>omega
    case c5=>simp;omega
    intro v' w2 hown' hgrow _
    obtain⟨ao',cp',hv',-,-⟩:=xa7 hown'
    subst hv'
    have HB2:=hid (ce7 (w:=wa.alloc (.cells #[.int .i64 k] 3)) (HB1.out.alloc hwa _) hown1 (by simp;omega) (Nat.le_refl _) hgrow)
    have HR2:=hid ((HR1.out.alloc (.cells #[.int .i64 k] 3)).grown hown1 (by decide) hgrow)
    have HO2:=hid (show w2.ownsRow w.heap.size 3 1 (.slice ao' (sg7 g i (k+1)).length cp') (sg7 g i (k+1)).length ((sg7 g i (k+1)).map ev7) from by
     rw[HU.out,List.length_append,List.length_singleton,← HOL.out,List.map_append];exact hown')
    have HL:=hid (show ol+1=(sg7 g i (k+1)).length from by rw[HU.out,List.length_append,List.length_singleton,← HOL.out])
    clear hown' hgrow hown1 hi hz0' hz1' hz2'
    go_wp2
    go_roundw
    case rel=>exact⟨k+1,ao',cp',by omega,by go_num,by rw[HL.out],HO2.out,HB2.out,HR2.out⟩
    case measure=>simp[intOf];omega
   ·have e1:((x1:Int)==(i:Int))=false:=by simp;omega
    have HU:=hid (jyb7 (g:=g) (i:=i) (k:=k) (by rw[har2];exact e))
    clear har har2 g0 g1 g2 R hown hb e hal
    obtain⟨ol,hole⟩:∃ol,ol=sg7 g i k:=⟨_,rfl⟩
    rw[← hole]at HO1 hol HU ⊢
    clear hole
    go_wp2
    go_roundw
    case rel=>exact⟨k+1,ao,cp,by omega,by go_num,by rw[HU.out],by rw[HU.out];exact HO1.out,HB1.out,HR1.out⟩
    case measure=>simp[intOf];omega
  ·have hke:k=g.arcs.length:=by omega
   subst hke
   go_wp2
   go_ret
   exact⟨_,rfl,hown,hb⟩
end Go.Proofs.YtabadfkikdefeaaGreat
