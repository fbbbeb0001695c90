/- Texts of the proof, joined: Bikes, Good, Check, Way, Nodes, Lit, Order, Graph, Fill, BOwn, HTrucks, Ratio, OrdLaw, Unit, InsRow. -/
import Derived.Deep.DeepCutAuto
import Derived.Deep.QuietTactic
import Derived.BigQuiet
import Derived.Laws.OwnMore
import Derived.BigRegion
import Derived.Maps.AppendAt
import Derived.Shelf.Spec.SlicesInsertGrow
import Derived.Test.YtahffcepagopmaaP1
set_option linter.all false
set_option maxRecDepth 100000
set_option maxHeartbeats 6400000
namespace Go.Proofs.Ytahffcepagopmaa
open Go.RowKit
def fcb7 (x:ba7) (c:Int):eo7:=x.custs.getD c.toNat ⟨0,0,0,0⟩
def ie7 (x:ba7) (m:Nat) (c:Int):Bool:=decide (c < 0) || decide ((x.custs.length:Int) ≤ c) || m.testBit c.toNat
def ti7 (x:ba7):Option (Nat × Int) → Int → Option (Nat × Int)
 | none,_=>none
 | some (m,left),c=>if ie7 x m c then none else some (m ||| 2 ^ c.toNat,left - (fcb7 x c).load)
def xp7 (x:ba7) (m:Nat) (l:List Int):Option (Nat × Int):=l.foldl (ti7 x) (some (m,x.broom))
def vf7 (x:ba7) (b:pa7):Bool:=decide (b.sat < 0) || decide ((x.sats.length:Int) ≤ b.sat) || decide (b.stops.length = 0)
def ki7 (x:ba7):List pa7 → Nat → Bool → Bool × Bool × Bool
 | [],m,l=>(true,decide (Lib.onesCount m = x.custs.length),l)
 | b :: bs,m,l=>if vf7 x b then (false,false,l) else match xp7 x m b.stops with
  | none=>(false,false,l)
  | some (m',left)=>ki7 x bs m' (l && decide (0 ≤ left))
def ne7 (x:ba7) (l:List pa7):Bool × Bool × Bool:=ki7 x l 0 true
theorem wv7 (a b:Nat):((a:Int) == (b:Int)) = decide (a = b):=by
 by_cases h:a = b
 ·subst h; simp
 ·rw [decide_eq_false h,beq_eq_false_iff_ne]; omega
theorem hn7 (x:ba7) (l:List Int):l.foldl (ti7 x) none = none:=by
 induction l with
 | nil=>rfl
 | cons s l ih=>exact ih
theorem tyb7 {m i:Nat} (hm:m < 64) (hi:i < 6):m ||| 2 ^ i < 64:=Nat.or_lt_two_pow (n:=6) hm (Nat.pow_lt_pow_right (by decide) hi)
theorem jn7 {x:ba7} {m:Nat} {left:Int} {c:Int} (h:ie7 x m c = true):ti7 x (some (m,left)) c = none:=by simp [ti7,h]
theorem nq7 {x:ba7} {m:Nat} {left:Int} {c:Int} (h:ie7 x m c = false):ti7 x (some (m,left)) c = some (m ||| 2 ^ c.toNat,left - (fcb7 x c).load):=by simp [ti7,h]
theorem kn7 {x:ba7} {b:pa7} {bs:List pa7} {m:Nat} {l:Bool} (h:vf7 x b = true):ki7 x (b :: bs) m l = (false,false,l):=by simp [ki7,h]
theorem vk7 {x:ba7} {b:pa7} {bs:List pa7} {m:Nat} {l:Bool} (h:xp7 x m b.stops = none):ki7 x (b :: bs) m l = (false,false,l):=by simp [ki7,h]
theorem vp7 {x:ba7} {b:pa7} {bs:List pa7} {m m':Nat} {l:Bool} {left:Int} (h0:vf7 x b = false) (h:xp7 x m b.stops = some (m',left)) :
  ki7 x (b :: bs) m l = ki7 x bs m' (l && decide (0 ≤ left)):=by simp [ki7,h0,h]
theorem kub7 {w:World} {F G:Nat → Prop} {x:ba7} {p:sa7} {cs ps:List Value} (h:cb7.rep w F x cs) (hp:vd7.rep w G p ps) (hn:x.custs.length ≤ 6)
  (hr:0 ≤ x.broom ∧ x.broom ≤ 1000000000) (hcu:∀ c ∈ x.custs,0 ≤ c.load ∧ c.load ≤ 1000000000) (ht:∀ b ∈ p.bikes,b.stops.length ≤ 1000000000) :
  Calls Try.prog 57 #[.agg ps.toArray, .agg cs.toArray] w fun e w'=>e = .returned (.tuple #[.bool (ne7 x p.bikes).1, .bool (ne7 x p.bikes).2.1, .bool (ne7 x p.bikes).2.2]) ∧ Below w.heap.size w w':=by
 obtain ⟨s,c,co,ti,rfl, -,h1,h2, -, -⟩:=h
 obtain ⟨a,b,off,c1,hs, -, -, -, -, -, -⟩:=fd7 h1
 obtain rfl:=List.cons.inj hs |>.1
 obtain ⟨a',b',off',c1',hs',hlc',hc',ha', -,hcell', -⟩:=mf7 h2
 obtain rfl:=List.cons.inj hs' |>.1
 obtain ⟨tv,bv,rfl, -,h3⟩:=hp
 obtain ⟨a2,b2,off2,c2,hs2,hl2,hc2,ha2, -,hcell2⟩:=kd7 h3
 obtain rfl:=List.cons.inj hs2 |>.1
 clear hs hs' hs2 h1 h2 h3
 go_enter Try.func57,Try.ntmps57
 go_wp2
 go_loopw [4,5,6,7,16] (fun rr aa ll mm ii wr => ∃ (k m:Nat) (l:Bool),k ≤ p.bikes.length ∧ ii = .int .i64 k ∧ rr = .bool true ∧ aa = .bool false ∧ ll = .bool l ∧ mm = .int .u64 m ∧ m < 64 ∧
   ne7 x p.bikes = ki7 x (p.bikes.drop k) m l ∧ Below w.heap.size w wr ∧ wr.cell? ⟨w.heap.size + 1,4,none⟩ = some (.int .i64 x.broom) ∧ wr.cell? ⟨w.heap.size + 1,5,none⟩ = some (.slice a x.sats.length c1) ∧
   wr.cell? ⟨w.heap.size + 1,6,none⟩ = some (.slice a' x.custs.length c1') ∧ w.heap.size + 1 < wr.heap.size) (fun _ _ _ _ i _=>p.bikes.length - (intOf i).toNat)
 case atStart=>exact ⟨0,0,true,Nat.zero_le _,rfl,rfl,rfl,rfl,rfl,by decide,rfl,((Below.refl _ _).alloc (Nat.le_refl _) _).alloc (by simp) _,by simp,by simp,by simp,by simp⟩
 case round =>
  obtain ⟨k,m,l,hk,rfl,rfl,rfl,rfl,rfl,hm,hgo,hb,q4,q5,q6,hz⟩:=hrel
  obtain ⟨wo,rfl⟩:∃ wo:World,wo = wr:=⟨_,rfl⟩
  by_cases hlt:k < p.bikes.length
  ·have hx:=lb7 (c:=c2) Try.underlying42 ei7 (ha2 (by omega)) hlt
   obtain ⟨sv,g0,g1,hwf,hr0⟩:=hcell2 k hlt
   obtain ⟨bk,hbk⟩:∃ bk,bk = p.bikes[k]:=⟨_,rfl⟩
   have htl:=ht _ (List.getElem_mem hlt)
   rw [← hbk] at g0 hwf hr0 htl
   obtain ⟨st,sp⟩:=bk
   simp only [] at g0 hwf hr0 htl
   obtain ⟨a3,b3,off3,c3,hs3,hl3,hc3,ha3, -,hcell3,hwf3⟩:=bb7 hr0
   obtain rfl:=List.cons.inj hs3 |>.1
   have p0:=aa7 hb g0
   have p1:=aa7 hb g1
   have HGO:=hid (show ne7 x p.bikes = ki7 x (⟨st,sp⟩ :: p.bikes.drop (k + 1)) m l from by rw [hgo,hbk,List.drop_eq_getElem_cons hlt])
   clear hcell2 ha2 hgo hs3 hr0 g0 g1 hbk
   have hz':w.heap.size + 1 < wo.heap.size:=hz
   have HBB:=hid (show vf7 x ⟨st,sp⟩ = true → ne7 x p.bikes = (false,false,l) from fun h=>by rw [HGO.out]; exact kn7 h)
   by_cases e1:st < 0
   ·have HB:=hid (HBB.out (by simp [vf7,e1]))
    go_wp2
    go_ret3
    exact ⟨by rw [HB.out]; rfl,by simpa using hb.alloc (by omega) _⟩
   ·by_cases e2:(x.sats.length:Int) ≤ st
    ·have HB:=hid (HBB.out (by simp [vf7,e2]))
     go_wp2
     go_ret3
     exact ⟨by rw [HB.out]; rfl,by simpa using hb.alloc (by omega) _⟩
    ·by_cases e3:sp.length = 0
     ·have HB:=hid (HBB.out (by simp [vf7,e3]))
      go_wp2
      go_ret3
      exact ⟨by rw [HB.out]; rfl,by simpa using hb.alloc (by omega) _⟩
     ·have HNB:=hid (show vf7 x ⟨st,sp⟩ = false from by simp [vf7,e3]; omega)
      clear HBB
      go_wp2
      go_loopw [4,5,6,7,10,44] (fun rr aa ll mm ff jj wx => ∃ (j m2:Nat) (left:Int),j ≤ sp.length ∧ jj = .int .i64 j ∧ rr = .bool true ∧ aa = .bool false ∧ ll = .bool l ∧ mm = .int .u64 m2 ∧ ff = .int .i64 left ∧ m2 < 64 ∧
        (x.broom - 1000000000 * j ≤ left ∧ left ≤ x.broom) ∧ xp7 x m sp = (sp.drop j).foldl (ti7 x) (some (m2,left)) ∧ Below w.heap.size w wx ∧ wx.cell? ⟨w.heap.size + 1,4,none⟩ = some (.int .i64 x.broom) ∧
        wx.cell? ⟨w.heap.size + 1,5,none⟩ = some (.slice a x.sats.length c1) ∧ wx.cell? ⟨w.heap.size + 1,6,none⟩ = some (.slice a' x.custs.length c1') ∧ w.heap.size + 1 < wx.heap.size) (fun _ _ _ _ _ jj _=>sp.length - (intOf jj).toNat)
      case atStart =>
       exact ⟨0,m,x.broom,Nat.zero_le _,rfl,rfl,rfl,rfl,rfl,rfl,hm,by omega,rfl,hb.alloc (by omega) _,aa7 ((Below.refl _ _).alloc (Nat.le_refl _) _) q4,aa7 ((Below.refl _ _).alloc (Nat.le_refl _) _) q5,
        aa7 ((Below.refl _ _).alloc (Nat.le_refl _) _) q6,by simp; omega⟩
      case round =>
       obtain ⟨j,m2,left,hj,rfl,rfl,rfl,rfl,rfl,rfl,hm2,hleft,hst,hb2,q4',q5',q6',hzx⟩:=hrel
       clear q4 q5 q6
       by_cases hjt:j < sp.length
       ·have hy:=ga7 (c:=c3) Try.underlying57 tf7 (ha3 (by omega)) hjt
        have g3:=aa7 hb2 (hcell3 j hjt)
        obtain ⟨c,hc⟩:∃ c,c = sp[j]:=⟨_,rfl⟩
        rw [← hc] at g3
        have hnx:(sp.drop j).foldl (ti7 x) (some (m2,left)) = (sp.drop (j + 1)).foldl (ti7 x) (ti7 x (some (m2,left)) c):=by rw [List.drop_eq_getElem_cons hjt, ← hc]; rfl
        rw [hnx] at hst
        clear hnx hc hcell3 ha3
        have HST:=hid hst
        clear hst
        have HBAD:=hid (show ie7 x m2 c = true → ne7 x p.bikes = (false,false,l) from fun h=>by rw [HGO.out]; exact vk7 (by rw [HST.out,jn7 h,hn7]))
        have HOK:=hid (show ie7 x m2 c = false → xp7 x m sp = (sp.drop (j + 1)).foldl (ti7 x) (some (m2 ||| 2 ^ c.toNat,left - (fcb7 x c).load)) from fun h=>by rw [HST.out,nq7 h])
        clear HST
        by_cases f1:c < 0
        ·have HB:=hid (HBAD.out (by simp [ie7,f1]))
         go_wp2
         go_ret3
         exact ⟨by rw [HB.out]; rfl,hb2⟩
        ·by_cases f2:(x.custs.length:Int) ≤ c
         ·have HB:=hid (HBAD.out (by simp [ie7,f2]))
          go_wp2
          go_ret3
          exact ⟨by rw [HB.out]; rfl,hb2⟩
         ·obtain ⟨cn,rfl⟩:∃ cn:Nat,c = cn:=⟨c.toNat,by omega⟩
          rw [Int.toNat_natCast] at HOK
          have hcn:cn < 6:=by omega
          have hcl:cn < x.custs.length:=by omega
          cases f3:m2.testBit cn
          ·have HO:=hid (HOK.out (by simp [ie7,f3]; omega))
           have HW:=hid (yr7 m2 cn (by omega) (by omega))
           have HV:=hid (chb7 m2 cn (by omega) (by omega))
           have HM:=hid (tyb7 hm2 hcn)
           have hic:=lb7 (c:=c1') Try.underlying36 fm7 (ha' (by omega)) hcl
           have hcl1:=aa7 hb2 (hcell' cn hcl).1
           have hld:=hcu _ (List.getElem_mem hcl)
           obtain ⟨ld,hlde⟩:∃ ld,ld = x.custs[cn].load:=⟨_,rfl⟩
           have HLD:=hid (show (fcb7 x (cn:Int)).load = ld from by unfold fcb7; rw [Int.toNat_natCast,List.getD_eq_getElem?_getD,List.getElem?_eq_getElem hcl,hlde]; rfl)
           rw [← hlde] at hcl1 hld
           clear hm hm2 hlde hcell'
           go_wp2_with (first
            | (go_at_call 75; refine (HW.out _).mono ?_; rintro e w' ⟨rfl,rfl⟩; rw [f3])
            | (go_at_call 76; refine (HV.out _).mono ?_; rintro e w' ⟨rfl,rfl⟩))
           go_roundw
           case rel=>exact ⟨j + 1,m2 ||| 2 ^ cn,left - ld,by omega,by go_num,rfl,rfl,rfl,rfl,rfl,HM.out,by omega,by rw [HO.out,HLD.out],hb2,q4',q5',q6',hzx⟩
           case measure=>simp [intOf]; omega
          ·have HB:=hid (HBAD.out (by simp [ie7,f3]))
           have HW:=hid (yr7 m2 cn (by omega) (by omega))
           clear hm hm2
           go_wp2_with (go_at_call 75; refine (HW.out _).mono ?_; rintro e w' ⟨rfl,rfl⟩; rw [f3])
           go_ret3
           exact ⟨by rw [HB.out]; rfl,hb2⟩
       ·have hjl:j = sp.length:=by omega
        subst hjl
        have HG:=hid (show ne7 x p.bikes = ki7 x (p.bikes.drop (k + 1)) m2 (l && decide (0 ≤ left)) from by rw [HGO.out]; exact vp7 HNB.out (by rw [hst,List.drop_length]; rfl))
        have HM:=hid hm2
        clear hst HGO hcell3 ha3 hleft hj hm2
        cases l <;> by_cases f2:0 ≤ left
        all_goals
         go_wp2
         go_roundw
         case rel=>exact ⟨k + 1,m2,_,by omega,by go_num,rfl,rfl,rfl,rfl,HM.out,by rw [HG.out]; simp [f2],hb2,q4',q5',q6',hzx⟩
         case measure=>simp [intOf]; omega
  ·have hkl:k = p.bikes.length:=by omega
   subst hkl
   have HG:=hid (show ne7 x p.bikes = (true,decide (Lib.onesCount m = x.custs.length),l) from by rw [hgo,List.drop_length]; rfl)
   have HL:=hid (kcc7 m hm)
   clear hcell2 ha2 hgo hm
   cases hdd:((Lib.onesCount m:Nat):Int) == (x.custs.length:Int)
   all_goals
    have HD:=hid (show decide (Lib.onesCount m = x.custs.length) = _ from (wv7 _ _).symm.trans hdd)
    go_wp2
    go_quiet ((go_at_call 77; exact Calls.quiet_of_same (HL.out _)))
    go_wp2
    go_ret3
    exact ⟨by rw [HG.out,HD.out]; rfl,by simpa using below_drewN hb _⟩
structure Good (x:ba7):Prop where
 tmany:1 ≤ x.tmany ∧ x.tmany ≤ 60
 bmany:1 ≤ x.bmany ∧ x.bmany ≤ 60
 sats:1 ≤ x.sats.length ∧ x.sats.length ≤ 12
 custs:1 ≤ x.custs.length ∧ x.custs.length ≤ 48
 fin:0 ≤ x.fin ∧ x.fin ≤ 1000000000
 troom:0 ≤ x.troom ∧ x.troom ≤ 1000000000
 broom:0 ≤ x.broom ∧ x.broom ≤ 1000000000
 sat:∀ s ∈ x.sats,(0 ≤ s.room ∧ s.room ≤ 1000000000) ∧ 0 ≤ s.hold ∧ s.hold ≤ 1000000000
 cust:∀ c ∈ x.custs,(1 ≤ c.load ∧ c.load ≤ 1000000000) ∧ (0 ≤ c.opn ∧ c.opn ≤ 1000000000) ∧ (c.opn ≤ c.cls ∧ c.cls ≤ 1000000000) ∧ 0 ≤ c.stay ∧ c.stay ≤ 1000000000
 costL:x.cost.length = nodes x
 timeL:x.time.length = nodes x
 costR:∀ r ∈ x.cost,r.length = nodes x
 timeR:∀ r ∈ x.time,r.length = nodes x
 cost:∀ r ∈ x.cost, ∀ v ∈ r,0 ≤ v ∧ v ≤ 1000000000
 time:∀ r ∈ x.time, ∀ v ∈ r,0 ≤ v ∧ v ≤ 1000000000
theorem sh7 {n l:Int} (h:sl7 n l = true):l ≤ n ∧ n ≤ 1000000000:=by simpa [sl7] using h
theorem lu7 {l:List (List Int)} {n:Nat} (h:sg7 l (n:Int) = true):l.length = n ∧ ∀ r ∈ l,r.length = n:=by
 simp only [sg7,Bool.and_eq_true,beq_iff_eq,Bool.not_eq_true',List.any_eq_false,bne_iff_ne,ne_eq,Decidable.not_not] at h
 exact ⟨by omega,fun r hr=>by have:=h.2 r hr; omega⟩
theorem rgb7 {l:List (List Int)} (h:vib7 l l.length = true):∀ r ∈ l, ∀ v ∈ r,0 ≤ v ∧ v ≤ 1000000000:=by
 intro r hr v hv
 obtain ⟨i,hi,rfl⟩:=List.getElem_of_mem hr
 obtain ⟨j,hj,rfl⟩:=List.getElem_of_mem hv
 simp only [vib7,List.all_eq_true,List.mem_range] at h
 have h1:=h i hi
 rw [List.getD_eq_getElem?_getD,List.getElem?_eq_getElem hi] at h1
 simp only [yqb7,Option.getD_some,List.all_eq_true,List.mem_range] at h1
 have h2:=h1 j hj
 rw [List.getD_eq_getElem?_getD,List.getElem?_eq_getElem hj] at h2
 simp only [ijb7,Bool.and_eq_true] at h2
 exact sh7 h2.1
theorem te7 {x:ba7} (h:check x = 0):Good x:=by
 unfold check at h
 split at h
 case isFalse=>cases h
 rename_i hc
 split at h
 case isFalse=>cases h
 rename_i hs
 split at h
 case isFalse=>cases h
 rename_i hn
 simp only [countB,manyB,Bool.and_eq_true,decide_eq_true_eq] at hc
 simp only [teb7,Bool.and_eq_true] at hs
 simp only [bj7,rk7,Bool.and_eq_true,List.all_eq_true] at hn
 obtain ⟨⟨⟨⟨⟨⟨n0,n1⟩,n2⟩,n3⟩,n4⟩,n5⟩,n6⟩:=hn
 have s1:=lu7 hs.1
 have s2:=lu7 hs.2
 exact {
     tmany:=by omega,bmany:=by omega,sats:=by omega,custs:=by omega,fin:=sh7 n0,troom:=sh7 n1,broom:=sh7 n2,
     sat:=fun s hs'=>by have:=n3 s hs'; simp only [jwb7,Bool.and_eq_true] at this; exact ⟨sh7 this.1,sh7 this.2⟩,
     cust:=fun c hc'=>by have:=n4 c hc'; simp only [pib7,Bool.and_eq_true] at this; exact ⟨sh7 this.1.1.1,sh7 this.1.1.2,sh7 this.1.2,sh7 this.2⟩,
     costL:=s1.1,timeL:=s2.1,costR:=s1.2,timeR:=s2.2,cost:=rgb7 n5,time:=rgb7 n6 }
theorem mab7 {x:ba7} {m:Nat} {s:da7} (h:td7 x m s = false):de7 x s:=by
 simp only [td7,Bool.or_eq_false_iff,decide_eq_false_iff_not] at h
 unfold de7; omega
theorem lx7 {x:ba7}:∀ (l:List da7) (m:Nat) (left:Int) (r:Nat × Int),l.foldl (cj7 x) (some (m,left)) = some r → ∀ s ∈ l,de7 x s
 | [],_,_,_,_,s,hs=>by cases hs
 | a :: l,m,left,r,h,s,hs=>by
  rw [List.foldl_cons] at h
  cases hb:td7 x m a
  ·rw [bq7 hb] at h
   rcases List.mem_cons.1 hs with rfl | hs
   ·exact mab7 hb
   ·exact lx7 l _ _ r h s hs
  ·rw [xm7 hb,gn7] at h; cases h
theorem xs7 {x:ba7}:∀ (l:List (List da7)) (r d:Bool),(bf7 x l r d).1 = true → r = true ∧ ∀ t ∈ l,0 < t.length ∧ ∀ s ∈ t,de7 x s
 | [],r,d,h=>⟨h,fun _ h=>by cases h⟩
 | a :: l,r,d,h=>by
  cases ha:vi7 x a with
  | none=>rw [il7 ha] at h; cases h
  | some q =>
   obtain ⟨m,left⟩:=q
   rw [sj7 ha] at h
   obtain ⟨h1,h2⟩:=xs7 l _ _ h
   simp only [Bool.and_eq_true,decide_eq_true_eq] at h1
   refine ⟨h1.1,fun t ht => ?_⟩
   rcases List.mem_cons.1 ht with rfl | ht
   ·exact ⟨h1.2,lx7 t _ _ _ ha⟩
   ·exact h2 t ht
theorem oy7 {x:ba7} {l:List (List da7)} (h:(ud7 x l).1 = true):∀ t ∈ l,0 < t.length ∧ ∀ s ∈ t,de7 x s:=(xs7 l true true h).2
theorem lnb7:∀ (l:List Nat) (a:Nat),a ∈ l → a ≤ l.sum
 | b :: l,a,h=>by
  rw [List.sum_cons]
  rcases List.mem_cons.1 h with rfl | h
  ·omega
  ·have:=lnb7 l a h; omega
theorem qk7 {l:List pa7} {b:pa7} (h:b ∈ l):b.stops.length ≤ kb7 l l.length:=by
 unfold kb7; rw [List.take_length]; exact lnb7 _ _ (List.mem_map_of_mem h)
theorem dm7 {l:List (List da7)} {t:List da7} (h:t ∈ l):t.length ≤ ya7 l l.length:=by
 unfold ya7; rw [List.take_length]; exact lnb7 _ _ (List.mem_map_of_mem h)
def yj7 (x:ba7) (l:List Int) (k:Nat):Bool:=(List.range k).any fun i=>decide ((x.sats.getD i ⟨0,0⟩).room < l.getD i 0)
theorem hy7 (x:ba7) (l:List Int) (k:Nat):yj7 x l (k + 1) = (yj7 x l k || decide ((x.sats.getD k ⟨0,0⟩).room < l.getD k 0)):=by
 unfold yj7; rw [List.range_succ,List.any_append]; simp
theorem qrb7 {x:ba7} {l:List Int} {k n:Nat} (h:yj7 x l k = true) (hk:k ≤ n):yj7 x l n = true:=by
 simp only [yj7,List.any_eq_true,List.mem_range] at h ⊢
 obtain ⟨i,hi,h⟩:=h
 exact ⟨i,by omega,h⟩
def ia7 (x:ba7) (p:sa7):Int :=
 if check x ≠ 0 then check x else
 if x.tmany < p.trucks.length ∨ x.bmany < p.bikes.length then 11 else
 if (ud7 x p.trucks).1 = false ∨ (ne7 x p.bikes).1 = false then 15 else
 if (ne7 x p.bikes).2.1 = false then 8 else
 if (ud7 x p.trucks).2 = false ∨ (ne7 x p.bikes).2.2 = false then 10 else
 if yj7 x (bk7 x p.bikes) x.sats.length = true then 10 else
 if bk7 x p.bikes = ej7 x p.trucks then 0 else 13
def yb7 (p:sa7):Prop:=kb7 p.bikes p.bikes.length ≤ 1000000 ∧ ya7 p.trucks p.trucks.length ≤ 1000000
theorem cib7 (x:ba7) (l:List pa7):(bk7 x l).length = x.sats.length:=by unfold bk7; rw [vs7]; simp
theorem uhb7 (x:ba7) (l:List (List da7)):(ej7 x l).length = x.sats.length:=by unfold ej7; rw [jl7]; simp
theorem dq7 {l:List Int} {n:Nat} (h:jc7 l n) (hn:n ≤ 1000000):∀ v ∈ l,ua7 v:=fun v hv=>by have:=h v hv; unfold ua7; omega
theorem un7 (x:ba7) (hcu:∀ c ∈ x.custs,0 ≤ c.load ∧ c.load ≤ 1000000000) (sat:Int):∀ (l:List Int) (out:List Int) (n:Nat),jc7 out n → jc7 (l.foldl (pf7 x sat) out) (n + l.length)
 | [],out,n,h=>h
 | c :: l,out,n,h=>by
  rw [List.foldl_cons,List.length_cons,show n + (l.length + 1) = (n + 1) + l.length by omega]
  refine un7 x hcu sat l _ _ ?_
  unfold pf7
  split
  ·rename_i hc
   have hc2:c.toNat < x.custs.length:=by omega
   refine h.add ?_ ?_
   ·rw [List.getD_eq_getElem?_getD,List.getElem?_eq_getElem (by omega)]; exact h.get (by omega)
   ·rw [List.getD_eq_getElem?_getD,List.getElem?_eq_getElem hc2]; exact hcu _ (List.getElem_mem hc2)
  ·exact h.mono (by omega)
theorem yn7 (x:ba7) (hcu:∀ c ∈ x.custs,0 ≤ c.load ∧ c.load ≤ 1000000000):∀ (l:List pa7) (out:List Int) (n:Nat),jc7 out n → jc7 (l.foldl (oo7 x) out) (n + kb7 l l.length)
 | [],out,n,h=>h.mono (by omega)
 | b :: l,out,n,h=>by
  have e:kb7 (b :: l) (b :: l).length = b.stops.length + kb7 l l.length:=by unfold kb7; simp
  rw [List.foldl_cons,e, ← Nat.add_assoc]
  exact yn7 x hcu l _ _ (un7 x hcu b.sat b.stops out n h)
theorem jdb7 {x:ba7} {l:List pa7} (hcu:∀ c ∈ x.custs,0 ≤ c.load ∧ c.load ≤ 1000000000):jc7 (bk7 x l) (kb7 l l.length):=by
 have:=yn7 x hcu l _ 0 (jc7.zero x.sats.length)
 rwa [Nat.zero_add] at this
theorem zn7:∀ (l:List da7) (out:List Int) (n:Nat),(∀ s ∈ l,(0 ≤ s.sat ∧ s.sat < out.length) ∧ 1 ≤ s.load ∧ s.load ≤ 1000000000) → jc7 out n → jc7 (l.foldl zg7 out) (n + l.length)
 | [],out,n,_,h=>h
 | c :: l,out,n,ho,h=>by
  rw [List.foldl_cons,List.length_cons,show n + (l.length + 1) = (n + 1) + l.length by omega]
  refine zn7 l _ _ (fun s hs=>by rw [io7]; exact ho s (List.mem_cons_of_mem _ hs)) ?_
  have hc:=ho c (List.mem_cons_self ..)
  unfold zg7
  refine h.add ?_ ⟨by omega,by omega⟩
  rw [List.getD_eq_getElem?_getD,List.getElem?_eq_getElem (by omega)]; exact h.get (by omega)
theorem im7:∀ (l:List (List da7)) (out:List Int) (n:Nat),(∀ t ∈ l, ∀ s ∈ t,(0 ≤ s.sat ∧ s.sat < out.length) ∧ 1 ≤ s.load ∧ s.load ≤ 1000000000) → jc7 out n → jc7 (l.foldl rh7 out) (n + ya7 l l.length)
 | [],out,n,_,h=>h.mono (by omega)
 | b :: l,out,n,ho,h=>by
  have e:ya7 (b :: l) (b :: l).length = b.length + ya7 l l.length:=by unfold ya7; simp
  rw [List.foldl_cons,e, ← Nat.add_assoc]
  refine im7 l _ _ (fun t ht s hs => ?_) (zn7 b out n (ho b (List.mem_cons_self ..)) h)
  unfold rh7; rw [tm7]; exact ho t (List.mem_cons_of_mem _ ht) s hs
theorem ecb7 {x:ba7} {l:List (List da7)} (ho:∀ t ∈ l, ∀ s ∈ t,de7 x s):jc7 (ej7 x l) (ya7 l l.length):=by
 have:=im7 l _ 0 (fun t ht s hs=>by rw [List.length_replicate]; exact ho t ht s hs) (jc7.zero x.sats.length)
 rwa [Nat.zero_add] at this
theorem wk7 {a:Int} (h:a ≠ 0):(a != 0) = true:=by simpa using h
theorem mh7 {w:World} {F G:Nat → Prop} {x:ba7} {p:sa7} {cs ps:List Value} (h:cb7.rep w F x cs) (hp:vd7.rep w G p ps) (hn:check x = 0 → x.custs.length ≤ 6) (hsm:yb7 p) :
  Calls Try.prog 41 #[.agg cs.toArray, .agg ps.toArray] w fun e w'=>e = .returned (.int .i64 (ia7 x p)) ∧ Below w.heap.size w w':=by
 have hrep:=h
 have hprep:=hp
 obtain ⟨s,c,co,ti,rfl, -,h1,h2, -, -⟩:=h
 obtain ⟨a,b,off,c1,hs,hlc,hc,ha, -,hcell, -⟩:=fd7 h1
 obtain rfl:=List.cons.inj hs |>.1
 obtain ⟨tv,bv,rfl,h3,h4⟩:=hp
 obtain ⟨a2,b2,off2,c2,hs2,hl2,hc2, -, -, -⟩:=qc7 h3
 obtain rfl:=List.cons.inj hs2 |>.1
 obtain ⟨a4,b4,off4,c4,hs4,hl4,hc4, -, -, -⟩:=kd7 h4
 obtain rfl:=List.cons.inj hs4 |>.1
 have HB4:=hid h4
 clear hs hs2 hs4 h1 h2 h3 h4
 have R:=(Row.new (w:=w) (e:=39) (cs:=[.int .i64 x.fin, .int .i64 x.tmany, .int .i64 x.troom, .int .i64 x.bmany, .int .i64 x.broom, .slice a x.sats.length c1,c,co,ti]) rfl).alloc (.cells #[.slice a2 p.trucks.length c2, .slice a4 p.bikes.length c4] 44)
 have RP:=Row.new (w:=w.alloc (.cells #[.int .i64 x.fin, .int .i64 x.tmany, .int .i64 x.troom, .int .i64 x.bmany, .int .i64 x.broom, .slice a x.sats.length c1,c,co,ti] 39)) (e:=44) (g:=w.heap.size + 1) (cs:=[.slice a2 p.trucks.length c2, .slice a4 p.bikes.length c4]) (by simp)
 have hb0:Below w.heap.size w ((w.alloc (.cells #[.int .i64 x.fin, .int .i64 x.tmany, .int .i64 x.troom, .int .i64 x.bmany, .int .i64 x.broom, .slice a x.sats.length c1,c,co,ti] 39)).alloc (.cells #[.slice a2 p.trucks.length c2, .slice a4 p.bikes.length c4] 44)):=((Below.refl _ _).alloc (Nat.le_refl _) _).alloc (by simp) _
 have HS:=hid hsm
 have HC:=hid hcell
 clear hsm hcell
 by_cases hck:check x = 0
 case neg =>
  have hck2:=wk7 hck
  have HE:=hid (show ia7 x p = check x from if_pos hck)
  clear hck hn
  go_enter Try.func41,Try.ntmps41
  go_wp2_with fail
  refine (mfb7 (cb7.below hrep hb0)).mono ?_
  rintro e w1 ⟨rfl,hb1⟩
  go_wp2
  go_ret
  exact ⟨ib7 HE.out.symm,ca7 hb0 hb1⟩
 have gd:=te7 hck
 have hn6:=hn hck
 have hss:=gd.sats
 have htr:=gd.troom
 have hbr:=gd.broom
 have hcu:∀ c ∈ x.custs,0 ≤ c.load ∧ c.load ≤ 1000000000:=fun c hc=>by have:=(gd.cust c hc).1; omega
 have HCK:=hid hck
 have HGD:=hid gd
 clear hck gd hn
 go_enter Try.func41,Try.ntmps41
 go_wp2_with fail
 refine (mfb7 (cb7.below hrep hb0)).mono ?_
 rintro e w1 ⟨rfl,hb1⟩
 rw [HCK.out]
 have R1:=R.below hb1
 have RP1:=RP.below hb1
 have hB1:=ca7 hb0 hb1
 clear R RP hb0 hb1
 obtain ⟨q0,q1,q2,q3,q4,q5,q6,q7,q8⟩:=ih7 R1
 obtain ⟨p0,p1⟩:=mc7 RP1
 by_cases e1:x.tmany < p.trucks.length
 ·have HE:=hid (show ia7 x p = 11 from by unfold ia7; rw [if_neg (by simpa using HCK.out),if_pos (.inl e1)])
  go_wp2
  go_ret
  exact ⟨ib7 HE.out.symm,hB1⟩
 by_cases e2:x.bmany < p.bikes.length
 ·have HE:=hid (show ia7 x p = 11 from by unfold ia7; rw [if_neg (by simpa using HCK.out),if_pos (.inr e2)])
  go_wp2
  go_ret
  exact ⟨ib7 HE.out.symm,hB1⟩
 have HX:=hid (show ∀ v,(if (ud7 x p.trucks).1 = false ∨ (ne7 x p.bikes).1 = false then 15 else
   if (ne7 x p.bikes).2.1 = false then 8 else if (ud7 x p.trucks).2 = false ∨ (ne7 x p.bikes).2.2 = false then 10 else
   if yj7 x (bk7 x p.bikes) x.sats.length = true then 10 else if bk7 x p.bikes = ej7 x p.trucks then 0 else 13) = v → ia7 x p = v from fun v hv=>by
  unfold ia7; rw [if_neg (by simpa using HCK.out),if_neg (by omega)]; exact hv)
 go_wp2_with fail
 refine (bsb7 (cb7.below hrep hB1) (vd7.below hprep hB1) (by omega) htr (fun t ht=>by have:=dm7 ht; have:=HS.out.2; omega)).mono ?_
 rintro e w2 ⟨rfl,hb2⟩
 have R2:=R1.below hb2
 have RP2:=RP1.below hb2
 have hB2:=ca7 hB1 hb2
 clear q0 q1 q2 q3 q4 q5 q6 q7 q8 p0 p1 R1 RP1 hB1 hb2
 obtain ⟨q0,q1,q2,q3,q4,q5,q6,q7,q8⟩:=ih7 R2
 obtain ⟨p0,p1⟩:=mc7 RP2
 have HTO:=hid (oy7 (x:=x) (l:=p.trucks))
 obtain ⟨⟨r1,r2⟩,hrr⟩:∃ r,r = ud7 x p.trucks:=⟨_,rfl⟩
 rw [← hrr] at HX HTO ⊢
 have HRR:=hid hrr
 clear hrr
 simp only [] at HX HTO ⊢
 go_wp2_with fail
 refine (kub7 (cb7.below hrep hB2) (vd7.below hprep hB2) hn6 hbr hcu (fun t ht=>by have:=qk7 ht; have:=HS.out.1; omega)).mono ?_
 rintro e w3 ⟨rfl,hb3⟩
 have R3:=R2.below hb3
 have RP3:=RP2.below hb3
 have hB3:=ca7 hB2 hb3
 clear q0 q1 q2 q3 q4 q5 q6 q7 q8 p0 p1 R2 RP2 hB2 hb3
 obtain ⟨q0,q1,q2,q3,q4,q5,q6,q7,q8⟩:=ih7 R3
 obtain ⟨p0,p1⟩:=mc7 RP3
 obtain ⟨⟨s1,s2,s3⟩,hrr⟩:∃ r,r = ne7 x p.bikes:=⟨_,rfl⟩
 rw [← hrr] at HX ⊢
 have HSS:=hid hrr
 clear hrr
 simp only [] at HX ⊢
 cases r1
 ·have HE:=hid (HX.out 15 (by simp))
  cases s1
  all_goals
   go_wp2
   go_ret
   exact ⟨ib7 HE.out.symm,hB3⟩
 cases s1
 ·have HE:=hid (HX.out 15 (by simp))
  go_wp2
  go_ret
  exact ⟨ib7 HE.out.symm,hB3⟩
 cases s2
 ·have HE:=hid (HX.out 8 (by simp))
  go_wp2
  go_ret
  exact ⟨ib7 HE.out.symm,hB3⟩
 cases r2
 ·have HE:=hid (HX.out 10 (by simp))
  cases s3
  all_goals
   go_wp2
   go_ret
   exact ⟨ib7 HE.out.symm,hB3⟩
 cases s3
 ·have HE:=hid (HX.out 10 (by simp))
  go_wp2
  go_ret
  exact ⟨ib7 HE.out.symm,hB3⟩
 have HY:=hid (show ∀ v,(if yj7 x (bk7 x p.bikes) x.sats.length = true then 10 else if bk7 x p.bikes = ej7 x p.trucks then 0 else 13) = v → ia7 x p = v from fun v hv=>HX.out v (by simpa using hv))
 clear HX HRR HSS
 go_wp2_with fail
 have hbk:xn7.rep w3 G p.bikes [.slice a4 p.bikes.length c4]:=xn7.below HB4.out hB3
 refine (ztb7 (cb7.below hrep hB3) hbk (by omega) hcu HS.out.1).mono ?_
 rintro e w4 ⟨g,rfl,hg,hgw,hb4⟩
 have hB4:=ca7 hB3 hb4
 have R4:=R3.below hb4
 have RP4:=RP3.below hb4
 have hgz:w.heap.size + 1 < g:=by have:=RP3.lt; omega
 clear q0 q1 q2 q3 q4 q5 q6 q7 q8 p0 p1 R3 RP3 hB3 hb4 hbk hgw
 obtain ⟨q0,q1,q2,q3,q4,q5,q6,q7,q8⟩:=ih7 R4
 obtain ⟨p0,p1⟩:=mc7 RP4
 have hll:=cib7 x p.bikes
 have hsl:=jdb7 (x:=x) (l:=p.bikes) hcu
 have hsn:=HS.out.1
 obtain ⟨ll,hlle⟩:∃ ll,ll = bk7 x p.bikes:=⟨_,rfl⟩
 rw [← hlle] at hll hsl HY hg
 have HL:=hid hlle
 have HLL:=hid hll
 have HSL:=hid hsl
 have HG:=hid hg
 clear hlle hll hsl hg
 go_wp2
 go_loop [71] (fun i => ∃ k:Nat,k ≤ x.sats.length ∧ i = .int .i64 k ∧ yj7 x ll k = false) (fun i=>x.sats.length - (intOf i).toNat)
 case atStart=>exact ⟨0,Nat.zero_le _,rfl,rfl⟩
 case round =>
  obtain ⟨k,hk,rfl,hov⟩:=hrel
  by_cases hlt:k < x.sats.length
  ·have hkl:k < ll.length:=by have:=HLL.out; omega
   have g0:=HG.out.cell (j:=k) (by rw [List.length_map]; exact hkl)
   rw [List.getElem_map] at g0
   have gs:=aa7 hB4 (HC.out k hlt).1
   have hix:=ga7 (c:=x.sats.length) Try.underlying65 kc7 (a:=some ⟨g,0,none⟩) rfl hlt
   have his:=lb7 (c:=c1) Try.underlying35 ax7 (ha (by omega)) hlt
   rw [Nat.zero_add] at hix
   obtain ⟨v,hv⟩:∃ v,v = ll[k]:=⟨_,rfl⟩
   obtain ⟨r,hr⟩:∃ r,r = (x.sats[k]).room:=⟨_,rfl⟩
   rw [← hv] at g0
   rw [← hr] at gs
   unfold wa7 at g0
   have HO:=hid (show yj7 x ll (k + 1) = decide (r < v) from by
    rw [hy7,hov,hv,hr,List.getD_eq_getElem?_getD,List.getD_eq_getElem?_getD,List.getElem?_eq_getElem hlt,List.getElem?_eq_getElem hkl]; rfl)
   clear hv hr hov hkl
   by_cases hrv:r < v
   ·have HE:=hid (HY.out 10 (if_pos (qrb7 (k:=k + 1) (by rw [HO.out]; exact decide_eq_true hrv) (by omega))))
    go_wp2
    go_ret
    exact ⟨ib7 HE.out.symm,hB4⟩
   ·have HO2:=hid (show yj7 x ll (k + 1) = false from by rw [HO.out]; exact decide_eq_false hrv)
    go_wp2
    go_round
    case rel=>exact ⟨k + 1,by omega,by go_num,HO2.out⟩
    case measure=>simp [intOf]; omega
  ·have hke:k = x.sats.length:=by omega
   subst hke
   have HZ:=hid (show ∀ v,(if ll = ej7 x p.trucks then 0 else 13) = v → ia7 x p = v from fun v hv=>HY.out v (by rw [if_neg (by rw [hov]; decide)]; exact hv))
   have hto:∀ t ∈ p.trucks, ∀ s ∈ t,de7 x s:=fun t ht=>(HTO.out trivial t ht).2
   have hds:=ecb7 hto
   have hdl:=uhb7 x p.trucks
   clear hov HY HC ha
   go_wp2_with fail
   refine (oub7 (cb7.below hrep hB4) (vd7.below hprep hB4) (by omega) hto HS.out.2).mono ?_
   rintro e w5 ⟨g',rfl,hg',hgw',hb5⟩
   have hB5:=ca7 hB4 hb5
   have hwl:=dq7 HSL.out hsn
   have hwd:=dq7 hds HS.out.2
   have r1:(la7 ig7).rep w5 (fun _=>True) ll [.slice (some ⟨g,0,none⟩) ll.length ll.length]:=gp7 (HG.out.below hb5) (Nat.le_refl _) (by unfold maxLen; have:=HLL.out; omega) trivial hwl
   have r2:(la7 ig7).rep w5 (fun _=>True) (ej7 x p.trucks) [.slice (some ⟨g',0,none⟩) (ej7 x p.trucks).length (ej7 x p.trucks).length]:=gp7 hg' (Nat.le_refl _) (by unfold maxLen; omega) trivial hwd
   rw [HLL.out] at r1
   rw [hdl] at r2
   have HDS:=hid hds
   have HWL:=hid hwl
   clear q0 q1 q2 q3 q4 q5 q6 q7 q8 p0 p1 hdl hds hwl hwd hto hb5
   go_wp2_with fail
   refine (mz7 r1 r2).mono ?_
   rintro e w6 ⟨rfl,nd,rfl⟩
   by_cases hd:ll = ej7 x p.trucks
   ·have HE:=hid (HZ.out 0 (if_pos hd))
    rw [decide_eq_true hd]
    go_wp2
    go_ret
    exact ⟨ib7 HE.out.symm,below_drewN hB5 _⟩
   ·have HE:=hid (HZ.out 13 (if_neg hd))
    rw [decide_eq_false hd]
    go_wp2
    go_ret
    exact ⟨ib7 HE.out.symm,below_drewN hB5 _⟩
theorem ef7 {w:World} {F:Nat → Prop} {x:ba7} {cs:List Value} (h:cb7.rep w F x cs) {n:Int} (hn:0 ≤ n ∧ n ≤ 1000000000) :
  Calls Try.prog 61 #[.agg cs.toArray, .int .i64 n] w fun e w'=>e = .returned (.int .i64 (1 + n)) ∧ Below w.heap.size w w':=by
 obtain ⟨s,c,co,ti,rfl, -, -, -, -, -⟩:=h
 go_enter Try.func61,Try.ntmps61
 go_wp2
 go_ret
 exact ⟨rfl,(Below.refl _ _).alloc (Nat.le_refl _) _⟩
theorem qj7 {w:World} {F:Nat → Prop} {x:ba7} {cs:List Value} (h:cb7.rep w F x cs) (hl:x.sats.length ≤ 1000000) {n:Int} (hn:0 ≤ n ∧ n ≤ 1000000000) :
  Calls Try.prog 62 #[.agg cs.toArray, .int .i64 n] w fun e w'=>e = .returned (.int .i64 (1 + x.sats.length + n)) ∧ Below w.heap.size w w':=by
 obtain ⟨s,c,co,ti,rfl, -,h1, -, -, -⟩:=h
 obtain ⟨a,b,off,c1,hs, -, -, -, -, -, -⟩:=fd7 h1
 obtain rfl:=List.cons.inj hs |>.1
 clear hs h1
 go_enter Try.func62,Try.ntmps62
 go_wp2
 go_ret
 exact ⟨rfl,(Below.refl _ _).alloc (Nat.le_refl _) _⟩
def zh7 (x:ba7) (a b:Int):Int:=(x.cost.getD a.toNat []).getD b.toNat 0
def ii7 (x:ba7) (l:List Int) (k:Nat):Int:=((List.range k).map fun i=>zh7 x (l.getD i 0) (l.getD ((i + 1) % l.length) 0)).sum
def lcb7 (x:ba7) (l:List Int):Int:=ii7 x l l.length
theorem vm7 (x:ba7) (l:List Int) (k:Nat):ii7 x l (k + 1) = ii7 x l k + zh7 x (l.getD k 0) (l.getD ((k + 1) % l.length) 0):=by
 unfold ii7; rw [List.range_succ,List.map_append,List.sum_append]; simp
theorem oj7 {x:ba7} (g:Good x) (a b:Int):0 ≤ zh7 x a b ∧ zh7 x a b ≤ 1000000000:=by
 unfold zh7
 rw [List.getD_eq_getElem?_getD,List.getD_eq_getElem?_getD]
 by_cases h:a.toNat < x.cost.length
 ·rw [List.getElem?_eq_getElem h,Option.getD_some]
  by_cases h2:b.toNat < (x.cost[a.toNat]).length
  ·rw [List.getElem?_eq_getElem h2]; exact g.cost _ (List.getElem_mem h) _ (List.getElem_mem h2)
  ·rw [List.getElem?_eq_none (by omega)]; decide
 ·rw [show x.cost[a.toNat]? = none from List.getElem?_eq_none (by omega)]; simp
theorem oq7 {x:ba7} (g:Good x) (l:List Int):∀ k:Nat,0 ≤ ii7 x l k ∧ ii7 x l k ≤ 1000000000 * (k:Int)
 | 0=>by unfold ii7; simp
 | k + 1=>by
  have h1:=oq7 g l k
  have h2:=oj7 g (l.getD k 0) (l.getD ((k + 1) % l.length) 0)
  rw [vm7]; push_cast; omega
theorem mac7 {w:World} {F G:Nat → Prop} {x:ba7} {cs:List Value} {l:List Int} {v:Value} (h:cb7.rep w F x cs) (hl:(la7 ig7).rep w G l [v]) (hck:check x = 0) (hin:∀ a ∈ l,0 ≤ a ∧ a < nodes x) (hn:l.length ≤ 2000000) :
  Calls Try.prog 45 #[.agg cs.toArray,v] w fun e w'=>e = .returned (.int .i64 (lcb7 x l)) ∧ Below w.heap.size w w':=by
 have hrep:=h
 obtain ⟨s,c,co,ti,rfl, -,h1, -,h3, -⟩:=h
 obtain ⟨a,b,off,c1,hs, -, -, -, -, -, -⟩:=fd7 h1
 obtain rfl:=List.cons.inj hs |>.1
 obtain ⟨a7,b7,off7,c7,hs7,hl7,hc7,ha7, -,hcell7⟩:=qd7 h3
 obtain rfl:=List.cons.inj hs7 |>.1
 obtain ⟨a2,b2,off2,c2,hs2,hl2,hc2,ha2, -,hcell2, -⟩:=bb7 hl
 obtain rfl:=List.cons.inj hs2 |>.1
 clear hs hs7 hs2 h1 h3 hl
 have gd:=te7 hck
 have hnl:=gd.sats
 have hnc:=gd.custs
 have hco:=gd.costL
 have HCK:=hid hck
 have HGD:=hid gd
 have HCO:=hid hco
 clear hck gd hco
 go_enter Try.func45,Try.ntmps45
 go_wp2
 go_loopw [5,11] (fun ss i wr => ∃ k:Nat,k ≤ l.length ∧ i = .int .i64 k ∧ ss = .int .i64 (ii7 x l k) ∧ Row wr w.heap.size 39 [.int .i64 x.fin, .int .i64 x.tmany, .int .i64 x.troom, .int .i64 x.bmany, .int .i64 x.broom, .slice a x.sats.length c1,c, .slice a7 x.cost.length c7,ti] ∧
   Below w.heap.size w wr) (fun _ i _=>l.length - (intOf i).toNat)
 case atStart=>exact ⟨0,Nat.zero_le _,rfl,rfl,Row.new (cs:=[.int .i64 x.fin, .int .i64 x.tmany, .int .i64 x.troom, .int .i64 x.bmany, .int .i64 x.broom, .slice a x.sats.length c1,c, .slice a7 x.cost.length c7,ti]) rfl,(Below.refl _ _).alloc (Nat.le_refl _) _⟩
 case round =>
  obtain ⟨k,hk,rfl,rfl,R,hb⟩:=hrel
  obtain ⟨wo,rfl⟩:∃ wo:World,wo = wr:=⟨_,rfl⟩
  have hsb:=oq7 HGD.out l k
  have hkk:1000000000 * (k:Int) ≤ 1000000000 * 2000000:=by omega
  obtain ⟨sm,hsm⟩:∃ sm,sm = ii7 x l k:=⟨_,rfl⟩
  rw [← hsm] at hsb ⊢
  have HSM:=hid hsm
  clear hsm
  by_cases hlt:k < l.length
  ·have hx:=ga7 (c:=c2) Try.underlying57 tf7 (ha2 (by omega)) hlt
   have hml:(k + 1) % l.length < l.length:=Nat.mod_lt _ (by omega)
   have hx2:∀ w,(Instr.indexAt 57 (.slice a2 l.length c2) (.int .i64 (((k:Int) + 1) % (l.length:Int)))).run Try.prog w = .ok (.pointer (some ⟨b2,off2 + (k + 1) % l.length,none⟩)) w:=fun w=>by
    have:=ga7 (c:=c2) Try.underlying57 tf7 (ha2 (by omega)) hml w
    simpa using this
   have g0:=aa7 hb (hcell2 k hlt)
   have g1:=aa7 hb (hcell2 _ hml)
   have i0:=hin _ (List.getElem_mem hlt)
   have i1:=hin _ (List.getElem_mem hml)
   obtain ⟨A,hA⟩:∃ A,A = l[k]:=⟨_,rfl⟩
   obtain ⟨B,hB⟩:∃ B,B = l[(k + 1) % l.length]:=⟨_,rfl⟩
   rw [← hA] at g0 i0
   rw [← hB] at g1 i1
   have HS:=hid (show ii7 x l (k + 1) = sm + zh7 x A B from by
    rw [vm7,HSM.out,hA,hB,List.getD_eq_getElem?_getD,List.getD_eq_getElem?_getD,List.getElem?_eq_getElem hlt,List.getElem?_eq_getElem hml]; rfl)
   obtain ⟨an,rfl⟩:∃ an:Nat,A = an:=⟨A.toNat,by omega⟩
   obtain ⟨bn,rfl⟩:∃ bn:Nat,B = bn:=⟨B.toNat,by omega⟩
   have hab:=oj7 HGD.out an bn
   have ha3:an < x.cost.length:=by rw [HCO.out]; omega
   obtain ⟨rv,gr,rr⟩:=hcell7 an ha3
   obtain ⟨a8,b8,off8,c8,hs8,hl8,hc8,ha8, -,hcell8, -⟩:=bb7 rr
   obtain rfl:=List.cons.inj hs8 |>.1
   have hrl:=HGD.out.costR _ (List.getElem_mem ha3)
   have hb3:bn < (x.cost[an]).length:=by rw [hrl]; omega
   clear hrl
   have hxr:=ga7 (c:=c7) Try.underlying37 fh7 (ha7 (by omega)) ha3
   have hxc:=ga7 (c:=c8) Try.underlying65 kc7 (ha8 (by omega)) hb3
   have g3:=hcell8 bn hb3
   obtain ⟨cv,hcv⟩:∃ cv,cv = x.cost[an][bn]:=⟨_,rfl⟩
   have HCV:=hid (show zh7 x an bn = cv from by unfold zh7; rw [Int.toNat_natCast,Int.toNat_natCast,List.getD_eq_getElem?_getD,List.getD_eq_getElem?_getD,List.getElem?_eq_getElem ha3,Option.getD_some,List.getElem?_eq_getElem hb3,hcv]; rfl)
   rw [← hcv] at g3
   rw [HCV.out] at hab
   rw [HCV.out] at HS
   clear hA hB hcv hcell2 ha2 hcell7 ha7 hcell8 ha8 hs8 rr hin
   obtain ⟨q0,q1,q2,q3,q4,q5,q6,q7,q8⟩:=ih7 R
   go_wp2_with fail
   refine (mfb7 (cb7.below hrep hb)).mono ?_
   rintro e w1 ⟨rfl,hb1⟩
   rw [HCK.out]
   have R1:=R.below hb1
   have hB1:=ca7 hb hb1
   clear q0 q1 q2 q3 q4 q5 q6 q7 q8 R
   obtain ⟨q0,q1,q2,q3,q4,q5,q6,q7,q8⟩:=ih7 R1
   go_wp2_with fail
   refine (geb7 (cb7.below hrep hB1) (by omega) (by omega)).mono ?_
   rintro e w2 ⟨rfl,hb2⟩
   have R2:=R1.below hb2
   have hB2:=ca7 hB1 hb2
   clear q0 q1 q2 q3 q4 q5 q6 q7 q8 R1
   obtain ⟨q0,q1,q2,q3,q4,q5,q6,q7,q8⟩:=ih7 R2
   go_wp2_with fail
   refine (geb7 (cb7.below hrep hB2) (by omega) (by omega)).mono ?_
   rintro e w3 ⟨rfl,hb3⟩
   have R3:=R2.below hb3
   have hB3:=ca7 hB2 hb3
   have g5:=aa7 hB3 gr
   have g6:=aa7 hB3 g3
   clear q0 q1 q2 q3 q4 q5 q6 q7 q8 R2 gr g3 g0 g1
   obtain ⟨q0,q1,q2,q3,q4,q5,q6,q7,q8⟩:=ih7 R3
   go_wp2
   go_roundw
   case rel=>exact ⟨k + 1,by omega,by go_num,by rw [HS.out],R3,hB3⟩
   case measure=>simp [intOf]; omega
  ·have hke:k = l.length:=by omega
   subst hke
   clear hcell2 ha2 hcell7 ha7
   go_wp2
   go_ret
   exact ⟨ib7 HSM.out,hb⟩
theorem twb7 {α β:Type} (f:α → β):∀ xs:List α,xs.flatMap (fun x=>[f x]) = xs.map f
 | []=>rfl
 | x :: xs=>by rw [List.flatMap_cons,List.map_cons,twb7 f xs]; rfl
theorem uab7 {α:Type} {S:Shape α} {h0:0 < S.sz} {w:World} {B:Nat} {T:TypeId} {v:Value} {xs:List α} (enc:α → List Value) (hl:∀ x,(enc x).length = S.sz) (hs:∀ x ∈ xs,S.rep w (fun b=>B ≤ b) x (enc x))
  (h:w.ownsRow B T S.sz v xs.length (xs.flatMap enc)):(la7 S h0).rep w (fun b=>B ≤ b) xs [v]:=by
 obtain ⟨h1,h2⟩:=h
 rcases h2 with ⟨rfl,hn⟩ | ⟨g,cap,cur,rfl,hg,hh,hn1,hc,hsz,ht⟩
 ·have:xs = []:=List.eq_nil_of_length_eq_zero hn
  subst this
  exact ⟨none,0,0,0,rfl,Nat.le_refl _,Nat.zero_le _,fun h=>absurd h (Nat.not_lt_zero _),fun i h=>absurd h (Nat.not_lt_zero _)⟩
 ·have hR:Row w g T (xs.flatMap enc):=⟨cur,cur.toList.drop (xs.length * S.sz),hh,by rw [← ht,List.take_append_drop]⟩
  refine ⟨some ⟨g,0,none⟩,g,0,cap,rfl,hn1,hc,fun _=>⟨rfl,hg⟩,fun i hi=>⟨enc xs[i],hs _ (List.getElem_mem hi),fun j hj => ?_⟩⟩
  have e:=fl7 enc S.sz hl xs i j hi hj
  have hj':j < (enc xs[i]).length:=by rw [hl]; exact hj
  rw [List.getElem?_eq_getElem hj'] at e ⊢
  rw [Nat.zero_add]
  exact hR.get e
theorem pj7 {w:World} {B:Nat} {T:TypeId} {v:Value} {xs:List Int} (h:w.ownsRow B T 1 v xs.length (xs.map wa7)) (hw:∀ x ∈ xs,ua7 x):(la7 ig7).rep w (fun b=>B ≤ b) xs [v] :=
 uab7 (S:=ig7) (fun x=>[wa7 x]) (fun _=>rfl) (fun x hx=>⟨rfl,hw x hx⟩) (by rw [twb7]; exact h)
theorem Row.grown {w w':World} {g:Nat} {e:TypeId} {cs:List Value} {B T n k:Nat} {v:Value} {xs:List Value} (h:Row w g e cs) (hown:w.ownsRow B T k v n xs) (he:e ≠ T) (hg:w.grownBy w' v.ownBlock):Row w' g e cs :=
 h.keep (hg.block g h.lt fun e=>by obtain ⟨cs',hc'⟩:=gg7 hown e.symm; exact h.ne hc' he rfl)
theorem gb7 {B B' T n k:Nat} {a w w':World} {v:Value} {xs:List Value} (h:Below B a w) (hown:w.ownsRow B' T k v n xs) (hB:B ≤ w.heap.size) (hB':B ≤ B') (hg:w.grownBy w' v.ownBlock):Below B a w' :=
 h.grown hg hB fun k hk=>Nat.le_trans hB' (hown.lt k hk).1
def ra7 (t:List da7):List Int:=0 :: t.map (fun s=>1 + s.sat)
def ta7 (x:ba7) (b:pa7):List Int:=(1 + b.sat) :: b.stops.map (fun c=>1 + x.sats.length + c)
theorem jq7 {α β:Type} (f:α → β) (z:β) (l:List α) (k:Nat) (h:k < l.length):z :: (l.take (k + 1)).map f = (z :: (l.take k).map f) ++ [f l[k]]:=by
 rw [List.take_succ_eq_append_getElem h,List.map_append]; rfl
def ew7 (t:List da7) (k:Nat):List Value:=(0 :: (t.take k).map (fun s=>1 + s.sat)).map wa7
def jfb7 (x:ba7) (st:Int) (t:List Int) (k:Nat):List Value:=((1 + st) :: (t.take k).map (fun c=>1 + x.sats.length + c)).map wa7
theorem ffb7 (t:List da7) (k:Nat) (h:k < t.length):ew7 t (k + 1) = ew7 t k ++ [.int .i64 (1 + t[k].sat)]:=by
 unfold ew7; rw [jq7 _ _ _ _ h,List.map_append]; rfl
theorem cjb7 (x:ba7) (st:Int) (t:List Int) (k:Nat) (h:k < t.length):jfb7 x st t (k + 1) = jfb7 x st t k ++ [.int .i64 (1 + x.sats.length + t[k])]:=by
 unfold jfb7; rw [jq7 _ _ _ _ h,List.map_append]; rfl
theorem ph7:(Try.prog.info? 3).map (fun i=>(i.zero,i.size,i.bytes)) = some (some (.int .i64 0),1,8):=by kernel_rfl
theorem wcb7 {w:World} {F G:Nat → Prop} {x:ba7} {cs:List Value} {t:List da7} {v:Value} (h:cb7.rep w F x cs) (hl:(la7 ci7).rep w G t [v]) (hin:∀ s ∈ t,0 ≤ s.sat ∧ s.sat ≤ 1000000) (hn:t.length ≤ 1000000) :
  Calls Try.prog 46 #[.agg #[v], .agg cs.toArray] w fun e w' => ∃ u,e = .returned u ∧ (la7 ig7).rep w' (fun b=>w.heap.size ≤ b) (ra7 t) [u] ∧ Below w.heap.size w w':=by
 have hrep:=h
 obtain ⟨s,c,co,ti,rfl, -, -, -, -, -⟩:=h
 obtain ⟨a2,b2,off2,c2,hs2,hl2,hc2,ha2, -,hcell2, -⟩:=re7 hl
 obtain rfl:=List.cons.inj hs2 |>.1
 clear hs2 hl
 go_enter Try.func46,Try.ntmps46
 go_wp2
 go_loopw [5,12] (fun ov i wr => ∃ (k:Nat) (ao:Option Addr) (cp:Nat),k ≤ t.length ∧ i = .int .i64 k ∧ ov = .slice ao (k + 1) cp ∧ wr.ownsRow w.heap.size 3 1 (.slice ao (k + 1) cp) (k + 1) (ew7 t k) ∧
   Row wr (w.heap.size + 1) 39 [.int .i64 x.fin, .int .i64 x.tmany, .int .i64 x.troom, .int .i64 x.bmany, .int .i64 x.broom,s,c,co,ti] ∧ Below w.heap.size w wr) (fun _ i _=>t.length - (intOf i).toNat)
 case atStart =>
  refine ⟨0,_,_,Nat.zero_le _,rfl,rfl, ?_, ?_,(((Below.refl _ _).alloc (Nat.le_refl _) _).alloc (by simp) _).alloc (by simp; omega) _⟩
  ·have:=World.ownsRow_lit (e:=3) (size:=1) (base:=w.heap.size) ((w.alloc (.cells #[.slice a2 t.length c2] 62)).alloc (.cells #[.int .i64 x.fin, .int .i64 x.tmany, .int .i64 x.troom, .int .i64 x.bmany, .int .i64 x.broom,s,c,co,ti] 39)) #[.int .i64 0] 1 (by simp; omega) (by decide) rfl
   simpa [ew7,wa7] using this
  ·exact Row.alloc (Row.new (w:=w.alloc (.cells #[.slice a2 t.length c2] 62)) (cs:=[.int .i64 x.fin, .int .i64 x.tmany, .int .i64 x.troom, .int .i64 x.bmany, .int .i64 x.broom,s,c,co,ti]) (by simp)) _
 case round =>
  obtain ⟨k,ao,cp,hk,rfl,rfl,hown,R,hb⟩:=hrel
  obtain ⟨wo,rfl⟩:∃ wo:World,wo = wr:=⟨_,rfl⟩
  by_cases hlt:k < t.length
  ·have hx:=lb7 (c:=c2) Try.underlying60 yl7 (ha2 (by omega)) hlt
   have g0:=aa7 hb (hcell2 k hlt).1
   have g1:=aa7 hb (hcell2 k hlt).2
   have i0:=hin _ (List.getElem_mem hlt)
   obtain ⟨sp,hsp⟩:∃ sp,sp = t[k]:=⟨_,rfl⟩
   rw [← hsp] at g0 g1 i0
   obtain ⟨st,ld⟩:=sp
   simp only [] at g0 g1 i0
   have HM:=hid (ffb7 t k hlt)
   rw [← hsp] at HM
   have R0:=R.alloc (.cells #[.int .i64 st, .int .i64 ld] 64)
   have hsz:=hb.size
   have hb0:=hb.alloc hb.size (.cells #[.int .i64 st, .int .i64 ld] 64)
   have hown0:=hown.alloc (.cells #[.int .i64 st, .int .i64 ld] 64)
   have HO:=hid hown0
   obtain ⟨q0,q1,q2,q3,q4,q5,q6,q7,q8⟩:=ih7 R0
   clear hcell2 ha2 hsp hin hown R hown0
   go_wp2_with fail
   refine (ef7 (cb7.below hrep hb0) (by omega)).mono ?_
   rintro e w1 ⟨rfl,hb1⟩
   have R1:=R0.below hb1
   have hB1:=ca7 hb0 hb1
   have hown1:=oa7 HO.out hb1
   have hs1:=hB1.size
   clear q0 q1 q2 q3 q4 q5 q6 q7 q8 R0
   have HR1:=hid R1
   have HB1:=hid hB1
   obtain ⟨i1,hi,hz0,hz1,hz2⟩:=info_parts ph7
   clear R1 hB1 hb0 hb1
   go_wp2_with (at_builtin; refine wpList_append_own _ rfl _ _ 57 rfl w.heap.size 3 i1 (.int .i64 0) 1 8 Try.underlying57 hi hz0 hz1 hz2 rfl (by decide) _ _ _ rfl (hown1.alloc _) ⟨w1.heap.size,0,none⟩ 1 1 [.int .i64 (1 + st)] rfl rfl ?c1 ?c2 ?c3 ?c4 ?c5 ?_)
   case c1=>exact cell_one_new _ _ _
   case c2=>intro u hu; simp at hu; subst hu; rfl
   case c3=>unfold maxLen; omega
   case c4=>omega
   case c5=>simp; omega
   intro v' w2 hown' hgrow _
   obtain ⟨ao',cp',hv', -, -⟩:=ka7 hown'
   subst hv'
   have hR2:=(HR1.out.alloc _).grown (hown1.alloc _) (by decide) hgrow
   have hB2:=gb7 (HB1.out.alloc hs1 _) (hown1.alloc _) (by simp; omega) (Nat.le_refl _) hgrow
   have HOW:=hid (show w2.ownsRow w.heap.size 3 1 (.slice ao' (k + 1 + 1) cp') (k + 1 + 1) (ew7 t (k + 1)) from by rw [HM.out]; exact hown')
   clear hown' hgrow hown1 hi hz0 hz1 hz2
   go_wp2
   go_roundw
   case rel=>exact ⟨k + 1,ao',cp',by omega,by go_num,rfl,HOW.out,hR2,hB2⟩
   case measure=>simp [intOf]; omega
  ·have hke:k = t.length:=by omega
   subst hke
   have hr:(la7 ig7).rep wo (fun b=>w.heap.size ≤ b) (ra7 t) [.slice ao (t.length + 1) cp]:=by
    refine pj7 (T:=3) ?_ ?_
    ·have:(ra7 t).length = t.length + 1:=by simp [ra7]
     rw [this]; unfold ra7; unfold ew7 at hown; rw [List.take_length] at hown; exact hown
    ·intro v hv
     simp only [ra7,List.mem_cons,List.mem_map] at hv
     rcases hv with rfl | ⟨s,hs,rfl⟩
     ·unfold ua7; omega
     ·have:=hin s hs; unfold ua7; omega
   have HR:=hid hr
   clear hr hown hcell2 ha2 hin
   go_wp2
   go_ret
   exact ⟨_,rfl,HR.out,hb⟩
theorem aeb7 {w:World} {F G:Nat → Prop} {x:ba7} {cs:List Value} {k0:pa7} {bs:List Value} (h:cb7.rep w F x cs) (hl:tp7.rep w G k0 bs) (hsl:x.sats.length ≤ 1000000) (hb0:0 ≤ k0.sat ∧ k0.sat ≤ 1000000)
  (hin:∀ c ∈ k0.stops,0 ≤ c ∧ c ≤ 1000000) (hn:k0.stops.length ≤ 1000000) :
  Calls Try.prog 47 #[.agg bs.toArray, .agg cs.toArray] w fun e w' => ∃ u,e = .returned u ∧ (la7 ig7).rep w' (fun b=>w.heap.size ≤ b) (ta7 x k0) [u] ∧ Below w.heap.size w w':=by
 have hrep:=h
 obtain ⟨s,c,co,ti,rfl, -, -, -, -, -⟩:=h
 obtain ⟨v,rfl, -,hl⟩:=hl
 obtain ⟨st,t⟩:=k0
 simp only [] at hl hb0 hin hn
 obtain ⟨a2,b2,off2,c2,hs2,hl2,hc2,ha2, -,hcell2, -⟩:=bb7 hl
 obtain rfl:=List.cons.inj hs2 |>.1
 clear hs2 hl
 have R0:=Row.new (w:=w.alloc (.cells #[.int .i64 st, .slice a2 t.length c2] 59)) (g:=w.heap.size + 1) (e:=39) (cs:=[.int .i64 x.fin, .int .i64 x.tmany, .int .i64 x.troom, .int .i64 x.bmany, .int .i64 x.broom,s,c,co,ti]) (by simp)
 have P0:=(Row.new (w:=w) (g:=w.heap.size) (e:=59) (cs:=[.int .i64 st, .slice a2 t.length c2]) rfl).alloc (.cells #[.int .i64 x.fin, .int .i64 x.tmany, .int .i64 x.troom, .int .i64 x.bmany, .int .i64 x.broom,s,c,co,ti] 39)
 have hbb:Below w.heap.size w ((w.alloc (.cells #[.int .i64 st, .slice a2 t.length c2] 59)).alloc (.cells #[.int .i64 x.fin, .int .i64 x.tmany, .int .i64 x.troom, .int .i64 x.bmany, .int .i64 x.broom,s,c,co,ti] 39)):=((Below.refl _ _).alloc (Nat.le_refl _) _).alloc (by simp) _
 go_enter Try.func47,Try.ntmps47
 go_wp2_with fail
 refine (ef7 (cb7.below hrep hbb) (by omega)).mono ?_
 rintro e w1 ⟨rfl,hb1⟩
 have R1:=R0.below hb1
 have hB1:=ca7 hbb hb1
 have P1:=P0.below hb1
 clear R0 P0 hbb hb1
 obtain ⟨p0,p1⟩:=mc7 P1
 have hs1:=hB1.size
 have hz1:=P1.lt
 have hz2:=R1.lt
 go_wp2
 go_loopw [5,16] (fun ov i wr => ∃ (k:Nat) (ao:Option Addr) (cp:Nat),k ≤ t.length ∧ i = .int .i64 k ∧ ov = .slice ao (k + 1) cp ∧ wr.ownsRow w.heap.size 3 1 (.slice ao (k + 1) cp) (k + 1) (jfb7 x st t k) ∧
   Row wr (w.heap.size + 1) 39 [.int .i64 x.fin, .int .i64 x.tmany, .int .i64 x.troom, .int .i64 x.bmany, .int .i64 x.broom,s,c,co,ti] ∧ Below w.heap.size w wr) (fun _ i _=>t.length - (intOf i).toNat)
 case atStart =>
  refine ⟨0,_,_,Nat.zero_le _,rfl,rfl, ?_,R1.alloc _,hB1.alloc hs1 _⟩
  have:=World.ownsRow_lit (e:=3) (size:=1) (base:=w.heap.size) w1 #[.int .i64 (1 + st)] 1 hs1 (by decide) rfl
  simpa [jfb7,wa7] using this
 case round =>
  clear R1 P1 p0 p1 hB1
  obtain ⟨k,ao,cp,hk,rfl,rfl,hown,R,hb⟩:=hrel
  obtain ⟨wo,rfl⟩:∃ wo:World,wo = wr:=⟨_,rfl⟩
  by_cases hlt:k < t.length
  ·have hx:=ga7 (c:=c2) Try.underlying57 tf7 (ha2 (by omega)) hlt
   have g0:=aa7 hb (hcell2 k hlt)
   have i0:=hin _ (List.getElem_mem hlt)
   obtain ⟨sp,hsp⟩:∃ sp,sp = t[k]:=⟨_,rfl⟩
   rw [← hsp] at g0 i0
   have HM:=hid (cjb7 x st t k hlt)
   rw [← hsp] at HM
   have hsz:=hb.size
   have HO:=hid hown
   obtain ⟨q0,q1,q2,q3,q4,q5,q6,q7,q8⟩:=ih7 R
   clear hcell2 ha2 hsp hin hown
   go_wp2_with fail
   refine (qj7 (cb7.below hrep hb) hsl (by omega)).mono ?_
   rintro e w1 ⟨rfl,hb1⟩
   have R1:=R.below hb1
   have hB1:=ca7 hb hb1
   have hown1:=oa7 HO.out hb1
   have hs1:=hB1.size
   clear q0 q1 q2 q3 q4 q5 q6 q7 q8 R
   have HR1:=hid R1
   have HB1:=hid hB1
   obtain ⟨i1,hi,hz0,hz1,hz2⟩:=info_parts ph7
   clear R1 hB1 hb hb1
   go_wp2_with (at_builtin; refine wpList_append_own _ rfl _ _ 57 rfl w.heap.size 3 i1 (.int .i64 0) 1 8 Try.underlying57 hi hz0 hz1 hz2 rfl (by decide) _ _ _ rfl (hown1.alloc _) ⟨w1.heap.size,0,none⟩ 1 1 [.int .i64 (1 + x.sats.length + sp)] rfl rfl ?c1 ?c2 ?c3 ?c4 ?c5 ?_)
   case c1=>exact cell_one_new _ _ _
   case c2=>intro u hu; simp at hu; subst hu; rfl
   case c3=>unfold maxLen; omega
   case c4=>omega
   case c5=>simp; omega
   intro v' w2 hown' hgrow _
   obtain ⟨ao',cp',hv', -, -⟩:=ka7 hown'
   subst hv'
   have hR2:=(HR1.out.alloc _).grown (hown1.alloc _) (by decide) hgrow
   have hB2:=gb7 (HB1.out.alloc hs1 _) (hown1.alloc _) (by simp; omega) (Nat.le_refl _) hgrow
   have HOW:=hid (show w2.ownsRow w.heap.size 3 1 (.slice ao' (k + 1 + 1) cp') (k + 1 + 1) (jfb7 x st t (k + 1)) from by rw [HM.out]; exact hown')
   clear hown' hgrow hown1 hi hz0 hz1 hz2
   go_wp2
   go_roundw
   case rel=>exact ⟨k + 1,ao',cp',by omega,by go_num,rfl,HOW.out,hR2,hB2⟩
   case measure=>simp [intOf]; omega
  ·have hke:k = t.length:=by omega
   subst hke
   have hr:(la7 ig7).rep wo (fun b=>w.heap.size ≤ b) (ta7 x ⟨st,t⟩) [.slice ao (t.length + 1) cp]:=by
    refine pj7 (T:=3) ?_ ?_
    ·have:(ta7 x ⟨st,t⟩).length = t.length + 1:=by simp [ta7]
     rw [this]; unfold ta7; unfold jfb7 at hown; rw [List.take_length] at hown; exact hown
    ·intro v hv
     simp only [ta7,List.mem_cons,List.mem_map] at hv
     rcases hv with rfl | ⟨s,hs,rfl⟩
     ·unfold ua7; omega
     ·have:=hin s hs; unfold ua7; omega
   have HR:=hid hr
   clear hr hown hcell2 ha2 hin
   go_wp2
   go_ret
   exact ⟨_,rfl,HR.out,hb⟩
theorem ur7 {α:Type} {S:Shape α} {h0:0 < S.sz} {w:World} {F:Nat → Prop} {xs:List α} {g c:Nat} {T:TypeId} (vs:List (List Value)) (hl:vs.length = xs.length) (hv:∀ v ∈ vs,v.length = S.sz)
  (hr:∀ i (h:i < xs.length) (h':i < vs.length),S.rep w F xs[i] vs[i]) (h:Row w g T vs.flatten) (hc:xs.length ≤ c) (hm:c ≤ maxLen) (hF:F g):(la7 S h0).rep w F xs [.slice (some ⟨g,0,none⟩) xs.length c]:=by
 refine ⟨some ⟨g,0,none⟩,g,0,c,rfl,hc,hm,fun _=>⟨rfl,hF⟩,fun i hi=>⟨vs[i]'(by omega),hr i hi (by omega),fun j hj => ?_⟩⟩
 have hget:∀ (l:List (List Value)) (i:Nat) (hi:i < l.length),(∀ v ∈ l,v.length = S.sz) → l.flatten[i * S.sz + j]? = (l[i])[j]? := by
  intro l
  induction l with
  | nil=>intro i hi; simp at hi
  | cons a l ih =>
   intro i hi hl
   have ha:=hl a (List.mem_cons_self ..)
   rw [List.flatten_cons]
   cases i with
   | zero=>rw [Nat.zero_mul,Nat.zero_add,List.getElem?_append_left (by rw [ha]; exact hj)]; rfl
   | succ i =>
    rw [List.getElem?_append_right (by rw [ha,Nat.succ_mul]; omega),ha,show (i + 1) * S.sz + j - S.sz = i * S.sz + j by rw [Nat.succ_mul]; omega]
    exact ih i (by simpa using hi) fun v hv=>hl v (List.mem_cons_of_mem _ hv)
 have e:=hget vs i (by omega) hv
 have hj':j < (vs[i]'(by omega)).length:=by rw [hv _ (List.getElem_mem _)]; exact hj
 rw [List.getElem?_eq_getElem hj'] at e ⊢
 rw [Nat.zero_add]
 exact h.get e
theorem zyb7 {α:Type} {S:Shape α} {h0:0 < S.sz} {w:World} {F:Nat → Prop} {x:α} {v:List Value} {g:Nat} {T:TypeId} (hr:S.rep w F x v) (h:Row w g T v) (hF:F g):(la7 S h0).rep w F [x] [.slice (some ⟨g,0,none⟩) 1 1]:=by
 refine ur7 (xs:=[x]) (T:=T) [v] rfl ?_ ?_ (by simpa using h) (Nat.le_refl _) (by decide) hF
 ·intro u hu; simp at hu; subst hu; exact S.len hr
 ·intro i h h'
  obtain rfl:i = 0:=by simp at h; exact h
  exact hr
theorem Row.setApart {w:World} {g g':Nat} {e e':TypeId} {cs cs':List Value} (h:Row w g e cs) (h':Row w g' e' cs') (he:e ≠ e') (j:Nat) (u:Value):Row (w.setCell ⟨g',j,none⟩ u) g e cs:=h.setOther (a:=⟨g',j,none⟩) (h.ne h' he) u
theorem df7 (w:World) (c:List Value) (T:TypeId):Below w.heap.size w (w.alloc (.cells c.toArray T)) ∧ Row (w.alloc (.cells c.toArray T)) w.heap.size T c ∧ (w.alloc (.cells c.toArray T)).heap.size = w.heap.size + 1 :=
 ⟨(Below.refl _ _).alloc (Nat.le_refl _) _,Row.new rfl,by simp⟩
theorem fub7 (w:World) (c1 c2 c3:List Value) (T1 T2 T3:TypeId):∃ W,W = ((w.alloc (.cells c1.toArray T1)).alloc (.cells c2.toArray T2)).alloc (.cells c3.toArray T3) ∧ Below w.heap.size w W ∧
  Row W w.heap.size T1 c1 ∧ Row W (w.heap.size + 1) T2 c2 ∧ Row W (w.heap.size + 2) T3 c3 ∧ W.heap.size = w.heap.size + 3:=by
 obtain ⟨b1,r1,z1⟩:=df7 w c1 T1
 obtain ⟨b2,r2,z2⟩:=df7 (w.alloc (.cells c1.toArray T1)) c2 T2
 obtain ⟨b3,r3,z3⟩:=df7 ((w.alloc (.cells c1.toArray T1)).alloc (.cells c2.toArray T2)) c3 T3
 refine ⟨_,rfl,ca7 (ca7 b1 b2) b3,(r1.below b2).below b3, ?_, ?_,by omega⟩
 ·rw [z1] at r2; exact r2.below b3
 ·rw [show w.heap.size + 2 = ((w.alloc (.cells c1.toArray T1)).alloc (.cells c2.toArray T2)).heap.size by omega]; exact r3
theorem ilb7 (w:World) (c1 c2 c3 c4 c5:List Value) (T1 T2 T3 T4 T5:TypeId):∃ W,W = ((((w.alloc (.cells c1.toArray T1)).alloc (.cells c2.toArray T2)).alloc (.cells c3.toArray T3)).alloc (.cells c4.toArray T4)).alloc (.cells c5.toArray T5) ∧ Below w.heap.size w W ∧
  Row W w.heap.size T1 c1 ∧ Row W (w.heap.size + 1) T2 c2 ∧ Row W (w.heap.size + 2) T3 c3 ∧ Row W (w.heap.size + 3) T4 c4 ∧ Row W (w.heap.size + 4) T5 c5 ∧ W.heap.size = w.heap.size + 5:=by
 obtain ⟨b1,r1,z1⟩:=df7 w c1 T1
 obtain ⟨b2,r2,z2⟩:=df7 (w.alloc (.cells c1.toArray T1)) c2 T2
 obtain ⟨b3,r3,z3⟩:=df7 ((w.alloc (.cells c1.toArray T1)).alloc (.cells c2.toArray T2)) c3 T3
 obtain ⟨b4,r4,z4⟩:=df7 (((w.alloc (.cells c1.toArray T1)).alloc (.cells c2.toArray T2)).alloc (.cells c3.toArray T3)) c4 T4
 obtain ⟨b5,r5,z5⟩:=df7 ((((w.alloc (.cells c1.toArray T1)).alloc (.cells c2.toArray T2)).alloc (.cells c3.toArray T3)).alloc (.cells c4.toArray T4)) c5 T5
 refine ⟨_,rfl,ca7 (ca7 (ca7 (ca7 b1 b2) b3) b4) b5,(((r1.below b2).below b3).below b4).below b5, ?_, ?_, ?_, ?_,by omega⟩
 ·rw [z1] at r2; exact ((r2.below b3).below b4).below b5
 ·rw [show w.heap.size + 2 = ((w.alloc (.cells c1.toArray T1)).alloc (.cells c2.toArray T2)).heap.size by omega]; exact (r3.below b4).below b5
 ·rw [show w.heap.size + 3 = (((w.alloc (.cells c1.toArray T1)).alloc (.cells c2.toArray T2)).alloc (.cells c3.toArray T3)).heap.size by omega]; exact r4.below b5
 ·rw [show w.heap.size + 4 = ((((w.alloc (.cells c1.toArray T1)).alloc (.cells c2.toArray T2)).alloc (.cells c3.toArray T3)).alloc (.cells c4.toArray T4)).heap.size by omega]; exact r5
theorem ob7.set {TR TI B:Nat} {w:World} {v:Value} {rows:List (List Int)} {g:Nat} {rs:List Nat} (h:ob7 w B TR TI v rows g rs) (hne:TR ≠ TI) {i j:Nat} (hi:i < rows.length) (hi':i < rs.length) (hj:j < rows[i].length) (u:Int) :
  ob7 (w.setCell ⟨rs[i],j,none⟩ (wa7 u)) B TR TI v (rows.set i (rows[i].set j u)) g rs:=by
 obtain ⟨c,k0,k1,k2,k3,k4,k5,k6,k7,k8⟩:=h
 have hz:List.zipWith zfb7 rs (rows.set i (rows[i].set j u)) = List.zipWith zfb7 rs rows:=by
  apply List.ext_getElem
  ·simp
  ·intro n h1 h2
   simp only [List.getElem_zipWith,List.getElem_set]
   split
   ·rename_i e; subst e; unfold zfb7; simp
   ·rfl
 refine ⟨c,by rw [k0]; simp,by simpa using k1,k2,k3, ?_,by simpa using k5,fun n h1 h2 => ?_,k7,k8⟩
 ·rw [hz]
  exact k4.setApart (k6 i hi' hi) hne _ _
 ·simp only [List.getElem_set]
  split
  ·rename_i e; subst e
   have:=(k6 i hi' hi).set (j:=j) (by rw [List.length_map]; exact hj) (wa7 u)
   rwa [← List.map_set] at this
  ·rename_i e
   have hn:n < rows.length:=by simpa using h2
   refine (k6 n h1 hn).setOther (fun e2=>e ?_) _
   exact ((List.getElem_inj k7).1 e2).symm
theorem ob7.keepAll {w w':World} {B TR TI:Nat} {v:Value} {rows:List (List Int)} {g:Nat} {rs:List Nat} (h:ob7 w B TR TI v rows g rs) (h1:w'.heap[g]? = w.heap[g]?) (h2:∀ b ∈ rs,w'.heap[b]? = w.heap[b]?):ob7 w' B TR TI v rows g rs:=by
 obtain ⟨c,k0,k1,k2,k3,k4,k5,k6,k7,k8⟩:=h
 exact ⟨c,k0,k1,k2,k3,k4.keep h1,k5,fun i h h'=>(k6 i h h').keep (h2 _ (List.getElem_mem h)),k7,k8⟩
theorem ob7.open {TR TI B:Nat} {w:World} {v:Value} {rows:List (List Int)} {g:Nat} {rs:List Nat} (h:ob7 w B TR TI v rows g rs):∃ c,v = .slice (some ⟨g,0,none⟩) rows.length c ∧ rs.length = rows.length ∧
  (∀ i (h:i < rows.length) (h':i < rs.length),w.cell? ⟨g,i,none⟩ = some (.slice (some ⟨rs[i],0,none⟩) rows[i].length rows[i].length)) ∧
  (∀ i (h:i < rows.length) (h':i < rs.length),Row w rs[i] TI (rows[i].map wa7) ∧ B ≤ rs[i]):=by
 obtain ⟨c,k0,k1,k2,k3,k4,k5,k6,k7,k8⟩:=h
 refine ⟨c,k0,k5,fun i h h' => ?_,fun i h h'=>⟨k6 i h' h,k8 _ (List.getElem_mem h')⟩⟩
 have:=k4.get (j:=i) (v:=zfb7 rs[i] rows[i]) (by rw [List.getElem?_zipWith,List.getElem?_eq_getElem h',List.getElem?_eq_getElem h])
 exact this
def setAt (l:List (List Int)) (i j:Nat) (u:Int):List (List Int):=l.set i ((l.getD i []).set j u)
def ba7.putCost (x:ba7) (i j:Nat) (u:Int):ba7 := { x with cost:=setAt x.cost i j u }
def ba7.putTime (x:ba7) (i j:Nat) (u:Int):ba7 := { x with time:=setAt x.time i j u }
structure we7 (TS TC TR TI:Nat) (w:World) (B:Nat) (x:ba7) (cs:List Value) (gs cs1 gc cc1 gco cco:Nat) (rco:List Nat) (gti cti:Nat) (rti:List Nat):Prop where
 lit:cs = [.int .i64 x.fin, .int .i64 x.tmany, .int .i64 x.troom, .int .i64 x.bmany, .int .i64 x.broom, .slice (some ⟨gs,0,none⟩) x.sats.length cs1, .slice (some ⟨gc,0,none⟩) x.custs.length cc1, .slice (some ⟨gco,0,none⟩) x.cost.length cco, .slice (some ⟨gti,0,none⟩) x.time.length cti]
 caps:x.sats.length ≤ cs1 ∧ cs1 ≤ maxLen ∧ x.custs.length ≤ cc1 ∧ cc1 ≤ maxLen
 leS:B ≤ gs
 leC:B ≤ gc
 sats:Row w gs TS (x.sats.flatMap eab7)
 custs:Row w gc TC (x.custs.flatMap rn7)
 costs:ob7 w B TR TI (.slice (some ⟨gco,0,none⟩) x.cost.length cco) x.cost gco rco
 times:ob7 w B TR TI (.slice (some ⟨gti,0,none⟩) x.time.length cti) x.time gti rti
 apart:gco ≠ gti
 apart2:∀ a ∈ rco, ∀ b ∈ rti,a ≠ b
section
variable {TS TC TR TI B gs cs1 gc cc1 gco cco gti cti:Nat} {w:World} {x:ba7} {cs:List Value} {rco rti:List Nat}
theorem be7.at (h:be7 TS TC TR TI w B x cs):∃ gs cs1 gc cc1 gco cco rco gti cti rti,we7 TS TC TR TI w B x cs gs cs1 gc cc1 gco cco rco gti cti rti:=by
 obtain ⟨gs,cs1,gc,cc1,vco,vti,gco,rco,gti,rti,k0,k1,k2,k3,k4,k5,k6,k7,k8,k9⟩:=h
 obtain ⟨c,hv, -⟩:=k6.open
 obtain ⟨c',hv', -⟩:=k7.open
 subst hv; subst hv'
 exact ⟨gs,cs1,gc,cc1,gco,c,rco,gti,c',rti,k0,k1,k2,k3,k4,k5,k6,k7,k8,k9⟩
theorem we7.own (h:we7 TS TC TR TI w B x cs gs cs1 gc cc1 gco cco rco gti cti rti):be7 TS TC TR TI w B x cs :=
 ⟨gs,cs1,gc,cc1,_,_,gco,rco,gti,rti,h.lit,h.caps,h.leS,h.leC,h.sats,h.custs,h.costs,h.times,h.apart,h.apart2⟩
theorem we7.drew (h:we7 TS TC TR TI w B x cs gs cs1 gc cc1 gco cco rco gti cti rti):we7 TS TC TR TI w.drew B x cs gs cs1 gc cc1 gco cco rco gti cti rti:=⟨h.lit,h.caps,h.leS,h.leC,h.sats.drew,h.custs.drew,h.costs.keepAll rfl fun _ _=>rfl,h.times.keepAll rfl fun _ _=>rfl,h.apart,h.apart2⟩
theorem we7.below {w':World} (h:we7 TS TC TR TI w B x cs gs cs1 gc cc1 gco cco rco gti cti rti) (hb:Below w.heap.size w w'):we7 TS TC TR TI w' B x cs gs cs1 gc cc1 gco cco rco gti cti rti :=
 ⟨h.lit,h.caps,h.leS,h.leC,h.sats.below hb,h.custs.below hb,h.costs.below hb,h.times.below hb,h.apart,h.apart2⟩
theorem ob7.row {TR TI B:Nat} {w:World} {v:Value} {rows:List (List Int)} {g:Nat} {rs:List Nat} (h:ob7 w B TR TI v rows g rs) {i:Nat} (hi:i < rows.length) :
  w.cell? ⟨g,i,none⟩ = some (.slice (some ⟨rs.getD i 0,0,none⟩) (rows.getD i []).length (rows.getD i []).length) ∧ Row w (rs.getD i 0) TI ((rows.getD i []).map wa7) ∧ B ≤ rs.getD i 0 ∧ rs.getD i 0 ∈ rs:=by
 obtain ⟨c,hv,hrl,hg,hr⟩:=h.open
 have hi':i < rs.length:=by omega
 have e1:rows.getD i [] = rows[i]:=by rw [List.getD_eq_getElem?_getD,List.getElem?_eq_getElem hi]; rfl
 have e2:rs.getD i 0 = rs[i]:=by rw [List.getD_eq_getElem?_getD,List.getElem?_eq_getElem hi']; rfl
 rw [e1,e2]
 exact ⟨hg i hi hi',(hr i hi hi').1,(hr i hi hi').2,List.getElem_mem _⟩
theorem ob7.apart {TR TI B:Nat} {w:World} {v:Value} {rows:List (List Int)} {g:Nat} {rs:List Nat} (h:ob7 w B TR TI v rows g rs) {i i':Nat} (hi:i < rows.length) (hi':i' < rows.length) (hne:i ≠ i'):rs.getD i 0 ≠ rs.getD i' 0:=by
 obtain ⟨c,k0,k1,k2,k3,k4,k5,k6,k7,k8⟩:=h
 rw [List.getD_eq_getElem?_getD,List.getD_eq_getElem?_getD,List.getElem?_eq_getElem (by omega),List.getElem?_eq_getElem (by omega)]
 intro e
 exact hne ((List.getElem_inj k7).1 e)
theorem ob7.setAt {TR TI B:Nat} {w:World} {v:Value} {rows:List (List Int)} {g:Nat} {rs:List Nat} (h:ob7 w B TR TI v rows g rs) (hne:TR ≠ TI) {i j:Nat} (hi:i < rows.length) (hj:j < (rows.getD i []).length) (u:Int) :
  ob7 (w.setCell ⟨rs.getD i 0,j,none⟩ (wa7 u)) B TR TI v (setAt rows i j u) g rs:=by
 have hrl:rs.length = rows.length:=by obtain ⟨c,k0,k1,k2,k3,k4,k5,k6,k7,k8⟩:=h; exact k5
 have hi':i < rs.length:=by omega
 have e1:rows.getD i [] = rows[i]:=by rw [List.getD_eq_getElem?_getD,List.getElem?_eq_getElem hi]; rfl
 have e2:rs.getD i 0 = rs[i]:=by rw [List.getD_eq_getElem?_getD,List.getElem?_eq_getElem hi']; rfl
 unfold Go.Proofs.Ytahffcepagopmaa.setAt
 rw [e1] at hj ⊢
 rw [e2]
 exact h.set hne hi hi' hj u
theorem iq7 (l:List (List Int)) (i j:Nat) (u:Int):(setAt l i j u).length = l.length:=by unfold setAt; simp
theorem we7.setCost (h:we7 TS TC TR TI w B x cs gs cs1 gc cc1 gco cco rco gti cti rti) (n1:TS ≠ TI) (n2:TC ≠ TI) (n3:TR ≠ TI) {i j:Nat} (hi:i < x.cost.length) (hj:j < (x.cost.getD i []).length) (u:Int) :
  we7 TS TC TR TI (w.setCell ⟨rco.getD i 0,j,none⟩ (wa7 u)) B (x.putCost i j u) cs gs cs1 gc cc1 gco cco rco gti cti rti:=by
 obtain ⟨h1,h2,h3,h4⟩:=h.costs.row hi
 have hrt:Row w gti TR (List.zipWith zfb7 rti x.time):=by obtain ⟨_,_,_,_,_,kr,_⟩:=h.times; exact kr
 refine ⟨by rw [h.lit]; simp only [ba7.putCost,iq7],h.caps,h.leS,h.leC,h.sats.setApart h2 n1 _ _,h.custs.setApart h2 n2 _ _, ?_, ?_,h.apart,h.apart2⟩
 ·have:=h.costs.setAt n3 hi hj u
  show ob7 _ B TR TI (.slice _ (setAt x.cost i j u).length _) (setAt x.cost i j u) gco rco
  rw [iq7]; exact this
 ·exact h.times.keepAll (Below.heap_setCell _ _ _ _ (hrt.ne h2 n3)) fun b hb=>Below.heap_setCell _ _ _ _ fun e=>h.apart2 _ h4 b hb e.symm
theorem we7.setTime (h:we7 TS TC TR TI w B x cs gs cs1 gc cc1 gco cco rco gti cti rti) (n1:TS ≠ TI) (n2:TC ≠ TI) (n3:TR ≠ TI) {i j:Nat} (hi:i < x.time.length) (hj:j < (x.time.getD i []).length) (u:Int) :
  we7 TS TC TR TI (w.setCell ⟨rti.getD i 0,j,none⟩ (wa7 u)) B (x.putTime i j u) cs gs cs1 gc cc1 gco cco rco gti cti rti:=by
 obtain ⟨h1,h2,h3,h4⟩:=h.times.row hi
 have hrt:Row w gco TR (List.zipWith zfb7 rco x.cost):=by obtain ⟨_,_,_,_,_,kr,_⟩:=h.costs; exact kr
 refine ⟨by rw [h.lit]; simp only [ba7.putTime,iq7],h.caps,h.leS,h.leC,h.sats.setApart h2 n1 _ _,h.custs.setApart h2 n2 _ _, ?_, ?_,h.apart,h.apart2⟩
 ·exact h.costs.keepAll (Below.heap_setCell _ _ _ _ (hrt.ne h2 n3)) fun a ha=>Below.heap_setCell _ _ _ _ fun e=>h.apart2 a ha _ h4 e
 ·have:=h.times.setAt n3 hi hj u
  show ob7 _ B TR TI (.slice _ (setAt x.time i j u).length _) (setAt x.time i j u) gti rti
  rw [iq7]; exact this
end
def fb7 (row:Option Nat) (W w':World):Prop:=W.heap.size ≤ w'.heap.size ∧ ∀ b,b < W.heap.size → some b ≠ row → w'.heap[b]? = W.heap[b]?
instance (row:Option Nat) (W:World):Nonempty (At (fb7 row W)):=⟨⟨W,Nat.le_refl _,fun _ _ _=>rfl⟩⟩
theorem fb7.cell {row:Option Nat} {W w':World} (h:fb7 row W w') {a:Addr} {v:Value} (hc:W.cell? a = some v) (hne:some a.block ≠ row):w'.cell? a = some v:=by
 rw [World.cell?_of_block (h.2 _ (ez7 hc) hne)]; exact hc
theorem fb7.refl (row:Option Nat) (W:World):fb7 row W W:=⟨Nat.le_refl _,fun _ _ _=>rfl⟩
theorem fb7.drew {row:Option Nat} {W w':World} (h:fb7 row W w'):fb7 row W w'.drew:=h
theorem fb7.below {row:Option Nat} {W w1 w2:World} (h:fb7 row W w1) (hb:Below w1.heap.size w1 w2):fb7 row W w2:=⟨Nat.le_trans h.1 hb.size,fun b hb' hne=>(hb.block b (Nat.lt_of_lt_of_le hb' h.1)).trans (h.2 b hb' hne)⟩
theorem fb7.grown {row:Option Nat} {W w1 w2:World} (h:fb7 row W w1) (hg:w1.grownBy w2 row):fb7 row W w2:=⟨Nat.le_trans h.1 hg.size,fun b hb' hne=>(hg.block b (Nat.lt_of_lt_of_le hb' h.1) hne).trans (h.2 b hb' hne)⟩
theorem ly7 {w:World} {B T n k b:Nat} {v:Value} {xs:List Value} (h:w.ownsRow B T k v n xs) (hb:b < B):some b ≠ v.ownBlock:=fun e=>by have:=(h.lt b e.symm).1; omega
theorem pb7 {w:World} {B T n k g:Nat} {v:Value} {xs:List Value} {e:TypeId} {cs:List Value} (h:w.ownsRow B T k v n xs) (hr:Row w g e cs) (he:e ≠ T):some g ≠ v.ownBlock:=fun e'=>by obtain ⟨cs',hc'⟩:=gg7 h e'.symm; exact hr.ne hc' he rfl
theorem ze7 (w:World) (a:Addr) (u:Value):w.grownBy (w.setCell a u) (some a.block):=⟨rfl,rfl,rfl,by simp [World.setCell],fun k _ hk=>Below.heap_setCell _ _ _ _ (fun e=>hk (by rw [e]))⟩
theorem ma7 {w:World} {B T n k g:Nat} {v:Value} {xs:List Value} {e:TypeId} {cs:List Value} (h:w.ownsRow B T k v n xs) (hr:Row w g e cs) (he:e ≠ T) (j:Nat) (u:Value):(w.setCell ⟨g,j,none⟩ u).ownsRow B T k v n xs :=
 h.kept (ze7 w ⟨g,j,none⟩ u) (.inr fun e'=>pb7 h hr he e'.symm)
theorem Row.makeF {w:World} {n:Nat} {e:TypeId}:Row (w.alloc (.cells (Array.replicate n (gcc7 0)) e)) w.heap.size e ((List.replicate n 0).map gcc7):=by
 have:=Row.new (w:=w) (e:=e) (cs:=(List.replicate n 0).map gcc7) rfl
 simpa using this
theorem nh7 {α:Type} (S:Shape α) {h0:0 < S.sz} (w:World) (F:Nat → Prop):(la7 S h0).rep w F [] [.slice none 0 0] :=
 ⟨none,0,0,0,rfl,Nat.le_refl _,Nat.zero_le _,fun h=>absurd h (Nat.not_lt_zero _),fun i h=>absurd h (Nat.not_lt_zero _)⟩
structure kw7 where
 frm:Nat
 dst:Nat
 wt:Int
 deriving DecidableEq
structure mb7 where
 n:Nat
 arcs:List kw7
 deriving DecidableEq
def zub7 (s:kw7):List Value:=[.int .i64 s.frm, .int .i64 s.dst, .int .i64 s.wt]
def bqb7:Shape kw7:=oc7 3 (fun x cs=>cs = zub7 x) (by rintro x cs rfl; rfl)
def tn7:Shape mb7 where
 sz:=2
 rep:=fun w F x cs => ∃ v,cs = [.int .i64 (x.n:Int),v] ∧ (la7 bqb7).rep w F x.arcs [v]
 len:=by rintro w F x cs ⟨v,rfl,_⟩; rfl
 keep:=by rintro w w' F x cs ⟨v,rfl,h⟩ ha; exact ⟨v,rfl,(la7 bqb7).keep h ha⟩
 weak:=by rintro w F G x cs ⟨v,rfl,h⟩ ha; exact ⟨v,rfl,(la7 bqb7).weak h ha⟩
 lt:=by rintro w F x cs ⟨v,rfl,h⟩; exact ⟨v,rfl,(la7 bqb7).lt h⟩
theorem hp7 {w:World} {F:Nat → Prop} {xs:List kw7} {cs:List Value} (h:(la7 bqb7).rep w F xs cs) :
  ∃ (a:Option Addr) (b off c:Nat),cs = [.slice a xs.length c] ∧ xs.length ≤ c ∧ c ≤ 9223372036854775807 ∧ (0 < xs.length → a = some ⟨b,off,none⟩) ∧ (0 < xs.length → F b) ∧
   (∀ k (h:k < xs.length),w.cell? ⟨b,off + k * 3,none⟩ = some (.int .i64 xs[k].frm) ∧ w.cell? ⟨b,off + k * 3 + 1,none⟩ = some (.int .i64 xs[k].dst) ∧ w.cell? ⟨b,off + k * 3 + 2,none⟩ = some (.int .i64 xs[k].wt)):=by
 obtain ⟨a,b,off,c,rfl,h1,h2,h3,h4⟩:=h
 refine ⟨a,b,off,c,rfl,h1,h2,fun h=>(h3 h).1,fun h=>(h3 h).2,fun k hk => ?_⟩
 obtain ⟨es,rfl,hc⟩:=h4 k hk
 have e0:=hc 0 (by decide)
 have e1:=hc 1 (by decide)
 have e2:=hc 2 (by decide)
 exact ⟨by simpa [bqb7,oc7,zub7] using e0,by simpa [bqb7,oc7,zub7] using e1,by simpa [bqb7,oc7,zub7] using e2⟩
theorem rdb7:∀ w,(sizeOf 146).run Try.prog w = .ok 3 w:=fun w=>by kernel_rfl
structure zeb7 (g:mb7):Prop where
 n:g.n ≤ 1000
 len:g.arcs.length ≤ 20000
 arc:∀ a ∈ g.arcs,a.frm < a.dst ∧ a.dst < g.n ∧ 0 ≤ a.wt ∧ a.wt ≤ 1099511627776
theorem kyb7 {w:World} {n:Nat} {v:Value} {i:Nat} (hi:i < n) :
  Calls Try.prog 78 #[.agg #[.int .i64 (n:Int),v], .int .i64 (i:Int)] w fun e w'=>e = .returned (.bool true) ∧ Below w.heap.size w w':=by
 have h1:(i:Int) < (n:Int):=by omega
 have h0:(0:Int) ≤ (i:Int):=by omega
 go_enter Try.func78,Try.ntmps78
 go_wp2
 go_ret
 exact ⟨rfl,(Below.refl _ _).alloc (Nat.le_refl _) _⟩
theorem ls7 {w:World} {F:Nat → Prop} {g:mb7} {cs:List Value} (h:tn7.rep w F g cs) (hg:zeb7 g) :
  Calls Try.prog 66 #[.agg cs.toArray] w fun e w'=>e = .returned (.int .i64 0) ∧ Below w.heap.size w w':=by
 obtain ⟨v,rfl,h⟩:=h
 obtain ⟨a,b,off,c,hs, -, -,ha, -,hcell⟩:=hp7 h
 obtain rfl:=List.cons.inj hs |>.1
 have HCELL:=hid hcell
 have HG:=hid hg
 have hn:(g.n:Int) ≤ 1000:=by have:=hg.n; omega
 have hl:(g.arcs.length:Int) ≤ 20000:=by have:=hg.len; omega
 clear hs h hcell hg
 go_enter Try.func66,Try.ntmps66
 go_wp2
 go_loopw [22] (fun i wr => ∃ k:Nat,k ≤ g.arcs.length ∧ i = .int .i64 k ∧ Below w.heap.size w wr ∧ Row wr w.heap.size 116 [.int .i64 (g.n:Int), .slice a g.arcs.length c]) (fun i _=>g.arcs.length - (intOf i).toNat)
 case atStart=>exact ⟨0,Nat.zero_le _,rfl,(Below.refl _ _).alloc (Nat.le_refl _) _,Row.new rfl⟩
 case round =>
  obtain ⟨k,hk,rfl,hb,R⟩:=hrel
  obtain ⟨wq,rfl⟩:∃ wq:World,wq = wr:=⟨_,rfl⟩
  by_cases hlt:k < g.arcs.length
  ·have hx:=lb7 (c:=c) Try.underlying114 rdb7 (ha (by omega)) hlt
   obtain ⟨g0,g1,g2⟩:=HCELL.out k hlt
   have p0:=aa7 hb g0
   have p1:=aa7 hb g1
   have p2:=aa7 hb g2
   obtain ⟨f1,f2,f3,f4⟩:=HG.out.arc _ (List.getElem_mem hlt)
   obtain ⟨ar,har⟩:∃ ar,ar = g.arcs[k]:=⟨_,rfl⟩
   rw [← har] at p0 p1 p2 f1 f2 f3 f4
   obtain ⟨x1,x2,x3⟩:=ar
   simp only [] at p0 p1 p2 f1 f2 f3 f4
   have hal:Below wq.heap.size wq (wq.alloc (.cells #[.int .i64 (x1:Int), .int .i64 (x2:Int), .int .i64 x3] 146)):=(Below.refl _ _).alloc (Nat.le_refl _) _
   have RA:=Row.new (w:=wq) (g:=wq.heap.size) (e:=146) (cs:=[.int .i64 (x1:Int), .int .i64 (x2:Int), .int .i64 x3]) rfl
   have R1:=R.below hal
   have hb1:=ca7 hb hal
   clear har g0 g1 g2
   go_upto_region 6 with fail
   generalize wq.alloc (.cells #[.int .i64 (x1:Int), .int .i64 (x2:Int), .int .i64 x3] 146) = wa at *
   obtain ⟨q0,q1⟩:=mc7 R1
   have a0:=RA.cell (j:=0) (by simp)
   have a1:=RA.cell (j:=1) (by simp)
   have a2:=RA.cell (j:=2) (by simp)
   simp only [List.getElem_cons_zero,List.getElem_cons_succ] at a0 a1 a2
   go_wp2_with fail
   refine (kyb7 (by omega)).mono ?_
   rintro e w1 ⟨rfl,hb2⟩
   have RA1:=RA.below hb2
   have R2:=R1.below hb2
   obtain ⟨q0,q1⟩:=mc7 R2
   have a0:=RA1.cell (j:=0) (by simp)
   have a1:=RA1.cell (j:=1) (by simp)
   have a2:=RA1.cell (j:=2) (by simp)
   simp only [List.getElem_cons_zero,List.getElem_cons_succ] at a0 a1 a2
   go_wp2_with fail
   refine (kyb7 f2).mono ?_
   rintro e w2 ⟨rfl,hb3⟩
   have RA2:=RA1.below hb3
   have R3:=R2.below hb3
   have hb4:=ca7 (ca7 hb1 hb2) hb3
   have a2:=RA2.cell (j:=2) (by simp)
   simp only [List.getElem_cons_zero,List.getElem_cons_succ] at a2
   clear R R1 R2 RA RA1 RA2 hb1 hb2 hb3 hal q0 q1 p0 p1 p2
   go_wp2
   go_roundw
   case rel=>exact ⟨k + 1,by omega,by go_num,hb4,R3⟩
   case measure=>simp [intOf]; omega
  ·have hke:k = g.arcs.length:=by omega
   subst hke
   go_wp2
   go_ret
   exact ⟨rfl,hb⟩
def ab7 (g:mb7) (k:Nat):kw7:=g.arcs.getD k ⟨0,0,0⟩
def dh7 (g:mb7) (i k:Nat):List Nat:=(List.range k).filter fun j=>(ab7 g j).frm == i
def fw7 (k:Nat):Value := .int .i64 (k:Int)
theorem oob7 {g:mb7} {i k:Nat} (h:(ab7 g k).frm = i):dh7 g i (k + 1) = dh7 g i k ++ [k]:=by
 unfold dh7; rw [List.range_succ,List.filter_append]; simp [h]
theorem rrb7 {g:mb7} {i k:Nat} (h:(ab7 g k).frm ≠ i):dh7 g i (k + 1) = dh7 g i k:=by
 unfold dh7; rw [List.range_succ,List.filter_append]; simp [h]
theorem xv7 (g:mb7) (i k:Nat):(dh7 g i k).length ≤ k:=by
 have:=List.length_filter_le (fun j=>(ab7 g j).frm == i) (List.range k); rw [List.length_range] at this; exact this
theorem yd7 {g:mb7} {k:Nat} (h:k < g.arcs.length):ab7 g k = g.arcs[k]:=by
 unfold ab7; rw [List.getD_eq_getElem?_getD,List.getElem?_eq_getElem h]; rfl
theorem gx7 {w:World} {F:Nat → Prop} {g:mb7} {cs:List Value} (h:tn7.rep w F g cs) (hl:g.arcs.length ≤ 20000) (i:Nat) :
  Calls Try.prog 70 #[.agg cs.toArray, .int .i64 (i:Int)] w fun e w' => ∃ v,e = .returned v ∧ w'.ownsRow w.heap.size 3 1 v (dh7 g i g.arcs.length).length ((dh7 g i g.arcs.length).map fw7) ∧ Below w.heap.size w w':=by
 obtain ⟨v,rfl,h⟩:=h
 obtain ⟨a,b,off,c,hs, -, -,ha, -,hcell⟩:=hp7 h
 obtain rfl:=List.cons.inj hs |>.1
 have HCELL:=hid hcell
 have hli:(g.arcs.length:Int) ≤ 20000:=by omega
 clear hs h hcell
 go_enter Try.func70,Try.ntmps70
 go_wp2
 go_loopw [5,11] (fun ov kv wr => ∃ (k:Nat) (ao:Option Addr) (cp:Nat),k ≤ g.arcs.length ∧ kv = .int .i64 k ∧ ov = .slice ao (dh7 g i k).length cp ∧ wr.ownsRow w.heap.size 3 1 (.slice ao (dh7 g i k).length cp) (dh7 g i k).length ((dh7 g i k).map fw7) ∧
   Below w.heap.size w wr ∧ Row wr w.heap.size 116 [.int .i64 (g.n:Int), .slice a g.arcs.length c]) (fun _ kv _=>g.arcs.length - (intOf kv).toNat)
 case atStart=>exact ⟨0,none,0,Nat.zero_le _,rfl,rfl,World.ownsRow_nil _ _ _ _,(Below.refl _ _).alloc (Nat.le_refl _) _,Row.new rfl⟩
 case round =>
  obtain ⟨k,ao,cp,hk,rfl,rfl,hown,hb,R⟩:=hrel
  obtain ⟨wq,rfl⟩:∃ wq:World,wq = wr:=⟨_,rfl⟩
  by_cases hlt:k < g.arcs.length
  ·have hx:=lb7 (c:=c) Try.underlying114 rdb7 (ha (by omega)) hlt
   obtain ⟨g0,g1,g2⟩:=HCELL.out k hlt
   have p0:=aa7 hb g0
   have p1:=aa7 hb g1
   have p2:=aa7 hb g2
   obtain ⟨ar,har⟩:∃ ar,ar = g.arcs[k]:=⟨_,rfl⟩
   have har2:ab7 g k = ar:=by rw [har]; exact yd7 hlt
   rw [← har] at p0 p1 p2
   obtain ⟨x1,x2,x3⟩:=ar
   simp only [] at p0 p1 p2
   have hal:Below wq.heap.size wq (wq.alloc (.cells #[.int .i64 (x1:Int), .int .i64 (x2:Int), .int .i64 x3] 146)):=(Below.refl _ _).alloc (Nat.le_refl _) _
   have HR1:=hid (R.below hal)
   have HB1:=hid (ca7 hb hal)
   have HO1:=hid (oa7 hown hal)
   have hsz:=hb.size
   have hol:=xv7 g i k
   by_cases e:x1 = i
   ·have e1:((x1:Int) == (i:Int)) = true:=by simp [e]
    have HU:=hid (oob7 (g:=g) (i:=i) (k:=k) (by rw [har2]; exact e))
    clear har har2 g0 g1 g2 R hown hb e hal
    obtain ⟨i1,hi,hz0',hz1',hz2'⟩:=info_parts ph7
    obtain ⟨ol,hole⟩:∃ ol,ol = (dh7 g i k).length:=⟨_,rfl⟩
    rw [← hole] at HO1 hol ⊢
    have HOL:=hid hole
    clear hole
    go_upto_region 6 with fail
    generalize wq.alloc (.cells #[.int .i64 (x1:Int), .int .i64 (x2:Int), .int .i64 x3] 146) = wa at *
    have hown1:=HO1.out.alloc (.cells #[.int .i64 k] 3)
    have hwa:=HB1.out.size
    go_wp2_with (at_builtin; refine wpList_append_own _ rfl _ _ 57 rfl w.heap.size 3 i1 (.int .i64 0) 1 8 Try.underlying57 hi hz0' hz1' hz2' rfl (by decide) _ _ _ rfl hown1 ⟨wa.heap.size,0,none⟩ 1 1 [.int .i64 (k:Int)] rfl rfl ?c1 ?c2 ?c3 ?c4 ?c5 ?_)
    case c1=>exact cell_one_new _ _ _
    case c2=>intro u hu; simp at hu; subst hu; rfl
    case c3=>unfold maxLen; omega
    case c4=>omega
    case c5=>simp; omega
    intro v' w2 hown' hgrow _
    obtain ⟨ao',cp',hv', -, -⟩:=ka7 hown'
    subst hv'
    have HB2:=hid (gb7 (w:=wa.alloc (.cells #[.int .i64 k] 3)) (HB1.out.alloc hwa _) hown1 (by simp; omega) (Nat.le_refl _) hgrow)
    have HR2:=hid ((HR1.out.alloc (.cells #[.int .i64 k] 3)).grown hown1 (by decide) hgrow)
    have HO2:=hid (show w2.ownsRow w.heap.size 3 1 (.slice ao' (dh7 g i (k + 1)).length cp') (dh7 g i (k + 1)).length ((dh7 g i (k + 1)).map fw7) from by
     rw [HU.out,List.length_append,List.length_singleton, ← HOL.out,List.map_append]; exact hown')
    have HL:=hid (show ol + 1 = (dh7 g i (k + 1)).length from by rw [HU.out,List.length_append,List.length_singleton, ← HOL.out])
    clear hown' hgrow hown1 hi hz0' hz1' hz2'
    go_wp2
    go_roundw
    case rel=>exact ⟨k + 1,ao',cp',by omega,by go_num,by rw [HL.out],HO2.out,HB2.out,HR2.out⟩
    case measure=>simp [intOf]; omega
   ·have e1:((x1:Int) == (i:Int)) = false:=by simp; omega
    have HU:=hid (rrb7 (g:=g) (i:=i) (k:=k) (by rw [har2]; exact e))
    clear har har2 g0 g1 g2 R hown hb e hal
    obtain ⟨ol,hole⟩:∃ ol,ol = dh7 g i k:=⟨_,rfl⟩
    rw [← hole] at HO1 hol HU ⊢
    clear hole
    go_wp2
    go_roundw
    case rel=>exact ⟨k + 1,ao,cp,by omega,by go_num,by rw [HU.out],by rw [HU.out]; exact HO1.out,HB1.out,HR1.out⟩
    case measure=>simp [intOf]; omega
  ·have hke:k = g.arcs.length:=by omega
   subst hke
   go_wp2
   go_ret
   exact ⟨_,rfl,hown,hb⟩
def vb7 (out:List (List da7)) (s:da7):List (List da7):=out.set (out.length - 1) (out.getD (out.length - 1) [] ++ [s])
def stopV (s:da7):List Value:=[.int .i64 s.sat, .int .i64 s.load]
theorem sm7 (l:List da7):(l.flatMap stopV).length = l.length * 2:=by
 induction l with
 | nil=>rfl
 | cons a l ih=>rw [List.flatMap_cons,List.length_append,ih,List.length_cons]; show 2 + _ = _; omega
structure ai7 (TT TS:Nat) (w:World) (B:Nat) (v:Value) (out:List (List da7)) (vs:List Value):Prop where
 own:w.ownsRow B TT 1 v out.length vs
 len:vs.length = out.length
 rows:∀ i (h:i < out.length) (h':i < vs.length),w.ownsRow B TS 2 vs[i] out[i].length (out[i].flatMap stopV)
 apart:∀ i j (hi:i < vs.length) (hj:j < vs.length),i ≠ j → vs[i].ownBlock = none ∨ vs[i].ownBlock ≠ vs[j].ownBlock
theorem ai7.nil (TT TS:Nat) (w:World) (B:Nat):ai7 TT TS w B (.slice none 0 0) [] [] :=
 ⟨World.ownsRow_nil _ _ _ _,rfl,fun _ h=>absurd h (Nat.not_lt_zero _),fun _ _ h=>absurd h (Nat.not_lt_zero _)⟩
theorem ai7.below {TT TS:Nat} {w w':World} {B:Nat} {v:Value} {out:List (List da7)} {vs:List Value} (h:ai7 TT TS w B v out vs) (hb:Below w.heap.size w w'):ai7 TT TS w' B v out vs :=
 ⟨oa7 h.own hb,h.len,fun i h1 h2=>oa7 (h.rows i h1 h2) hb,h.apart⟩
theorem db7 {w:World} {B B' T T' n n' k k':Nat} {v v':Value} {xs xs':List Value} (h:w.ownsRow B T k v n xs) (h':w.ownsRow B' T' k' v' n' xs') (hne:T ≠ T'):v.ownBlock = none ∨ v.ownBlock ≠ v'.ownBlock:=by
 cases e:v.ownBlock with
 | none=>exact .inl rfl
 | some g =>
  obtain ⟨cs,hc⟩:=gg7 h e
  exact .inr fun e'=>(pb7 h' hc hne) e'
theorem ai7.push {TT TS:Nat} {w w':World} {B:Nat} {v v':Value} {out:List (List da7)} {vs:List Value} (h:ai7 TT TS w B v out vs) (hne:TS ≠ TT) (hg:w.grownBy w' v.ownBlock)
  (ho:w'.ownsRow B TT 1 v' (out.length + 1) (vs ++ [.slice none 0 0])):ai7 TT TS w' B v' (out ++ [[]]) (vs ++ [.slice none 0 0]):=by
 refine ⟨by rw [List.length_append]; exact ho,by simp [h.len],fun i h1 h2 => ?_,fun i j hi hj hij => ?_⟩
 ·by_cases hl:i < out.length
  ·have hl':i < vs.length:=by rw [h.len]; exact hl
   rw [List.getElem_append_left hl',List.getElem_append_left hl]
   exact (h.rows i hl hl').kept hg (db7 (h.rows i hl hl') h.own hne)
  ·have:i = out.length:=by simp at h1; omega
   subst this
   have e1:(vs ++ [Value.slice none 0 0])[out.length]'h2 = .slice none 0 0:=by rw [List.getElem_append_right (by rw [h.len]; exact Nat.le_refl _)]; simp [h.len]
   have e2:(out ++ [[]])[out.length]'h1 = []:=by rw [List.getElem_append_right (Nat.le_refl _)]; simp
   rw [e1,e2]
   exact World.ownsRow_nil _ _ _ _
 ·have key:∀ i (hi:i < (vs ++ [Value.slice none 0 0]).length),((vs ++ [Value.slice none 0 0])[i]).ownBlock = none ∨ ∃ hi':i < vs.length,(vs ++ [Value.slice none 0 0])[i] = vs[i]:=fun i hi=>by
   by_cases hl:i < vs.length
   ·exact .inr ⟨hl,List.getElem_append_left hl⟩
   ·refine .inl ?_
    rw [List.getElem_append_right (by omega)]
    simp only [List.getElem_singleton]; rfl
  rcases key i hi with h1 | ⟨h1,e1⟩
  ·exact .inl h1
  ·rcases key j hj with h2 | ⟨h2,e2⟩
   ·rw [e1,h2]
    cases e:vs[i].ownBlock with
    | none=>exact .inl rfl
    | some g=>exact .inr (by simp)
   ·rw [e1,e2]; exact h.apart i j h1 h2 hij
theorem agb7 {w:World} {B T n g cap:Nat} {xs:List Value} (h:w.ownsRow B T 1 (.slice (some ⟨g,0,none⟩) n cap) n xs) (j:Nat) (u:Value):(w.setCell ⟨g,j,none⟩ u).ownsRow B T 1 (.slice (some ⟨g,0,none⟩) n cap) n (xs.set j u) ∧ w.grownBy (w.setCell ⟨g,j,none⟩ u) (some g) :=
 h.stored j u
theorem ai7.stop {TT TS:Nat} {w w1:World} {B g cap:Nat} {out:List (List da7)} {vs:List Value} {u:Value} {s:da7} (h:ai7 TT TS w B (.slice (some ⟨g,0,none⟩) out.length cap) out vs) (hne:TS ≠ TT) (hpos:0 < out.length)
  (hg:w.grownBy w1 (vs.getD (out.length - 1) undef).ownBlock) (hu:w1.ownsRow B TS 2 u ((out.getD (out.length - 1) []).length + 1) ((out.getD (out.length - 1) []).flatMap stopV ++ stopV s))
  (hat:u.ownBlock = (vs.getD (out.length - 1) undef).ownBlock ∨ ∃ b,u.ownBlock = some b ∧ w.heap.size ≤ b) :
  ai7 TT TS (w1.setCell ⟨g,out.length - 1,none⟩ u) B (.slice (some ⟨g,0,none⟩) (vb7 out s).length cap) (vb7 out s) (vs.set (out.length - 1) u):=by
 have hl:out.length - 1 < out.length:=by omega
 have hl':out.length - 1 < vs.length:=by rw [h.len]; exact hl
 have ev:vs.getD (out.length - 1) undef = vs[out.length - 1]:=by rw [List.getD_eq_getElem?_getD,List.getElem?_eq_getElem hl']; rfl
 have eo:out.getD (out.length - 1) [] = out[out.length - 1]:=by rw [List.getD_eq_getElem?_getD,List.getElem?_eq_getElem hl]; rfl
 rw [ev] at hg hat
 have hrow:=h.rows _ hl hl'
 have howngrow:w1.ownsRow B TT 1 (.slice (some ⟨g,0,none⟩) out.length cap) out.length vs:=h.own.kept hg (db7 h.own hrow (Ne.symm hne))
 have hst:=agb7 howngrow (out.length - 1) u
 have hlen:(vb7 out s).length = out.length:=by unfold vb7; simp
 have hug:u.ownBlock = none ∨ u.ownBlock ≠ some g:=by
  have:=db7 hu howngrow hne
  exact this
 refine ⟨by rw [hlen]; exact hst.1,by rw [List.length_set,h.len,hlen],fun i h1 h2 => ?_,fun i j hi hj hij => ?_⟩
 ·have hi:i < out.length:=by rw [hlen] at h1; exact h1
  have hi':i < vs.length:=by rw [h.len]; exact hi
  by_cases e:out.length - 1 = i
  ·subst e
   have e1:(vs.set (out.length - 1) u)[out.length - 1]'h2 = u:=by simp
   have e2:(vb7 out s)[out.length - 1]'h1 = out.getD (out.length - 1) [] ++ [s]:=by simp [vb7]
   rw [e1,e2,List.flatMap_append,List.length_append]
   have:=hu.kept hst.2 hug
   simpa using this
  ·have e1:(vs.set (out.length - 1) u)[i]'h2 = vs[i]:=by rw [List.getElem_set_ne e]
   have e2:(vb7 out s)[i]'h1 = out[i]:=by simp only [vb7,List.getElem_set,if_neg e]
   rw [e1,e2]
   have k1:=(h.rows i hi hi').kept hg (h.apart i _ hi' hl' (Ne.symm e))
   exact k1.kept hst.2 (db7 k1 howngrow hne)
 ·have hlt:∀ i (hi:i < vs.length) b,vs[i].ownBlock = some b → b < w.heap.size:=fun i hi b hb=>((h.rows i (by rw [← h.len]; exact hi) hi).lt b hb).2
  simp only [List.length_set] at hi hj
  simp only [List.getElem_set]
  split
  ·rename_i ei
   split
   ·omega
   ·rename_i ej
    rcases hat with e | ⟨b,e,hb⟩
    ·rw [e]; exact h.apart _ j hl' hj ej
    ·refine .inr fun e' => ?_
     have:=hlt j hj b (by rw [← e',e]); omega
  ·rename_i ei
   split
   ·rename_i ej
    rcases hat with e | ⟨b,e,hb⟩
    ·rw [e]; exact h.apart i _ hi hl' (by omega)
    ·refine .inr fun e' => ?_
     have:=hlt i hi b (by rw [e',e]); omega
   ·exact h.apart i j hi hj hij
theorem ai7.rep {TT TS:Nat} {w:World} {B:Nat} {v:Value} {out:List (List da7)} {vs:List Value} (h:ai7 TT TS w B v out vs) (hw:∀ t ∈ out, ∀ s ∈ t,ua7 s.sat ∧ ua7 s.load):vo7.rep w (fun b=>B ≤ b) out [v]:=by
 have hr:∀ i (h1:i < out.length) (h2:i < vs.length),(la7 ci7).rep w (fun b=>B ≤ b) out[i] [vs[i]]:=fun i h1 h2 =>
  uab7 (S:=ci7) stopV (fun _=>rfl) (fun s hs=>⟨rfl,hw _ (List.getElem_mem h1) s hs⟩) (h.rows i h1 h2)
 rcases h.own.2 with ⟨rfl,hn⟩ | ⟨g,cap,cur,rfl,hg,hh,hn1,hc,hsz,ht⟩
 ·have:out = []:=List.eq_nil_of_length_eq_zero hn
  subst this
  exact nh7 _ _ _
 ·have hR:Row w g TT vs:=⟨cur,cur.toList.drop (out.length * 1),hh,by rw [← ht,List.take_append_drop]⟩
  refine ur7 (S:=la7 ci7) (T:=TT) (vs.map fun v=>[v]) (by simp [h.len]) (fun v hv=>by obtain ⟨u,_,rfl⟩:=List.mem_map.1 hv; rfl) (fun i h1 h2 => ?_) ?_ hn1 hc hg
  ·rw [List.getElem_map]; exact hr i h1 _
  ·have:(vs.map fun v=>[v]).flatten = vs:=by
    clear hR ht hr h
    induction vs with
    | nil=>rfl
    | cons a l ih=>rw [List.map_cons,List.flatten_cons,ih]; rfl
   rw [this]; exact hR
def pd7:List pa7 → List Value → List Value
 | b :: out,u :: vs => .int .i64 b.sat :: u :: pd7 out vs
 | _,_=>[]
theorem pe7:∀ (out:List pa7) (vs:List Value),vs.length = out.length → (pd7 out vs).length = out.length * 2
 | [],[],_=>rfl
 | b :: out,u :: vs,h=>by
  have:=pe7 out vs (by simpa using h)
  simp only [pd7,List.length_cons,this]; omega
 | [],_ :: _,h=>by cases h
 | _ :: _,[],h=>by cases h
theorem fu7:∀ (out:List pa7) (vs:List Value) (b:pa7) (u:Value),vs.length = out.length → pd7 (out ++ [b]) (vs ++ [u]) = pd7 out vs ++ [.int .i64 b.sat,u]
 | [],[],_,_,_=>rfl
 | a :: out,v :: vs,b,u,h=>by
  have:=fu7 out vs b u (by simpa using h)
  simp only [List.cons_append,pd7,this]
 | [],_ :: _,_,_,h=>by cases h
 | _ :: _,[],_,_,h=>by cases h
theorem dg7:∀ (out:List pa7) (vs:List Value) (k:Nat) (h:k < out.length) (h':k < vs.length),(pd7 out vs)[2 * k]? = some (.int .i64 out[k].sat) ∧ (pd7 out vs)[2 * k + 1]? = some vs[k]
 | a :: out,v :: vs,0,_,_=>⟨rfl,rfl⟩
 | a :: out,v :: vs,k + 1,h,h'=>by
  have:=dg7 out vs k (by simpa using h) (by simpa using h')
  simp only [pd7,show 2 * (k + 1) = 2 * k + 1 + 1 by omega,List.getElem?_cons_succ,List.getElem_cons_succ]
  exact this
 | [],_,_,h,_=>absurd h (Nat.not_lt_zero _)
 | _ :: _,[],_,_,h=>absurd h (Nat.not_lt_zero _)
theorem cn7:∀ (out:List pa7) (vs:List Value) (k:Nat) (_:k < out.length) (_:vs.length = out.length) (b:pa7) (u:Value),pd7 (out.set k b) (vs.set k u) = ((pd7 out vs).set (2 * k) (.int .i64 b.sat)).set (2 * k + 1) u
 | a :: out,v :: vs,0,_,_,b,u=>rfl
 | a :: out,v :: vs,k + 1,h,h',b,u=>by
  have:=cn7 out vs k (by simpa using h) (by simpa using h') b u
  simp only [pd7,List.set_cons_succ,this,show 2 * (k + 1) = 2 * k + 1 + 1 by omega]
 | [],_,_,h,_,_,_=>absurd h (Nat.not_lt_zero _)
 | _ :: _,[],_,_,h,_,_=>by cases h
theorem zm7 {α:Type} {l:List α} {k:Nat} {v:α} (h:l[k]? = some v):l.set k v = l:=by
 apply List.ext_getElem?
 intro i
 rw [List.getElem?_set]
 split
 ·rename_i e; subst e
  split
  ·exact h.symm
  ·rename_i hl; rw [List.getElem?_eq_none (by omega)]
 ·rfl
structure ji7 (TB TI:Nat) (w:World) (B:Nat) (v:Value) (out:List pa7) (vs:List Value):Prop where
 own:w.ownsRow B TB 2 v out.length (pd7 out vs)
 len:vs.length = out.length
 rows:∀ i (h:i < out.length) (h':i < vs.length),w.ownsRow B TI 1 vs[i] out[i].stops.length (out[i].stops.map wa7)
 apart:∀ i j (hi:i < vs.length) (hj:j < vs.length),i ≠ j → vs[i].ownBlock = none ∨ vs[i].ownBlock ≠ vs[j].ownBlock
theorem ji7.nil (TB TI:Nat) (w:World) (B:Nat):ji7 TB TI w B (.slice none 0 0) [] [] :=
 ⟨World.ownsRow_nil _ _ _ _,rfl,fun _ h=>absurd h (Nat.not_lt_zero _),fun _ _ h=>absurd h (Nat.not_lt_zero _)⟩
theorem ji7.below {TB TI:Nat} {w w':World} {B:Nat} {v:Value} {out:List pa7} {vs:List Value} (h:ji7 TB TI w B v out vs) (hb:Below w.heap.size w w'):ji7 TB TI w' B v out vs :=
 ⟨oa7 h.own hb,h.len,fun i h1 h2=>oa7 (h.rows i h1 h2) hb,h.apart⟩
theorem ji7.blockLt {TB TI:Nat} {w:World} {B:Nat} {v:Value} {out:List pa7} {vs:List Value} (h:ji7 TB TI w B v out vs):∀ i (hi:i < vs.length) b,vs[i].ownBlock = some b → b < w.heap.size:=fun i hi b hb =>
 ((h.rows i (by rw [← h.len]; exact hi) hi).lt b hb).2
theorem ji7.kept {TB TI:Nat} {w w':World} {B:Nat} {v:Value} {out:List pa7} {vs:List Value} {row:Option Nat} (h:ji7 TB TI w B v out vs) (hg:w.grownBy w' row) (h1:v.ownBlock = none ∨ v.ownBlock ≠ row) (h2:∀ i (hi:i < vs.length),vs[i].ownBlock = none ∨ vs[i].ownBlock ≠ row):ji7 TB TI w' B v out vs :=
 ⟨h.own.kept hg h1,h.len,fun i k1 k2=>(h.rows i k1 k2).kept hg (h2 i k2),h.apart⟩
theorem ji7.push {TB TI:Nat} {w w':World} {B:Nat} {v v' u:Value} {out:List pa7} {vs:List Value} {b:pa7} (h:ji7 TB TI w B v out vs) (hne:TI ≠ TB) (hg:w.grownBy w' v.ownBlock)
  (ho:w'.ownsRow B TB 2 v' (out.length + 1) (pd7 out vs ++ [.int .i64 b.sat,u])) (hu:w.ownsRow B TI 1 u b.stops.length (b.stops.map wa7))
  (ha:∀ i (hi:i < vs.length),(vs[i].ownBlock = none ∨ vs[i].ownBlock ≠ u.ownBlock) ∧ (u.ownBlock = none ∨ u.ownBlock ≠ vs[i].ownBlock)):ji7 TB TI w' B v' (out ++ [b]) (vs ++ [u]):=by
 refine ⟨by rw [fu7 _ _ _ _ h.len,List.length_append]; exact ho,by simp [h.len],fun i h1 h2 => ?_,fun i j hi hj hij => ?_⟩
 ·by_cases hl:i < out.length
  ·have hl':i < vs.length:=by rw [h.len]; exact hl
   rw [List.getElem_append_left hl',List.getElem_append_left hl]
   exact (h.rows i hl hl').kept hg (db7 (h.rows i hl hl') h.own hne)
  ·have:i = out.length:=by simp at h1; omega
   subst this
   have e1:(vs ++ [u])[out.length]'h2 = u:=by rw [List.getElem_append_right (by rw [h.len]; exact Nat.le_refl _)]; simp [h.len]
   have e2:(out ++ [b])[out.length]'h1 = b:=by rw [List.getElem_append_right (Nat.le_refl _)]; simp
   rw [e1,e2]
   exact hu.kept hg (db7 hu h.own hne)
 ·simp only [List.length_append,List.length_cons,List.length_nil] at hi hj
  by_cases h1:i < vs.length
  ·by_cases h2:j < vs.length
   ·rw [List.getElem_append_left h1,List.getElem_append_left h2]; exact h.apart i j h1 h2 hij
   ·have:j = vs.length:=by omega
    subst this
    rw [List.getElem_append_left h1,List.getElem_append_right (Nat.le_refl _)]
    simp only [Nat.sub_self,List.getElem_cons_zero]
    exact (ha i h1).1
  ·have:i = vs.length:=by omega
   subst this
   have h2:j < vs.length:=by omega
   rw [List.getElem_append_left h2,List.getElem_append_right (Nat.le_refl _)]
   simp only [Nat.sub_self,List.getElem_cons_zero]
   exact (ha j h2).2
theorem ji7.stops {TB TI:Nat} {w w1:World} {B g cap k:Nat} {out:List pa7} {vs:List Value} {u:Value} {sp:List Int} (h:ji7 TB TI w B (.slice (some ⟨g,0,none⟩) out.length cap) out vs) (hne:TI ≠ TB) (hk:k < out.length)
  (hg:w.grownBy w1 (vs.getD k undef).ownBlock) (hu:w1.ownsRow B TI 1 u sp.length (sp.map wa7)) (hat:u.ownBlock = (vs.getD k undef).ownBlock ∨ (∃ b,u.ownBlock = some b ∧ w.heap.size ≤ b) ∨ u.ownBlock = none) :
  ji7 TB TI (w1.setCell ⟨g,2 * k + 1,none⟩ u) B (.slice (some ⟨g,0,none⟩) out.length cap) (out.set k ⟨(out.getD k ⟨0,[]⟩).sat,sp⟩) (vs.set k u):=by
 have hk':k < vs.length:=by rw [h.len]; exact hk
 have ev:vs.getD k undef = vs[k]:=by rw [List.getD_eq_getElem?_getD,List.getElem?_eq_getElem hk']; rfl
 have eo:out.getD k ⟨0,[]⟩ = out[k]:=by rw [List.getD_eq_getElem?_getD,List.getElem?_eq_getElem hk]; rfl
 rw [ev] at hg hat
 rw [eo]
 have hrow:=h.rows k hk hk'
 have howngrow:w1.ownsRow B TB 2 (.slice (some ⟨g,0,none⟩) out.length cap) out.length (pd7 out vs):=h.own.kept hg (db7 h.own hrow (Ne.symm hne))
 have hst:=howngrow.stored (2 * k + 1) u
 have hlen:(out.set k ⟨out[k].sat,sp⟩).length = out.length:=by simp
 have hcell:pd7 (out.set k ⟨out[k].sat,sp⟩) (vs.set k u) = (pd7 out vs).set (2 * k + 1) u:=by
  rw [cn7 _ _ _ hk h.len,zm7 (dg7 out vs k hk hk').1]
 have hug:u.ownBlock = none ∨ u.ownBlock ≠ some g:=db7 hu howngrow hne
 refine ⟨by rw [hlen,hcell]; exact hst.1,by simp [h.len],fun i h1 h2 => ?_,fun i j hi hj hij => ?_⟩
 ·have hi:i < out.length:=by simpa using h1
  have hi':i < vs.length:=by rw [h.len]; exact hi
  by_cases e:k = i
  ·subst e
   have e1:(vs.set k u)[k]'h2 = u:=by simp
   have e2:(out.set k ⟨out[k].sat,sp⟩)[k]'h1 = ⟨out[k].sat,sp⟩:=by simp
   rw [e1,e2]
   exact hu.kept hst.2 hug
  ·have e1:(vs.set k u)[i]'h2 = vs[i]:=by rw [List.getElem_set_ne e]
   have e2:(out.set k ⟨out[k].sat,sp⟩)[i]'h1 = out[i]:=by simp only [List.getElem_set,if_neg e]
   rw [e1,e2]
   have k1:=(h.rows i hi hi').kept hg (h.apart i _ hi' hk' (Ne.symm e))
   exact k1.kept hst.2 (db7 k1 howngrow hne)
 ·have hlt:=h.blockLt
  simp only [List.length_set] at hi hj
  simp only [List.getElem_set]
  split
  ·rename_i ei
   split
   ·omega
   ·rename_i ej
    rcases hat with e | ⟨b,e,hb⟩ | e
    ·rw [e]; exact h.apart _ j hk' hj ej
    ·refine .inr fun e' => ?_
     have:=hlt j hj b (by rw [← e',e]); omega
    ·exact .inl e
  ·rename_i ei
   split
   ·rename_i ej
    rcases hat with e | ⟨b,e,hb⟩ | e
    ·rw [e]; exact h.apart i _ hi hk' (by omega)
    ·refine .inr fun e' => ?_
     have:=hlt i hi b (by rw [e',e]); omega
    ·rw [e]
     cases hv:vs[i].ownBlock with
     | none=>exact .inl rfl
     | some g=>exact .inr (by simp)
   ·exact h.apart i j hi hj hij
theorem ji7.rep {TB TI:Nat} {w:World} {B:Nat} {v:Value} {out:List pa7} {vs:List Value} (h:ji7 TB TI w B v out vs) (hw:∀ b ∈ out,ua7 b.sat ∧ ∀ s ∈ b.stops,ua7 s):xn7.rep w (fun b=>B ≤ b) out [v]:=by
 have hr:∀ i (h1:i < out.length) (h2:i < vs.length),tp7.rep w (fun b=>B ≤ b) out[i] [.int .i64 out[i].sat,vs[i]]:=fun i h1 h2 =>
  ⟨vs[i],rfl,(hw _ (List.getElem_mem h1)).1,pj7 (h.rows i h1 h2) (hw _ (List.getElem_mem h1)).2⟩
 rcases h.own.2 with ⟨rfl,hn⟩ | ⟨g,cap,cur,rfl,hg,hh,hn1,hc,hsz,ht⟩
 ·have:out = []:=List.eq_nil_of_length_eq_zero hn
  subst this
  exact nh7 _ _ _
 ·have hR:Row w g TB (pd7 out vs):=⟨cur,cur.toList.drop (out.length * 2),hh,by rw [← ht,List.take_append_drop]⟩
  refine ur7 (S:=tp7) (T:=TB) (List.zipWith (fun (b:pa7) u=>[.int .i64 b.sat,u]) out vs) (by simp [h.len]) (fun v hv => ?_) (fun i h1 h2 => ?_) ?_ hn1 hc hg
  ·obtain ⟨i,hi,rfl⟩:=List.getElem_of_mem hv
   simp only [List.getElem_zipWith]; rfl
  ·rw [List.getElem_zipWith]; exact hr i h1 _
  ·have:∀ (out:List pa7) (vs:List Value),(List.zipWith (fun (b:pa7) u=>[Value.int .i64 b.sat,u]) out vs).flatten = pd7 out vs:=by
    intro out
    induction out with
    | nil=>intro vs; simp [pd7]
    | cons a l ih =>
     intro vs
     cases vs with
     | nil=>simp [pd7]
     | cons v vs=>simp [pd7,ih]
   rw [this]; exact hR
theorem bs7:(Try.prog.info? 62).map (fun i=>(i.zero,i.size,i.bytes)) = some (some (.agg #[.slice none 0 0]),1,24):=by kernel_rfl
theorem zo7:(Try.prog.info? 64).map (fun i=>(i.zero,i.size,i.bytes)) = some (some (.agg #[.int .i64 0, .int .i64 0]),2,16):=by kernel_rfl
structure ps7 (many room:Int) (out:List (List da7)) (left:Int):Prop where
 leftB:0 ≤ left ∧ left ≤ room
 manyB:(out.length:Int) ≤ many
 lastB:((out.getD (out.length - 1) []).length:Int) + left ≤ room ∨ out = []
 someB:0 < left → 0 < out.length
 wfB:∀ t ∈ out, ∀ s ∈ t,ua7 s.sat ∧ ua7 s.load
theorem ps7.nil {many room:Int} (h1:0 ≤ many) (h2:0 ≤ room):ps7 many room [] 0 :=
 ⟨by omega,by simpa using h1, .inr rfl,fun h=>by omega,fun _ h=>by cases h⟩
theorem ps7.push {many room left:Int} {out:List (List da7)} (h:ps7 many room out left) (h1:(out.length:Int) ≠ many) (h2:room ≠ 0):ps7 many room (out ++ [[]]) room:=by
 have hl:=h.leftB
 have hm:=h.manyB
 refine ⟨by omega,by rw [List.length_append]; simp; omega, .inl ?_,fun _=>by simp,fun t ht s hs => ?_⟩
 ·rw [List.length_append,List.length_singleton,Nat.add_sub_cancel,List.getD_eq_getElem?_getD,List.getElem?_append_right (Nat.le_refl _),Nat.sub_self]; simp
 ·rcases List.mem_append.1 ht with ht | ht
  ·exact h.wfB t ht s hs
  ·simp at ht; subst ht; cases hs
theorem ps7.stop {many room left much:Int} {out:List (List da7)} {s:da7} (h:ps7 many room out left) (hr:room ≤ 1000000000) (h0:0 < left) (h1:1 ≤ much) (h2:much ≤ left) (hs:ua7 s.sat ∧ ua7 s.load):ps7 many room (vb7 out s) (left - much):=by
 have hl:=h.leftB
 have hp:=h.someB h0
 have hlen:(vb7 out s).length = out.length:=by unfold vb7; simp
 refine ⟨by omega,by rw [hlen]; exact h.manyB, .inl ?_,fun _=>by omega,fun t ht u hu => ?_⟩
 ·rcases h.lastB with h3 | h3
  ·have e:(vb7 out s).getD ((vb7 out s).length - 1) [] = out.getD (out.length - 1) [] ++ [s]:=by
    rw [hlen,List.getD_eq_getElem?_getD]
    unfold vb7
    rw [List.getElem?_set_self (by omega)]; rfl
   rw [e,List.length_append]; simp only [List.length_singleton]; push_cast; omega
  ·rw [h3] at hp; cases hp
 ·unfold vb7 at ht
  rcases List.mem_or_eq_of_mem_set ht with ht | rfl
  ·exact h.wfB t ht u hu
  ·rcases List.mem_append.1 hu with hu | hu
   ·have hlt:out.length - 1 < out.length:=by omega
    rw [List.getD_eq_getElem?_getD,List.getElem?_eq_getElem hlt] at hu
    exact h.wfB _ (List.getElem_mem hlt) u hu
   ·simp at hu; subst hu; exact hs
end Go.Proofs.Ytahffcepagopmaa


namespace Go.Proofs.Ytahffcepagopmaa
open Go.RowKit
def lastT (out:List (List da7)):List da7:=out.getD (out.length - 1) []
def brb7 (t:List da7):da7:=t.getD (t.length - 1) ⟨0,0⟩
def wdc7 (s:Int) (t:List da7):Bool:=t.length == 0 || (brb7 t).sat != s
def ukb7 (s:Int) (t:List da7):List da7:=if wdc7 s t then t ++ [⟨s,1⟩] else t.set (t.length - 1) ⟨s,(brb7 t).load + 1⟩
def setLast (out:List (List da7)) (t:List da7):List (List da7):=out.set (out.length - 1) t
def ek7 (room:Int) (st:List (List da7) × Int):List (List da7) × Int:=if st.2 = 0 then (st.1 ++ [[]],room) else st
def frb7 (room:Int) (s:Nat) (st:List (List da7) × Int):List (List da7) × Int:=(setLast (ek7 room st).1 (ukb7 s (lastT (ek7 room st).1)),(ek7 room st).2 - 1)
theorem wi7 (out:List (List da7)) (t:List da7):(setLast out t).length = out.length:=by unfold setLast; simp
theorem fo7 (out:List (List da7)) (s:da7):(vb7 out s).length = out.length:=by unfold vb7; simp
theorem pc7 (b e:Nat) (fz:Nat × Nat):∀ (vs M A R:List Value) (o:Nat) (w:World) (cur:Array Value),w.heap[b]? = some (.cells cur e fz) → cur.toList = A ++ M ++ R → A.length = o → M.length = vs.length →
  ∃ cur':Array Value,(w.setCells b o vs).heap[b]? = some (.cells cur' e fz) ∧ cur'.toList = A ++ vs ++ R
 | [],M,A,R,o,w,cur,h,hc,_,hm=>by
  obtain rfl:=List.eq_nil_of_length_eq_zero hm
  exact ⟨cur,h,hc⟩
 | v :: vs,[],A,R,o,w,cur,h,hc,_,hm=>by cases hm
 | v :: vs,m :: M,A,R,o,w,cur,h,hc,ho,hm=>by
  have h':(w.setCell ⟨b,o,none⟩ v).heap[b]? = some (.cells (cur.setIfInBounds o v) e fz):=by simp [World.setCell,Array.getElem?_modify,h]
  have hc':(cur.setIfInBounds o v).toList = (A ++ [v]) ++ M ++ R:=by
   rw [Array.toList_setIfInBounds,hc, ← ho,List.append_assoc,List.set_append_right _ _ (Nat.le_refl _),Nat.sub_self]
   simp
  obtain ⟨cur',h1,h2⟩:=pc7 b e fz vs M (A ++ [v]) R (o + 1) _ _ h' hc' (by simp [ho]) (by simpa using hm)
  exact ⟨cur',h1,by rw [h2]; simp⟩
theorem se7 {a b c:World} {row:Option Nat} (h:a.grownBy b row) (h2:b.grownBy c row):a.grownBy c row :=
 ⟨h2.os.trans h.os,h2.tape.trans h.tape,h2.output.trans h.output,Nat.le_trans h.size h2.size,fun k hk hne=>(h2.block k (Nat.lt_of_lt_of_le hk h.size) hne).trans (h.block k hk hne)⟩
theorem eib7 (w:World) (row:Option Nat):w.grownBy w row:=⟨rfl,rfl,rfl,Nat.le_refl _,fun _ _ _=>rfl⟩
theorem rd7 (b:Nat):∀ (vs:List Value) (o:Nat) (w:World),w.grownBy (w.setCells b o vs) (some b)
 | [],_,w=>eib7 w _
 | v :: vs,o,w=>se7 (ze7 w ⟨b,o,none⟩ v) (rd7 b vs (o + 1) _)
theorem nj7 (w:World) (row:Option Nat):w.grownBy w.drew row:=⟨rfl,rfl,rfl,Nat.le_refl _,fun _ _ _=>rfl⟩
theorem co7 (w:World) (o:Obj) (row:Option Nat):w.grownBy (w.alloc o) row:=⟨rfl,rfl,rfl,by simp,fun _ hk _=>heap_alloc_old w _ hk⟩
theorem okb7 {a b:World} {g:Nat} (h:a.grownBy b (some g)) (hg:a.heap.size ≤ g) (row:Option Nat):a.grownBy b row :=
 ⟨h.os,h.tape,h.output,h.size,fun k hk _=>h.block k hk (by rintro ⟨⟩; omega)⟩
theorem xgb7 {w:World} {b:Nat} {c:Array Value} {e:TypeId} {fz:Nat × Nat} (h:w.heap[b]? = some (.cells c e fz)):w.shape? b = some (e,c.size):=by simp [World.shape?,h]
theorem np7 {w:World} {b k:Nat} {c:Array Value} {e:TypeId} (h:w.heap[b]? = some (.cells c e (0,0))):w.frozen? ⟨b,k,none⟩ = false:=by simp [World.frozen?,h]
theorem cell_of {w:World} {b k:Nat} {c:Array Value} {e:TypeId} {fz:Nat × Nat} (h:w.heap[b]? = some (.cells c e fz)):w.cell? ⟨b,k,none⟩ = c[k]? := by simp [World.cell?,h]
theorem wp7 {w':World} {B T g n i cap:Nat} {xs:List Value} {x:Value} {cur:Array Value} (hg:B ≤ g) (hx:xs.length = n) (hi:i ≤ n) (hn:n + 1 ≤ cap) (hc:cap ≤ maxLen)
  (hh:w'.heap[g]? = some (.cells cur T (0,0))) (hs:cur.size = cap) {R:List Value} (hcur:cur.toList = xs.take i ++ x :: xs.drop i ++ R):w'.ownsRow B T 1 (.slice (some ⟨g,0,none⟩) (n + 1) cap) (n + 1) (xs.take i ++ x :: xs.drop i):=by
 have hl:(xs.take i ++ x :: xs.drop i).length = n + 1:=by simp; omega
 exact ⟨by rw [hl,Nat.mul_one], .inr ⟨g,cap,cur,rfl,hg,hh,hn,hc,by rw [hs,Nat.mul_one],by rw [hcur,Nat.mul_one, ← hl]; exact List.take_left⟩⟩
end Go.Proofs.Ytahffcepagopmaa
