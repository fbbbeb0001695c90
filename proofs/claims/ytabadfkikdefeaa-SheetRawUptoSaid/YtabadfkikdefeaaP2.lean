/- Texts of the proof, joined: Bikes, Good, Check, Way, Nodes, Lit, Order, HeapD, NearD, Graph, Fill. -/
import Derived.Deep.DeepCutAuto
import Derived.Deep.QuietTactic
import Derived.BigQuiet
import Derived.Laws.OwnMore
import Derived.BigRegion
import Derived.Test.YtabadfkikdefeaaP1
set_option linter.all false
set_option maxRecDepth 100000
set_option maxHeartbeats 6400000
namespace Go.Proofs.Ytabadfkikdefeaa
open Go.RowKit
def bab7 (x:ba7) (c:Int):nn7:=x.custs.getD c.toNat ⟨0,0,0,0⟩
def fd7 (x:ba7) (m:Nat) (c:Int):Bool:=decide (c < 0) || decide ((x.custs.length:Int) ≤ c) || m.testBit c.toNat
def jh7 (x:ba7):Option (Nat × Int) → Int → Option (Nat × Int)
 | none,_=>none
 | some (m,left),c=>if fd7 x m c then none else some (m ||| 2 ^ c.toNat,left - (bab7 x c).load)
def rn7 (x:ba7) (m:Nat) (l:List Int):Option (Nat × Int):=l.foldl (jh7 x) (some (m,x.broom))
def re7 (x:ba7) (b:oa7):Bool:=decide (b.sat < 0) || decide ((x.sats.length:Int) ≤ b.sat) || decide (b.stops.length = 0)
def og7 (x:ba7):List oa7 → Nat → Bool → Bool × Bool × Bool
 | [],m,l=>(true,decide (Lib.onesCount m = x.custs.length),l)
 | b :: bs,m,l=>if re7 x b then (false,false,l) else match rn7 x m b.stops with
  | none=>(false,false,l)
  | some (m',left)=>og7 x bs m' (l && decide (0 ≤ left))
def nd7 (x:ba7) (l:List oa7):Bool × Bool × Bool:=og7 x l 0 true
theorem mt7 (a b:Nat):((a:Int) == (b:Int)) = decide (a = b):=by
 by_cases h:a = b
 ·subst h; simp
 ·rw [decide_eq_false h,beq_eq_false_iff_ne]; omega
theorem cm7 (x:ba7) (l:List Int):l.foldl (jh7 x) none = none:=by
 induction l with
 | nil=>rfl
 | cons s l ih=>exact ih
theorem hwb7 {m i:Nat} (hm:m < 64) (hi:i < 6):m ||| 2 ^ i < 64:=Nat.or_lt_two_pow (n:=6) hm (Nat.pow_lt_pow_right (by decide) hi)
theorem wl7 {x:ba7} {m:Nat} {left:Int} {c:Int} (h:fd7 x m c = true):jh7 x (some (m,left)) c = none:=by simp [jh7,h]
theorem fo7 {x:ba7} {m:Nat} {left:Int} {c:Int} (h:fd7 x m c = false):jh7 x (some (m,left)) c = some (m ||| 2 ^ c.toNat,left - (bab7 x c).load):=by simp [jh7,h]
theorem rl7 {x:ba7} {b:oa7} {bs:List oa7} {m:Nat} {l:Bool} (h:re7 x b = true):og7 x (b :: bs) m l = (false,false,l):=by simp [og7,h]
theorem lj7 {x:ba7} {b:oa7} {bs:List oa7} {m:Nat} {l:Bool} (h:rn7 x m b.stops = none):og7 x (b :: bs) m l = (false,false,l):=by simp [og7,h]
theorem vo7 {x:ba7} {b:oa7} {bs:List oa7} {m m':Nat} {l:Bool} {left:Int} (h0:re7 x b = false) (h:rn7 x m b.stops = some (m',left)) :
  og7 x (b :: bs) m l = og7 x bs m' (l && decide (0 ≤ left)):=by simp [og7,h0,h]
theorem stb7 {w:World} {F G:Nat → Prop} {x:ba7} {p:za7} {cs ps:List Value} (h:fb7.rep w F x cs) (hp:id7.rep w G p ps) (hn:x.custs.length ≤ 6)
  (hr:0 ≤ x.broom ∧ x.broom ≤ 1000000000) (hcu:∀ c ∈ x.custs,0 ≤ c.load ∧ c.load ≤ 1000000000) (ht:∀ b ∈ p.bikes,b.stops.length ≤ 1000000000) :
  Calls Try.prog 67 #[.agg ps.toArray, .agg cs.toArray] w fun e w'=>e = .returned (.tuple #[.bool (nd7 x p.bikes).1, .bool (nd7 x p.bikes).2.1, .bool (nd7 x p.bikes).2.2]) ∧ Below w.heap.size w w':=by
 obtain ⟨s,c,co,ti,rfl, -,h1,h2, -, -⟩:=h
 obtain ⟨a,b,off,c1,hs, -, -, -, -, -, -⟩:=rc7 h1
 obtain rfl:=List.cons.inj hs |>.1
 obtain ⟨a',b',off',c1',hs',hlc',hc',ha', -,hcell', -⟩:=sf7 h2
 obtain rfl:=List.cons.inj hs' |>.1
 obtain ⟨tv,bv,rfl, -,h3⟩:=hp
 obtain ⟨a2,b2,off2,c2,hs2,hl2,hc2,ha2, -,hcell2⟩:=ld7 h3
 obtain rfl:=List.cons.inj hs2 |>.1
 clear hs hs' hs2 h1 h2 h3
 go_enter Try.func67,Try.ntmps67
 go_wp2
 go_loopw [4,5,6,7,16] (fun rr aa ll mm ii wr => ∃ (k m:Nat) (l:Bool),k ≤ p.bikes.length ∧ ii = .int .i64 k ∧ rr = .bool true ∧ aa = .bool false ∧ ll = .bool l ∧ mm = .int .u64 m ∧ m < 64 ∧
   nd7 x p.bikes = og7 x (p.bikes.drop k) m l ∧ Below w.heap.size w wr ∧ wr.cell? ⟨w.heap.size + 1,4,none⟩ = some (.int .i64 x.broom) ∧ wr.cell? ⟨w.heap.size + 1,5,none⟩ = some (.slice a x.sats.length c1) ∧
   wr.cell? ⟨w.heap.size + 1,6,none⟩ = some (.slice a' x.custs.length c1') ∧ w.heap.size + 1 < wr.heap.size) (fun _ _ _ _ i _=>p.bikes.length - (intOf i).toNat)
 case atStart=>exact ⟨0,0,true,Nat.zero_le _,rfl,rfl,rfl,rfl,rfl,by decide,rfl,((Below.refl _ _).alloc (Nat.le_refl _) _).alloc (by simp) _,by simp,by simp,by simp,by simp⟩
 case round =>
  obtain ⟨k,m,l,hk,rfl,rfl,rfl,rfl,rfl,hm,hgo,hb,q4,q5,q6,hz⟩:=hrel
  obtain ⟨wo,rfl⟩:∃ wo:World,wo = wr:=⟨_,rfl⟩
  by_cases hlt:k < p.bikes.length
  ·have hx:=nb7 (c:=c2) Try.underlying23 uk7 (ha2 (by omega)) hlt
   obtain ⟨sv,g0,g1,hwf,hr0⟩:=hcell2 k hlt
   obtain ⟨bk,hbk⟩:∃ bk,bk = p.bikes[k]:=⟨_,rfl⟩
   have htl:=ht _ (List.getElem_mem hlt)
   rw [← hbk] at g0 hwf hr0 htl
   obtain ⟨st,sp⟩:=bk
   simp only [] at g0 hwf hr0 htl
   obtain ⟨a3,b3,off3,c3,hs3,hl3,hc3,ha3, -,hcell3,hwf3⟩:=bb7 hr0
   obtain rfl:=List.cons.inj hs3 |>.1
   have p0:=aa7 hb g0
   have p1:=aa7 hb g1
   have HGO:=hid (show nd7 x p.bikes = og7 x (⟨st,sp⟩ :: p.bikes.drop (k + 1)) m l from by rw [hgo,hbk,List.drop_eq_getElem_cons hlt])
   clear hcell2 ha2 hgo hs3 hr0 g0 g1 hbk
   have hz':w.heap.size + 1 < wo.heap.size:=hz
   have HBB:=hid (show re7 x ⟨st,sp⟩ = true → nd7 x p.bikes = (false,false,l) from fun h=>by rw [HGO.out]; exact rl7 h)
   by_cases e1:st < 0
   ·have HB:=hid (HBB.out (by simp [re7,e1]))
    go_wp2
    go_ret3
    exact ⟨by rw [HB.out]; rfl,by simpa using hb.alloc (by omega) _⟩
   ·by_cases e2:(x.sats.length:Int) ≤ st
    ·have HB:=hid (HBB.out (by simp [re7,e2]))
     go_wp2
     go_ret3
     exact ⟨by rw [HB.out]; rfl,by simpa using hb.alloc (by omega) _⟩
    ·by_cases e3:sp.length = 0
     ·have HB:=hid (HBB.out (by simp [re7,e3]))
      go_wp2
      go_ret3
      exact ⟨by rw [HB.out]; rfl,by simpa using hb.alloc (by omega) _⟩
     ·have HNB:=hid (show re7 x ⟨st,sp⟩ = false from by simp [re7,e3]; omega)
      clear HBB
      go_wp2
      go_loopw [4,5,6,7,10,44] (fun rr aa ll mm ff jj wx => ∃ (j m2:Nat) (left:Int),j ≤ sp.length ∧ jj = .int .i64 j ∧ rr = .bool true ∧ aa = .bool false ∧ ll = .bool l ∧ mm = .int .u64 m2 ∧ ff = .int .i64 left ∧ m2 < 64 ∧
        (x.broom - 1000000000 * j ≤ left ∧ left ≤ x.broom) ∧ rn7 x m sp = (sp.drop j).foldl (jh7 x) (some (m2,left)) ∧ Below w.heap.size w wx ∧ wx.cell? ⟨w.heap.size + 1,4,none⟩ = some (.int .i64 x.broom) ∧
        wx.cell? ⟨w.heap.size + 1,5,none⟩ = some (.slice a x.sats.length c1) ∧ wx.cell? ⟨w.heap.size + 1,6,none⟩ = some (.slice a' x.custs.length c1') ∧ w.heap.size + 1 < wx.heap.size) (fun _ _ _ _ _ jj _=>sp.length - (intOf jj).toNat)
      case atStart =>
       exact ⟨0,m,x.broom,Nat.zero_le _,rfl,rfl,rfl,rfl,rfl,rfl,hm,by omega,rfl,hb.alloc (by omega) _,aa7 ((Below.refl _ _).alloc (Nat.le_refl _) _) q4,aa7 ((Below.refl _ _).alloc (Nat.le_refl _) _) q5,
        aa7 ((Below.refl _ _).alloc (Nat.le_refl _) _) q6,by simp; omega⟩
      case round =>
       obtain ⟨j,m2,left,hj,rfl,rfl,rfl,rfl,rfl,rfl,hm2,hleft,hst,hb2,q4',q5',q6',hzx⟩:=hrel
       clear q4 q5 q6
       by_cases hjt:j < sp.length
       ·have hy:=la7 (c:=c3) Try.underlying71 di7 (ha3 (by omega)) hjt
        have g3:=aa7 hb2 (hcell3 j hjt)
        obtain ⟨c,hc⟩:∃ c,c = sp[j]:=⟨_,rfl⟩
        rw [← hc] at g3
        have hnx:(sp.drop j).foldl (jh7 x) (some (m2,left)) = (sp.drop (j + 1)).foldl (jh7 x) (jh7 x (some (m2,left)) c):=by rw [List.drop_eq_getElem_cons hjt, ← hc]; rfl
        rw [hnx] at hst
        clear hnx hc hcell3 ha3
        have HST:=hid hst
        clear hst
        have HBAD:=hid (show fd7 x m2 c = true → nd7 x p.bikes = (false,false,l) from fun h=>by rw [HGO.out]; exact lj7 (by rw [HST.out,wl7 h,cm7]))
        have HOK:=hid (show fd7 x m2 c = false → rn7 x m sp = (sp.drop (j + 1)).foldl (jh7 x) (some (m2 ||| 2 ^ c.toNat,left - (bab7 x c).load)) from fun h=>by rw [HST.out,fo7 h])
        clear HST
        by_cases f1:c < 0
        ·have HB:=hid (HBAD.out (by simp [fd7,f1]))
         go_wp2
         go_ret3
         exact ⟨by rw [HB.out]; rfl,hb2⟩
        ·by_cases f2:(x.custs.length:Int) ≤ c
         ·have HB:=hid (HBAD.out (by simp [fd7,f2]))
          go_wp2
          go_ret3
          exact ⟨by rw [HB.out]; rfl,hb2⟩
         ·obtain ⟨cn,rfl⟩:∃ cn:Nat,c = cn:=⟨c.toNat,by omega⟩
          rw [Int.toNat_natCast] at HOK
          have hcn:cn < 6:=by omega
          have hcl:cn < x.custs.length:=by omega
          cases f3:m2.testBit cn
          ·have HO:=hid (HOK.out (by simp [fd7,f3]; omega))
           have HW:=hid (qp7 m2 cn (by omega) (by omega))
           have HV:=hid (xdb7 m2 cn (by omega) (by omega))
           have HM:=hid (hwb7 hm2 hcn)
           have hic:=nb7 (c:=c1') Try.underlying47 pp7 (ha' (by omega)) hcl
           have hcl1:=aa7 hb2 (hcell' cn hcl).1
           have hld:=hcu _ (List.getElem_mem hcl)
           obtain ⟨ld,hlde⟩:∃ ld,ld = x.custs[cn].load:=⟨_,rfl⟩
           have HLD:=hid (show (bab7 x (cn:Int)).load = ld from by unfold bab7; rw [Int.toNat_natCast,List.getD_eq_getElem?_getD,List.getElem?_eq_getElem hcl,hlde]; rfl)
           rw [← hlde] at hcl1 hld
           clear hm hm2 hlde hcell'
           go_wp2_with (first
            | (go_at_call 22; refine (HW.out _).mono ?_; rintro e w' ⟨rfl,rfl⟩; rw [f3])
            | (go_at_call 53; refine (HV.out _).mono ?_; rintro e w' ⟨rfl,rfl⟩))
           go_roundw
           case rel=>exact ⟨j + 1,m2 ||| 2 ^ cn,left - ld,by omega,by go_num,rfl,rfl,rfl,rfl,rfl,HM.out,by omega,by rw [HO.out,HLD.out],hb2,q4',q5',q6',hzx⟩
           case measure=>simp [intOf]; omega
          ·have HB:=hid (HBAD.out (by simp [fd7,f3]))
           have HW:=hid (qp7 m2 cn (by omega) (by omega))
           clear hm hm2
           go_wp2_with (go_at_call 22; refine (HW.out _).mono ?_; rintro e w' ⟨rfl,rfl⟩; rw [f3])
           go_ret3
           exact ⟨by rw [HB.out]; rfl,hb2⟩
       ·have hjl:j = sp.length:=by omega
        subst hjl
        have HG:=hid (show nd7 x p.bikes = og7 x (p.bikes.drop (k + 1)) m2 (l && decide (0 ≤ left)) from by rw [HGO.out]; exact vo7 HNB.out (by rw [hst,List.drop_length]; rfl))
        have HM:=hid hm2
        clear hst HGO hcell3 ha3 hleft hj hm2
        cases l <;> by_cases f2:0 ≤ left
        all_goals
         go_wp2
         go_roundw
         case rel=>exact ⟨k + 1,m2,_,by omega,by go_num,rfl,rfl,rfl,rfl,HM.out,by rw [HG.out]; simp [f2],hb2,q4',q5',q6',hzx⟩
         case measure=>simp [intOf]; omega
  ·have hkl:k = p.bikes.length:=by omega
   subst hkl
   have HG:=hid (show nd7 x p.bikes = (true,decide (Lib.onesCount m = x.custs.length),l) from by rw [hgo,List.drop_length]; rfl)
   have HL:=hid (nac7 m hm)
   clear hcell2 ha2 hgo hm
   cases hdd:((Lib.onesCount m:Nat):Int) == (x.custs.length:Int)
   all_goals
    have HD:=hid (show decide (Lib.onesCount m = x.custs.length) = _ from (mt7 _ _).symm.trans hdd)
    go_wp2
    go_quiet ((go_at_call 95; exact Calls.quiet_of_same (HL.out _)))
    go_wp2
    go_ret3
    exact ⟨by rw [HG.out,HD.out]; rfl,by simpa using below_drewN hb _⟩
structure Good (x:ba7):Prop where
 tmany:1 ≤ x.tmany ∧ x.tmany ≤ 60
 bmany:1 ≤ x.bmany ∧ x.bmany ≤ 60
 sats:1 ≤ x.sats.length ∧ x.sats.length ≤ 12
 custs:1 ≤ x.custs.length ∧ x.custs.length ≤ 48
 fin:0 ≤ x.fin ∧ x.fin ≤ 1000000000
 troom:0 ≤ x.troom ∧ x.troom ≤ 1000000000
 broom:0 ≤ x.broom ∧ x.broom ≤ 1000000000
 sat:∀ s ∈ x.sats,(0 ≤ s.room ∧ s.room ≤ 1000000000) ∧ 0 ≤ s.hold ∧ s.hold ≤ 1000000000
 cust:∀ c ∈ x.custs,(1 ≤ c.load ∧ c.load ≤ 1000000000) ∧ (0 ≤ c.opn ∧ c.opn ≤ 1000000000) ∧ (c.opn ≤ c.cls ∧ c.cls ≤ 1000000000) ∧ 0 ≤ c.stay ∧ c.stay ≤ 1000000000
 costL:x.cost.length = nodes x
 timeL:x.time.length = nodes x
 costR:∀ r ∈ x.cost,r.length = nodes x
 timeR:∀ r ∈ x.time,r.length = nodes x
 cost:∀ r ∈ x.cost, ∀ v ∈ r,0 ≤ v ∧ v ≤ 1000000000
 time:∀ r ∈ x.time, ∀ v ∈ r,0 ≤ v ∧ v ≤ 1000000000
theorem ag7 {n l:Int} (h:gm7 n l = true):l ≤ n ∧ n ≤ 1000000000:=by simpa [gm7] using h
theorem at7 {l:List (List Int)} {n:Nat} (h:kg7 l (n:Int) = true):l.length = n ∧ ∀ r ∈ l,r.length = n:=by
 simp only [kg7,Bool.and_eq_true,beq_iff_eq,Bool.not_eq_true',List.any_eq_false,bne_iff_ne,ne_eq,Decidable.not_not] at h
 exact ⟨by omega,fun r hr=>by have:=h.2 r hr; omega⟩
theorem ydb7 {l:List (List Int)} (h:mmb7 l l.length = true):∀ r ∈ l, ∀ v ∈ r,0 ≤ v ∧ v ≤ 1000000000:=by
 intro r hr v hv
 obtain ⟨i,hi,rfl⟩:=List.getElem_of_mem hr
 obtain ⟨j,hj,rfl⟩:=List.getElem_of_mem hv
 simp only [mmb7,List.all_eq_true,List.mem_range] at h
 have h1:=h i hi
 rw [List.getD_eq_getElem?_getD,List.getElem?_eq_getElem hi] at h1
 simp only [mqb7,Option.getD_some,List.all_eq_true,List.mem_range] at h1
 have h2:=h1 j hj
 rw [List.getD_eq_getElem?_getD,List.getElem?_eq_getElem hj] at h2
 simp only [xkb7,Bool.and_eq_true] at h2
 exact ag7 h2.1
theorem hh7 {x:ba7} (h:check x = 0):Good x:=by
 unfold check at h
 split at h
 case isFalse=>cases h
 rename_i hc
 split at h
 case isFalse=>cases h
 rename_i hs
 split at h
 case isFalse=>cases h
 rename_i hn
 simp only [countB,manyB,Bool.and_eq_true,decide_eq_true_eq] at hc
 simp only [vkb7,Bool.and_eq_true] at hs
 simp only [sl7,ihb7,Bool.and_eq_true,List.all_eq_true] at hn
 obtain ⟨⟨⟨⟨⟨⟨n0,n1⟩,n2⟩,n3⟩,n4⟩,n5⟩,n6⟩:=hn
 have s1:=at7 hs.1
 have s2:=at7 hs.2
 exact {
     tmany:=by omega,bmany:=by omega,sats:=by omega,custs:=by omega,fin:=ag7 n0,troom:=ag7 n1,broom:=ag7 n2,
     sat:=fun s hs'=>by have:=n3 s hs'; simp only [qxb7,Bool.and_eq_true] at this; exact ⟨ag7 this.1,ag7 this.2⟩,
     cust:=fun c hc'=>by have:=n4 c hc'; simp only [umb7,Bool.and_eq_true] at this; exact ⟨ag7 this.1.1.1,ag7 this.1.1.2,ag7 this.1.2,ag7 this.2⟩,
     costL:=s1.1,timeL:=s2.1,costR:=s1.2,timeR:=s2.2,cost:=ydb7 n5,time:=ydb7 n6 }
theorem rx7 {x:ba7} {m:Nat} {s:ea7} (h:mc7 x m s = false):jd7 x s:=by
 simp only [mc7,Bool.or_eq_false_iff,decide_eq_false_iff_not] at h
 unfold jd7; omega
theorem ru7 {x:ba7}:∀ (l:List ea7) (m:Nat) (left:Int) (r:Nat × Int),l.foldl (yh7 x) (some (m,left)) = some r → ∀ s ∈ l,jd7 x s
 | [],_,_,_,_,s,hs=>by cases hs
 | a :: l,m,left,r,h,s,hs=>by
  rw [List.foldl_cons] at h
  cases hb:mc7 x m a
  ·rw [on7 hb] at h
   rcases List.mem_cons.1 hs with rfl | hs
   ·exact rx7 hb
   ·exact ru7 l _ _ r h s hs
  ·rw [yl7 hb,zl7] at h; cases h
theorem vp7 {x:ba7}:∀ (l:List (List ea7)) (r d:Bool),(yd7 x l r d).1 = true → r = true ∧ ∀ t ∈ l,0 < t.length ∧ ∀ s ∈ t,jd7 x s
 | [],r,d,h=>⟨h,fun _ h=>by cases h⟩
 | a :: l,r,d,h=>by
  cases ha:gh7 x a with
  | none=>rw [yj7 ha] at h; cases h
  | some q =>
   obtain ⟨m,left⟩:=q
   rw [ej7 ha] at h
   obtain ⟨h1,h2⟩:=vp7 l _ _ h
   simp only [Bool.and_eq_true,decide_eq_true_eq] at h1
   refine ⟨h1.1,fun t ht => ?_⟩
   rcases List.mem_cons.1 ht with rfl | ht
   ·exact ⟨h1.2,ru7 t _ _ _ ha⟩
   ·exact h2 t ht
theorem vv7 {x:ba7} {l:List (List ea7)} (h:(nc7 x l).1 = true):∀ t ∈ l,0 < t.length ∧ ∀ s ∈ t,jd7 x s:=(vp7 l true true h).2
theorem tib7:∀ (l:List Nat) (a:Nat),a ∈ l → a ≤ l.sum
 | b :: l,a,h=>by
  rw [List.sum_cons]
  rcases List.mem_cons.1 h with rfl | h
  ·omega
  ·have:=tib7 l a h; omega
theorem dk7 {l:List oa7} {b:oa7} (h:b ∈ l):b.stops.length ≤ ya7 l l.length:=by
 unfold ya7; rw [List.take_length]; exact tib7 _ _ (List.mem_map_of_mem h)
theorem dl7 {l:List (List ea7)} {t:List ea7} (h:t ∈ l):t.length ≤ ra7 l l.length:=by
 unfold ra7; rw [List.take_length]; exact tib7 _ _ (List.mem_map_of_mem h)
def oq7 (x:ba7) (l:List Int) (k:Nat):Bool:=(List.range k).any fun i=>decide ((x.sats.getD i ⟨0,0⟩).room < l.getD i 0)
theorem jgb7 (x:ba7) (l:List Int) (k:Nat):oq7 x l (k + 1) = (oq7 x l k || decide ((x.sats.getD k ⟨0,0⟩).room < l.getD k 0)):=by
 unfold oq7; rw [List.range_succ,List.any_append]; simp
theorem qnb7 {x:ba7} {l:List Int} {k n:Nat} (h:oq7 x l k = true) (hk:k ≤ n):oq7 x l n = true:=by
 simp only [oq7,List.any_eq_true,List.mem_range] at h ⊢
 obtain ⟨i,hi,h⟩:=h
 exact ⟨i,by omega,h⟩
def va7 (x:ba7) (p:za7):Int :=
 if check x ≠ 0 then check x else
 if x.tmany < p.trucks.length ∨ x.bmany < p.bikes.length then 11 else
 if (nc7 x p.trucks).1 = false ∨ (nd7 x p.bikes).1 = false then 15 else
 if (nd7 x p.bikes).2.1 = false then 8 else
 if (nc7 x p.trucks).2 = false ∨ (nd7 x p.bikes).2.2 = false then 10 else
 if oq7 x (kk7 x p.bikes) x.sats.length = true then 10 else
 if kk7 x p.bikes = fi7 x p.trucks then 0 else 13
def kc7 (p:za7):Prop:=ya7 p.bikes p.bikes.length ≤ 1000000 ∧ ra7 p.trucks p.trucks.length ≤ 1000000
theorem wgb7 (x:ba7) (l:List oa7):(kk7 x l).length = x.sats.length:=by unfold kk7; rw [yp7]; simp
theorem ygb7 (x:ba7) (l:List (List ea7)):(fi7 x l).length = x.sats.length:=by unfold fi7; rw [uj7]; simp
theorem bz7 {l:List Int} {n:Nat} (h:sb7 l n) (hn:n ≤ 1000000):∀ v ∈ l,wa7 v:=fun v hv=>by have:=h v hv; unfold wa7; omega
theorem om7 (x:ba7) (hcu:∀ c ∈ x.custs,0 ≤ c.load ∧ c.load ≤ 1000000000) (sat:Int):∀ (l:List Int) (out:List Int) (n:Nat),sb7 out n → sb7 (l.foldl (ie7 x sat) out) (n + l.length)
 | [],out,n,h=>h
 | c :: l,out,n,h=>by
  rw [List.foldl_cons,List.length_cons,show n + (l.length + 1) = (n + 1) + l.length by omega]
  refine om7 x hcu sat l _ _ ?_
  unfold ie7
  split
  ·rename_i hc
   have hc2:c.toNat < x.custs.length:=by omega
   refine h.add ?_ ?_
   ·rw [List.getD_eq_getElem?_getD,List.getElem?_eq_getElem (by omega)]; exact h.get (by omega)
   ·rw [List.getD_eq_getElem?_getD,List.getElem?_eq_getElem hc2]; exact hcu _ (List.getElem_mem hc2)
  ·exact h.mono (by omega)
theorem lm7 (x:ba7) (hcu:∀ c ∈ x.custs,0 ≤ c.load ∧ c.load ≤ 1000000000):∀ (l:List oa7) (out:List Int) (n:Nat),sb7 out n → sb7 (l.foldl (cn7 x) out) (n + ya7 l l.length)
 | [],out,n,h=>h.mono (by omega)
 | b :: l,out,n,h=>by
  have e:ya7 (b :: l) (b :: l).length = b.stops.length + ya7 l l.length:=by unfold ya7; simp
  rw [List.foldl_cons,e, ← Nat.add_assoc]
  exact lm7 x hcu l _ _ (om7 x hcu b.sat b.stops out n h)
theorem bbb7 {x:ba7} {l:List oa7} (hcu:∀ c ∈ x.custs,0 ≤ c.load ∧ c.load ≤ 1000000000):sb7 (kk7 x l) (ya7 l l.length):=by
 have:=lm7 x hcu l _ 0 (sb7.zero x.sats.length)
 rwa [Nat.zero_add] at this
theorem pm7:∀ (l:List ea7) (out:List Int) (n:Nat),(∀ s ∈ l,(0 ≤ s.sat ∧ s.sat < out.length) ∧ 1 ≤ s.load ∧ s.load ≤ 1000000000) → sb7 out n → sb7 (l.foldl mg7 out) (n + l.length)
 | [],out,n,_,h=>h
 | c :: l,out,n,ho,h=>by
  rw [List.foldl_cons,List.length_cons,show n + (l.length + 1) = (n + 1) + l.length by omega]
  refine pm7 l _ _ (fun s hs=>by rw [mn7]; exact ho s (List.mem_cons_of_mem _ hs)) ?_
  have hc:=ho c (List.mem_cons_self ..)
  unfold mg7
  refine h.add ?_ ⟨by omega,by omega⟩
  rw [List.getD_eq_getElem?_getD,List.getElem?_eq_getElem (by omega)]; exact h.get (by omega)
theorem jl7:∀ (l:List (List ea7)) (out:List Int) (n:Nat),(∀ t ∈ l, ∀ s ∈ t,(0 ≤ s.sat ∧ s.sat < out.length) ∧ 1 ≤ s.load ∧ s.load ≤ 1000000000) → sb7 out n → sb7 (l.foldl zf7 out) (n + ra7 l l.length)
 | [],out,n,_,h=>h.mono (by omega)
 | b :: l,out,n,ho,h=>by
  have e:ra7 (b :: l) (b :: l).length = b.length + ra7 l l.length:=by unfold ra7; simp
  rw [List.foldl_cons,e, ← Nat.add_assoc]
  refine jl7 l _ _ (fun t ht s hs => ?_) (pm7 b out n (ho b (List.mem_cons_self ..)) h)
  unfold zf7; rw [cl7]; exact ho t (List.mem_cons_of_mem _ ht) s hs
theorem dz7 {x:ba7} {l:List (List ea7)} (ho:∀ t ∈ l, ∀ s ∈ t,jd7 x s):sb7 (fi7 x l) (ra7 l l.length):=by
 have:=jl7 l _ 0 (fun t ht s hs=>by rw [List.length_replicate]; exact ho t ht s hs) (sb7.zero x.sats.length)
 rwa [Nat.zero_add] at this
theorem oj7 {a:Int} (h:a ≠ 0):(a != 0) = true:=by simpa using h
theorem xf7 {w:World} {F G:Nat → Prop} {x:ba7} {p:za7} {cs ps:List Value} (h:fb7.rep w F x cs) (hp:id7.rep w G p ps) (hn:check x = 0 → x.custs.length ≤ 6) (hsm:kc7 p) :
  Calls Try.prog 44 #[.agg cs.toArray, .agg ps.toArray] w fun e w'=>e = .returned (.int .i64 (va7 x p)) ∧ Below w.heap.size w w':=by
 have hrep:=h
 have hprep:=hp
 obtain ⟨s,c,co,ti,rfl, -,h1,h2, -, -⟩:=h
 obtain ⟨a,b,off,c1,hs,hlc,hc,ha, -,hcell, -⟩:=rc7 h1
 obtain rfl:=List.cons.inj hs |>.1
 obtain ⟨tv,bv,rfl,h3,h4⟩:=hp
 obtain ⟨a2,b2,off2,c2,hs2,hl2,hc2, -, -, -⟩:=oc7 h3
 obtain rfl:=List.cons.inj hs2 |>.1
 obtain ⟨a4,b4,off4,c4,hs4,hl4,hc4, -, -, -⟩:=ld7 h4
 obtain rfl:=List.cons.inj hs4 |>.1
 have HB4:=hid h4
 clear hs hs2 hs4 h1 h2 h3 h4
 have R:=(Row.new (w:=w) (e:=49) (cs:=[.int .i64 x.fin, .int .i64 x.tmany, .int .i64 x.troom, .int .i64 x.bmany, .int .i64 x.broom, .slice a x.sats.length c1,c,co,ti]) rfl).alloc (.cells #[.slice a2 p.trucks.length c2, .slice a4 p.bikes.length c4] 25)
 have RP:=Row.new (w:=w.alloc (.cells #[.int .i64 x.fin, .int .i64 x.tmany, .int .i64 x.troom, .int .i64 x.bmany, .int .i64 x.broom, .slice a x.sats.length c1,c,co,ti] 49)) (e:=25) (g:=w.heap.size + 1) (cs:=[.slice a2 p.trucks.length c2, .slice a4 p.bikes.length c4]) (by simp)
 have hb0:Below w.heap.size w ((w.alloc (.cells #[.int .i64 x.fin, .int .i64 x.tmany, .int .i64 x.troom, .int .i64 x.bmany, .int .i64 x.broom, .slice a x.sats.length c1,c,co,ti] 49)).alloc (.cells #[.slice a2 p.trucks.length c2, .slice a4 p.bikes.length c4] 25)):=((Below.refl _ _).alloc (Nat.le_refl _) _).alloc (by simp) _
 have HS:=hid hsm
 have HC:=hid hcell
 clear hsm hcell
 by_cases hck:check x = 0
 case neg =>
  have hck2:=oj7 hck
  have HE:=hid (show va7 x p = check x from if_pos hck)
  clear hck hn
  go_enter Try.func44,Try.ntmps44
  go_wp2_with fail
  refine (qcb7 (fb7.below hrep hb0)).mono ?_
  rintro e w1 ⟨rfl,hb1⟩
  go_wp2
  go_ret
  exact ⟨mb7 HE.out.symm,ca7 hb0 hb1⟩
 have gd:=hh7 hck
 have hn6:=hn hck
 have hss:=gd.sats
 have htr:=gd.troom
 have hbr:=gd.broom
 have hcu:∀ c ∈ x.custs,0 ≤ c.load ∧ c.load ≤ 1000000000:=fun c hc=>by have:=(gd.cust c hc).1; omega
 have HCK:=hid hck
 have HGD:=hid gd
 clear hck gd hn
 go_enter Try.func44,Try.ntmps44
 go_wp2_with fail
 refine (qcb7 (fb7.below hrep hb0)).mono ?_
 rintro e w1 ⟨rfl,hb1⟩
 rw [HCK.out]
 have R1:=R.below hb1
 have RP1:=RP.below hb1
 have hB1:=ca7 hb0 hb1
 clear R RP hb0 hb1
 obtain ⟨q0,q1,q2,q3,q4,q5,q6,q7,q8⟩:=ig7 R1
 obtain ⟨p0,p1⟩:=be7 RP1
 by_cases e1:x.tmany < p.trucks.length
 ·have HE:=hid (show va7 x p = 11 from by unfold va7; rw [if_neg (by simpa using HCK.out),if_pos (.inl e1)])
  go_wp2
  go_ret
  exact ⟨mb7 HE.out.symm,hB1⟩
 by_cases e2:x.bmany < p.bikes.length
 ·have HE:=hid (show va7 x p = 11 from by unfold va7; rw [if_neg (by simpa using HCK.out),if_pos (.inr e2)])
  go_wp2
  go_ret
  exact ⟨mb7 HE.out.symm,hB1⟩
 have HX:=hid (show ∀ v,(if (nc7 x p.trucks).1 = false ∨ (nd7 x p.bikes).1 = false then 15 else
   if (nd7 x p.bikes).2.1 = false then 8 else if (nc7 x p.trucks).2 = false ∨ (nd7 x p.bikes).2.2 = false then 10 else
   if oq7 x (kk7 x p.bikes) x.sats.length = true then 10 else if kk7 x p.bikes = fi7 x p.trucks then 0 else 13) = v → va7 x p = v from fun v hv=>by
  unfold va7; rw [if_neg (by simpa using HCK.out),if_neg (by omega)]; exact hv)
 go_wp2_with fail
 refine (vpb7 (fb7.below hrep hB1) (id7.below hprep hB1) (by omega) htr (fun t ht=>by have:=dl7 ht; have:=HS.out.2; omega)).mono ?_
 rintro e w2 ⟨rfl,hb2⟩
 have R2:=R1.below hb2
 have RP2:=RP1.below hb2
 have hB2:=ca7 hB1 hb2
 clear q0 q1 q2 q3 q4 q5 q6 q7 q8 p0 p1 R1 RP1 hB1 hb2
 obtain ⟨q0,q1,q2,q3,q4,q5,q6,q7,q8⟩:=ig7 R2
 obtain ⟨p0,p1⟩:=be7 RP2
 have HTO:=hid (vv7 (x:=x) (l:=p.trucks))
 obtain ⟨⟨r1,r2⟩,hrr⟩:∃ r,r = nc7 x p.trucks:=⟨_,rfl⟩
 rw [← hrr] at HX HTO ⊢
 have HRR:=hid hrr
 clear hrr
 simp only [] at HX HTO ⊢
 go_wp2_with fail
 refine (stb7 (fb7.below hrep hB2) (id7.below hprep hB2) hn6 hbr hcu (fun t ht=>by have:=dk7 ht; have:=HS.out.1; omega)).mono ?_
 rintro e w3 ⟨rfl,hb3⟩
 have R3:=R2.below hb3
 have RP3:=RP2.below hb3
 have hB3:=ca7 hB2 hb3
 clear q0 q1 q2 q3 q4 q5 q6 q7 q8 p0 p1 R2 RP2 hB2 hb3
 obtain ⟨q0,q1,q2,q3,q4,q5,q6,q7,q8⟩:=ig7 R3
 obtain ⟨p0,p1⟩:=be7 RP3
 obtain ⟨⟨s1,s2,s3⟩,hrr⟩:∃ r,r = nd7 x p.bikes:=⟨_,rfl⟩
 rw [← hrr] at HX ⊢
 have HSS:=hid hrr
 clear hrr
 simp only [] at HX ⊢
 cases r1
 ·have HE:=hid (HX.out 15 (by simp))
  cases s1
  all_goals
   go_wp2
   go_ret
   exact ⟨mb7 HE.out.symm,hB3⟩
 cases s1
 ·have HE:=hid (HX.out 15 (by simp))
  go_wp2
  go_ret
  exact ⟨mb7 HE.out.symm,hB3⟩
 cases s2
 ·have HE:=hid (HX.out 8 (by simp))
  go_wp2
  go_ret
  exact ⟨mb7 HE.out.symm,hB3⟩
 cases r2
 ·have HE:=hid (HX.out 10 (by simp))
  cases s3
  all_goals
   go_wp2
   go_ret
   exact ⟨mb7 HE.out.symm,hB3⟩
 cases s3
 ·have HE:=hid (HX.out 10 (by simp))
  go_wp2
  go_ret
  exact ⟨mb7 HE.out.symm,hB3⟩
 have HY:=hid (show ∀ v,(if oq7 x (kk7 x p.bikes) x.sats.length = true then 10 else if kk7 x p.bikes = fi7 x p.trucks then 0 else 13) = v → va7 x p = v from fun v hv=>HX.out v (by simpa using hv))
 clear HX HRR HSS
 go_wp2_with fail
 have hbk:mm7.rep w3 G p.bikes [.slice a4 p.bikes.length c4]:=mm7.below HB4.out hB3
 refine (qsb7 (fb7.below hrep hB3) hbk (by omega) hcu HS.out.1).mono ?_
 rintro e w4 ⟨g,rfl,hg,hgw,hb4⟩
 have hB4:=ca7 hB3 hb4
 have R4:=R3.below hb4
 have RP4:=RP3.below hb4
 have hgz:w.heap.size + 1 < g:=by have:=RP3.lt; omega
 clear q0 q1 q2 q3 q4 q5 q6 q7 q8 p0 p1 R3 RP3 hB3 hb4 hbk hgw
 obtain ⟨q0,q1,q2,q3,q4,q5,q6,q7,q8⟩:=ig7 R4
 obtain ⟨p0,p1⟩:=be7 RP4
 have hll:=wgb7 x p.bikes
 have hsl:=bbb7 (x:=x) (l:=p.bikes) hcu
 have hsn:=HS.out.1
 obtain ⟨ll,hlle⟩:∃ ll,ll = kk7 x p.bikes:=⟨_,rfl⟩
 rw [← hlle] at hll hsl HY hg
 have HL:=hid hlle
 have HLL:=hid hll
 have HSL:=hid hsl
 have HG:=hid hg
 clear hlle hll hsl hg
 go_wp2
 go_loop [71] (fun i => ∃ k:Nat,k ≤ x.sats.length ∧ i = .int .i64 k ∧ oq7 x ll k = false) (fun i=>x.sats.length - (intOf i).toNat)
 case atStart=>exact ⟨0,Nat.zero_le _,rfl,rfl⟩
 case round =>
  obtain ⟨k,hk,rfl,hov⟩:=hrel
  by_cases hlt:k < x.sats.length
  ·have hkl:k < ll.length:=by have:=HLL.out; omega
   have g0:=HG.out.cell (j:=k) (by rw [List.length_map]; exact hkl)
   rw [List.getElem_map] at g0
   have gs:=aa7 hB4 (HC.out k hlt).1
   have hix:=la7 (c:=x.sats.length) Try.underlying43 xb7 (a:=some ⟨g,0,none⟩) rfl hlt
   have his:=nb7 (c:=c1) Try.underlying46 ny7 (ha (by omega)) hlt
   rw [Nat.zero_add] at hix
   obtain ⟨v,hv⟩:∃ v,v = ll[k]:=⟨_,rfl⟩
   obtain ⟨r,hr⟩:∃ r,r = (x.sats[k]).room:=⟨_,rfl⟩
   rw [← hv] at g0
   rw [← hr] at gs
   unfold gb7 at g0
   have HO:=hid (show oq7 x ll (k + 1) = decide (r < v) from by
    rw [jgb7,hov,hv,hr,List.getD_eq_getElem?_getD,List.getD_eq_getElem?_getD,List.getElem?_eq_getElem hlt,List.getElem?_eq_getElem hkl]; rfl)
   clear hv hr hov hkl
   by_cases hrv:r < v
   ·have HE:=hid (HY.out 10 (if_pos (qnb7 (k:=k + 1) (by rw [HO.out]; exact decide_eq_true hrv) (by omega))))
    go_wp2
    go_ret
    exact ⟨mb7 HE.out.symm,hB4⟩
   ·have HO2:=hid (show oq7 x ll (k + 1) = false from by rw [HO.out]; exact decide_eq_false hrv)
    go_wp2
    go_round
    case rel=>exact ⟨k + 1,by omega,by go_num,HO2.out⟩
    case measure=>simp [intOf]; omega
  ·have hke:k = x.sats.length:=by omega
   subst hke
   have HZ:=hid (show ∀ v,(if ll = fi7 x p.trucks then 0 else 13) = v → va7 x p = v from fun v hv=>HY.out v (by rw [if_neg (by rw [hov]; decide)]; exact hv))
   have hto:∀ t ∈ p.trucks, ∀ s ∈ t,jd7 x s:=fun t ht=>(HTO.out trivial t ht).2
   have hds:=dz7 hto
   have hdl:=ygb7 x p.trucks
   clear hov HY HC ha
   go_wp2_with fail
   refine (csb7 (fb7.below hrep hB4) (id7.below hprep hB4) (by omega) hto HS.out.2).mono ?_
   rintro e w5 ⟨g',rfl,hg',hgw',hb5⟩
   have hB5:=ca7 hB4 hb5
   have hwl:=bz7 HSL.out hsn
   have hwd:=bz7 hds HS.out.2
   have r1:(ga7 ge7).rep w5 (fun _=>True) ll [.slice (some ⟨g,0,none⟩) ll.length ll.length]:=qx7 (HG.out.below hb5) (Nat.le_refl _) (by unfold maxLen; have:=HLL.out; omega) trivial hwl
   have r2:(ga7 ge7).rep w5 (fun _=>True) (fi7 x p.trucks) [.slice (some ⟨g',0,none⟩) (fi7 x p.trucks).length (fi7 x p.trucks).length]:=qx7 hg' (Nat.le_refl _) (by unfold maxLen; omega) trivial hwd
   rw [HLL.out] at r1
   rw [hdl] at r2
   have HDS:=hid hds
   have HWL:=hid hwl
   clear q0 q1 q2 q3 q4 q5 q6 q7 q8 p0 p1 hdl hds hwl hwd hto hb5
   go_wp2_with fail
   refine (heb7 r1 r2).mono ?_
   rintro e w6 ⟨rfl,nd,rfl⟩
   by_cases hd:ll = fi7 x p.trucks
   ·have HE:=hid (HZ.out 0 (if_pos hd))
    rw [decide_eq_true hd]
    go_wp2
    go_ret
    exact ⟨mb7 HE.out.symm,below_drewN hB5 _⟩
   ·have HE:=hid (HZ.out 13 (if_neg hd))
    rw [decide_eq_false hd]
    go_wp2
    go_ret
    exact ⟨mb7 HE.out.symm,below_drewN hB5 _⟩
theorem vd7 {w:World} {F:Nat → Prop} {x:ba7} {cs:List Value} (h:fb7.rep w F x cs) {n:Int} (hn:0 ≤ n ∧ n ≤ 1000000000) :
  Calls Try.prog 71 #[.agg cs.toArray, .int .i64 n] w fun e w'=>e = .returned (.int .i64 (1 + n)) ∧ Below w.heap.size w w':=by
 obtain ⟨s,c,co,ti,rfl, -, -, -, -, -⟩:=h
 go_enter Try.func71,Try.ntmps71
 go_wp2
 go_ret
 exact ⟨rfl,(Below.refl _ _).alloc (Nat.le_refl _) _⟩
theorem yi7 {w:World} {F:Nat → Prop} {x:ba7} {cs:List Value} (h:fb7.rep w F x cs) (hl:x.sats.length ≤ 1000000) {n:Int} (hn:0 ≤ n ∧ n ≤ 1000000000) :
  Calls Try.prog 72 #[.agg cs.toArray, .int .i64 n] w fun e w'=>e = .returned (.int .i64 (1 + x.sats.length + n)) ∧ Below w.heap.size w w':=by
 obtain ⟨s,c,co,ti,rfl, -,h1, -, -, -⟩:=h
 obtain ⟨a,b,off,c1,hs, -, -, -, -, -, -⟩:=rc7 h1
 obtain rfl:=List.cons.inj hs |>.1
 clear hs h1
 go_enter Try.func72,Try.ntmps72
 go_wp2
 go_ret
 exact ⟨rfl,(Below.refl _ _).alloc (Nat.le_refl _) _⟩
def dq7 (x:ba7) (a b:Int):Int:=(x.cost.getD a.toNat []).getD b.toNat 0
def lu7 (x:ba7) (l:List Int) (k:Nat):Int:=((List.range k).map fun i=>dq7 x (l.getD i 0) (l.getD ((i + 1) % l.length) 0)).sum
def enb7 (x:ba7) (l:List Int):Int:=lu7 x l l.length
theorem tv7 (x:ba7) (l:List Int) (k:Nat):lu7 x l (k + 1) = lu7 x l k + dq7 x (l.getD k 0) (l.getD ((k + 1) % l.length) 0):=by
 unfold lu7; rw [List.range_succ,List.map_append,List.sum_append]; simp
theorem py7 {x:ba7} (g:Good x) (a b:Int):0 ≤ dq7 x a b ∧ dq7 x a b ≤ 1000000000:=by
 unfold dq7
 rw [List.getD_eq_getElem?_getD,List.getD_eq_getElem?_getD]
 by_cases h:a.toNat < x.cost.length
 ·rw [List.getElem?_eq_getElem h,Option.getD_some]
  by_cases h2:b.toNat < (x.cost[a.toNat]).length
  ·rw [List.getElem?_eq_getElem h2]; exact g.cost _ (List.getElem_mem h) _ (List.getElem_mem h2)
  ·rw [List.getElem?_eq_none (by omega)]; decide
 ·rw [show x.cost[a.toNat]? = none from List.getElem?_eq_none (by omega)]; simp
theorem yw7 {x:ba7} (g:Good x) (l:List Int):∀ k:Nat,0 ≤ lu7 x l k ∧ lu7 x l k ≤ 1000000000 * (k:Int)
 | 0=>by unfold lu7; simp
 | k + 1=>by
  have h1:=yw7 g l k
  have h2:=py7 g (l.getD k 0) (l.getD ((k + 1) % l.length) 0)
  rw [tv7]; push_cast; omega
theorem dxb7 {w:World} {F G:Nat → Prop} {x:ba7} {cs:List Value} {l:List Int} {v:Value} (h:fb7.rep w F x cs) (hl:(ga7 ge7).rep w G l [v]) (hck:check x = 0) (hin:∀ a ∈ l,0 ≤ a ∧ a < nodes x) (hn:l.length ≤ 2000000) :
  Calls Try.prog 91 #[.agg cs.toArray,v] w fun e w'=>e = .returned (.int .i64 (enb7 x l)) ∧ Below w.heap.size w w':=by
 have hrep:=h
 obtain ⟨s,c,co,ti,rfl, -,h1, -,h3, -⟩:=h
 obtain ⟨a,b,off,c1,hs, -, -, -, -, -, -⟩:=rc7 h1
 obtain rfl:=List.cons.inj hs |>.1
 obtain ⟨a7,b7,off7,c7,hs7,hl7,hc7,ha7, -,hcell7⟩:=lc7 h3
 obtain rfl:=List.cons.inj hs7 |>.1
 obtain ⟨a2,b2,off2,c2,hs2,hl2,hc2,ha2, -,hcell2, -⟩:=bb7 hl
 obtain rfl:=List.cons.inj hs2 |>.1
 clear hs hs7 hs2 h1 h3 hl
 have gd:=hh7 hck
 have hnl:=gd.sats
 have hnc:=gd.custs
 have hco:=gd.costL
 have HCK:=hid hck
 have HGD:=hid gd
 have HCO:=hid hco
 clear hck gd hco
 go_enter Try.func91,Try.ntmps91
 go_wp2
 go_loopw [5,11] (fun ss i wr => ∃ k:Nat,k ≤ l.length ∧ i = .int .i64 k ∧ ss = .int .i64 (lu7 x l k) ∧ Row wr w.heap.size 49 [.int .i64 x.fin, .int .i64 x.tmany, .int .i64 x.troom, .int .i64 x.bmany, .int .i64 x.broom, .slice a x.sats.length c1,c, .slice a7 x.cost.length c7,ti] ∧
   Below w.heap.size w wr) (fun _ i _=>l.length - (intOf i).toNat)
 case atStart=>exact ⟨0,Nat.zero_le _,rfl,rfl,Row.new (cs:=[.int .i64 x.fin, .int .i64 x.tmany, .int .i64 x.troom, .int .i64 x.bmany, .int .i64 x.broom, .slice a x.sats.length c1,c, .slice a7 x.cost.length c7,ti]) rfl,(Below.refl _ _).alloc (Nat.le_refl _) _⟩
 case round =>
  obtain ⟨k,hk,rfl,rfl,R,hb⟩:=hrel
  obtain ⟨wo,rfl⟩:∃ wo:World,wo = wr:=⟨_,rfl⟩
  have hsb:=yw7 HGD.out l k
  have hkk:1000000000 * (k:Int) ≤ 1000000000 * 2000000:=by omega
  obtain ⟨sm,hsm⟩:∃ sm,sm = lu7 x l k:=⟨_,rfl⟩
  rw [← hsm] at hsb ⊢
  have HSM:=hid hsm
  clear hsm
  by_cases hlt:k < l.length
  ·have hx:=la7 (c:=c2) Try.underlying71 di7 (ha2 (by omega)) hlt
   have hml:(k + 1) % l.length < l.length:=Nat.mod_lt _ (by omega)
   have hx2:∀ w,(Instr.indexAt 71 (.slice a2 l.length c2) (.int .i64 (((k:Int) + 1) % (l.length:Int)))).run Try.prog w = .ok (.pointer (some ⟨b2,off2 + (k + 1) % l.length,none⟩)) w:=fun w=>by
    have:=la7 (c:=c2) Try.underlying71 di7 (ha2 (by omega)) hml w
    simpa using this
   have g0:=aa7 hb (hcell2 k hlt)
   have g1:=aa7 hb (hcell2 _ hml)
   have i0:=hin _ (List.getElem_mem hlt)
   have i1:=hin _ (List.getElem_mem hml)
   obtain ⟨A,hA⟩:∃ A,A = l[k]:=⟨_,rfl⟩
   obtain ⟨B,hB⟩:∃ B,B = l[(k + 1) % l.length]:=⟨_,rfl⟩
   rw [← hA] at g0 i0
   rw [← hB] at g1 i1
   have HS:=hid (show lu7 x l (k + 1) = sm + dq7 x A B from by
    rw [tv7,HSM.out,hA,hB,List.getD_eq_getElem?_getD,List.getD_eq_getElem?_getD,List.getElem?_eq_getElem hlt,List.getElem?_eq_getElem hml]; rfl)
   obtain ⟨an,rfl⟩:∃ an:Nat,A = an:=⟨A.toNat,by omega⟩
   obtain ⟨bn,rfl⟩:∃ bn:Nat,B = bn:=⟨B.toNat,by omega⟩
   have hab:=py7 HGD.out an bn
   have ha3:an < x.cost.length:=by rw [HCO.out]; omega
   obtain ⟨rv,gr,rr⟩:=hcell7 an ha3
   obtain ⟨a8,b8,off8,c8,hs8,hl8,hc8,ha8, -,hcell8, -⟩:=bb7 rr
   obtain rfl:=List.cons.inj hs8 |>.1
   have hrl:=HGD.out.costR _ (List.getElem_mem ha3)
   have hb3:bn < (x.cost[an]).length:=by rw [hrl]; omega
   clear hrl
   have hxr:=la7 (c:=c7) Try.underlying26 pf7 (ha7 (by omega)) ha3
   have hxc:=la7 (c:=c8) Try.underlying43 xb7 (ha8 (by omega)) hb3
   have g3:=hcell8 bn hb3
   obtain ⟨cv,hcv⟩:∃ cv,cv = x.cost[an][bn]:=⟨_,rfl⟩
   have HCV:=hid (show dq7 x an bn = cv from by unfold dq7; rw [Int.toNat_natCast,Int.toNat_natCast,List.getD_eq_getElem?_getD,List.getD_eq_getElem?_getD,List.getElem?_eq_getElem ha3,Option.getD_some,List.getElem?_eq_getElem hb3,hcv]; rfl)
   rw [← hcv] at g3
   rw [HCV.out] at hab
   rw [HCV.out] at HS
   clear hA hB hcv hcell2 ha2 hcell7 ha7 hcell8 ha8 hs8 rr hin
   obtain ⟨q0,q1,q2,q3,q4,q5,q6,q7,q8⟩:=ig7 R
   go_wp2_with fail
   refine (qcb7 (fb7.below hrep hb)).mono ?_
   rintro e w1 ⟨rfl,hb1⟩
   rw [HCK.out]
   have R1:=R.below hb1
   have hB1:=ca7 hb hb1
   clear q0 q1 q2 q3 q4 q5 q6 q7 q8 R
   obtain ⟨q0,q1,q2,q3,q4,q5,q6,q7,q8⟩:=ig7 R1
   go_wp2_with fail
   refine (tcb7 (fb7.below hrep hB1) (by omega) (by omega)).mono ?_
   rintro e w2 ⟨rfl,hb2⟩
   have R2:=R1.below hb2
   have hB2:=ca7 hB1 hb2
   clear q0 q1 q2 q3 q4 q5 q6 q7 q8 R1
   obtain ⟨q0,q1,q2,q3,q4,q5,q6,q7,q8⟩:=ig7 R2
   go_wp2_with fail
   refine (tcb7 (fb7.below hrep hB2) (by omega) (by omega)).mono ?_
   rintro e w3 ⟨rfl,hb3⟩
   have R3:=R2.below hb3
   have hB3:=ca7 hB2 hb3
   have g5:=aa7 hB3 gr
   have g6:=aa7 hB3 g3
   clear q0 q1 q2 q3 q4 q5 q6 q7 q8 R2 gr g3 g0 g1
   obtain ⟨q0,q1,q2,q3,q4,q5,q6,q7,q8⟩:=ig7 R3
   go_wp2
   go_roundw
   case rel=>exact ⟨k + 1,by omega,by go_num,by rw [HS.out],R3,hB3⟩
   case measure=>simp [intOf]; omega
  ·have hke:k = l.length:=by omega
   subst hke
   clear hcell2 ha2 hcell7 ha7
   go_wp2
   go_ret
   exact ⟨mb7 HSM.out,hb⟩
theorem xwb7 {α β:Type} (f:α → β):∀ xs:List α,xs.flatMap (fun x=>[f x]) = xs.map f
 | []=>rfl
 | x :: xs=>by rw [List.flatMap_cons,List.map_cons,xwb7 f xs]; rfl
theorem rw7 {α:Type} {S:Shape α} {h0:0 < S.sz} {w:World} {B:Nat} {T:TypeId} {v:Value} {xs:List α} (enc:α → List Value) (hl:∀ x,(enc x).length = S.sz) (hs:∀ x ∈ xs,S.rep w (fun b=>B ≤ b) x (enc x))
  (h:w.ownsRow B T S.sz v xs.length (xs.flatMap enc)):(ga7 S h0).rep w (fun b=>B ≤ b) xs [v]:=by
 obtain ⟨h1,h2⟩:=h
 rcases h2 with ⟨rfl,hn⟩ | ⟨g,cap,cur,rfl,hg,hh,hn1,hc,hsz,ht⟩
 ·have:xs = []:=List.eq_nil_of_length_eq_zero hn
  subst this
  exact ⟨none,0,0,0,rfl,Nat.le_refl _,Nat.zero_le _,fun h=>absurd h (Nat.not_lt_zero _),fun i h=>absurd h (Nat.not_lt_zero _)⟩
 ·have hR:Row w g T (xs.flatMap enc):=⟨cur,cur.toList.drop (xs.length * S.sz),hh,by rw [← ht,List.take_append_drop]⟩
  refine ⟨some ⟨g,0,none⟩,g,0,cap,rfl,hn1,hc,fun _=>⟨rfl,hg⟩,fun i hi=>⟨enc xs[i],hs _ (List.getElem_mem hi),fun j hj => ?_⟩⟩
  have e:=vj7 enc S.sz hl xs i j hi hj
  have hj':j < (enc xs[i]).length:=by rw [hl]; exact hj
  rw [List.getElem?_eq_getElem hj'] at e ⊢
  rw [Nat.zero_add]
  exact hR.get e
theorem xi7 {w:World} {B:Nat} {T:TypeId} {v:Value} {xs:List Int} (h:w.ownsRow B T 1 v xs.length (xs.map gb7)) (hw:∀ x ∈ xs,wa7 x):(ga7 ge7).rep w (fun b=>B ≤ b) xs [v] :=
 rw7 (S:=ge7) (fun x=>[gb7 x]) (fun _=>rfl) (fun x hx=>⟨rfl,hw x hx⟩) (by rw [xwb7]; exact h)
theorem Row.grown {w w':World} {g:Nat} {e:TypeId} {cs:List Value} {B T n k:Nat} {v:Value} {xs:List Value} (h:Row w g e cs) (hown:w.ownsRow B T k v n xs) (he:e ≠ T) (hg:w.grownBy w' v.ownBlock):Row w' g e cs :=
 h.keep (hg.block g h.lt fun e=>by obtain ⟨cs',hc'⟩:=we7 hown e.symm; exact h.ne hc' he rfl)
theorem ed7 {B B' T n k:Nat} {a w w':World} {v:Value} {xs:List Value} (h:Below B a w) (hown:w.ownsRow B' T k v n xs) (hB:B ≤ w.heap.size) (hB':B ≤ B') (hg:w.grownBy w' v.ownBlock):Below B a w' :=
 h.grown hg hB fun k hk=>Nat.le_trans hB' (hown.lt k hk).1
def lb7 (t:List ea7):List Int:=0 :: t.map (fun s=>1 + s.sat)
def pb7 (x:ba7) (b:oa7):List Int:=(1 + b.sat) :: b.stops.map (fun c=>1 + x.sats.length + c)
theorem ro7 {α β:Type} (f:α → β) (z:β) (l:List α) (k:Nat) (h:k < l.length):z :: (l.take (k + 1)).map f = (z :: (l.take k).map f) ++ [f l[k]]:=by
 rw [List.take_succ_eq_append_getElem h,List.map_append]; rfl
def ws7 (t:List ea7) (k:Nat):List Value:=(0 :: (t.take k).map (fun s=>1 + s.sat)).map gb7
def pbb7 (x:ba7) (st:Int) (t:List Int) (k:Nat):List Value:=((1 + st) :: (t.take k).map (fun c=>1 + x.sats.length + c)).map gb7
theorem adb7 (t:List ea7) (k:Nat) (h:k < t.length):ws7 t (k + 1) = ws7 t k ++ [.int .i64 (1 + t[k].sat)]:=by
 unfold ws7; rw [ro7 _ _ _ _ h,List.map_append]; rfl
theorem xfb7 (x:ba7) (st:Int) (t:List Int) (k:Nat) (h:k < t.length):pbb7 x st t (k + 1) = pbb7 x st t k ++ [.int .i64 (1 + x.sats.length + t[k])]:=by
 unfold pbb7; rw [ro7 _ _ _ _ h,List.map_append]; rfl
theorem rj7:(Try.prog.info? 3).map (fun i=>(i.zero,i.size,i.bytes)) = some (some (.int .i64 0),1,8):=by kernel_rfl
theorem fz7 {w:World} {F G:Nat → Prop} {x:ba7} {cs:List Value} {t:List ea7} {v:Value} (h:fb7.rep w F x cs) (hl:(ga7 ye7).rep w G t [v]) (hin:∀ s ∈ t,0 ≤ s.sat ∧ s.sat ≤ 1000000) (hn:t.length ≤ 1000000) :
  Calls Try.prog 92 #[.agg #[v], .agg cs.toArray] w fun e w' => ∃ u,e = .returned u ∧ (ga7 ge7).rep w' (fun b=>w.heap.size ≤ b) (lb7 t) [u] ∧ Below w.heap.size w w':=by
 have hrep:=h
 obtain ⟨s,c,co,ti,rfl, -, -, -, -, -⟩:=h
 obtain ⟨a2,b2,off2,c2,hs2,hl2,hc2,ha2, -,hcell2, -⟩:=ce7 hl
 obtain rfl:=List.cons.inj hs2 |>.1
 clear hs2 hl
 go_enter Try.func92,Try.ntmps92
 go_wp2
 go_loopw [5,12] (fun ov i wr => ∃ (k:Nat) (ao:Option Addr) (cp:Nat),k ≤ t.length ∧ i = .int .i64 k ∧ ov = .slice ao (k + 1) cp ∧ wr.ownsRow w.heap.size 3 1 (.slice ao (k + 1) cp) (k + 1) (ws7 t k) ∧
   Row wr (w.heap.size + 1) 49 [.int .i64 x.fin, .int .i64 x.tmany, .int .i64 x.troom, .int .i64 x.bmany, .int .i64 x.broom,s,c,co,ti] ∧ Below w.heap.size w wr) (fun _ i _=>t.length - (intOf i).toNat)
 case atStart =>
  refine ⟨0,_,_,Nat.zero_le _,rfl,rfl, ?_, ?_,(((Below.refl _ _).alloc (Nat.le_refl _) _).alloc (by simp) _).alloc (by simp; omega) _⟩
  ·have:=World.ownsRow_lit (e:=3) (size:=1) (base:=w.heap.size) ((w.alloc (.cells #[.slice a2 t.length c2] 82)).alloc (.cells #[.int .i64 x.fin, .int .i64 x.tmany, .int .i64 x.troom, .int .i64 x.bmany, .int .i64 x.broom,s,c,co,ti] 49)) #[.int .i64 0] 1 (by simp; omega) (by decide) rfl
   simpa [ws7,gb7] using this
  ·exact Row.alloc (Row.new (w:=w.alloc (.cells #[.slice a2 t.length c2] 82)) (cs:=[.int .i64 x.fin, .int .i64 x.tmany, .int .i64 x.troom, .int .i64 x.bmany, .int .i64 x.broom,s,c,co,ti]) (by simp)) _
 case round =>
  obtain ⟨k,ao,cp,hk,rfl,rfl,hown,R,hb⟩:=hrel
  obtain ⟨wo,rfl⟩:∃ wo:World,wo = wr:=⟨_,rfl⟩
  by_cases hlt:k < t.length
  ·have hx:=nb7 (c:=c2) Try.underlying80 qt7 (ha2 (by omega)) hlt
   have g0:=aa7 hb (hcell2 k hlt).1
   have g1:=aa7 hb (hcell2 k hlt).2
   have i0:=hin _ (List.getElem_mem hlt)
   obtain ⟨sp,hsp⟩:∃ sp,sp = t[k]:=⟨_,rfl⟩
   rw [← hsp] at g0 g1 i0
   obtain ⟨st,ld⟩:=sp
   simp only [] at g0 g1 i0
   have HM:=hid (adb7 t k hlt)
   rw [← hsp] at HM
   have R0:=R.alloc (.cells #[.int .i64 st, .int .i64 ld] 79)
   have hsz:=hb.size
   have hb0:=hb.alloc hb.size (.cells #[.int .i64 st, .int .i64 ld] 79)
   have hown0:=hown.alloc (.cells #[.int .i64 st, .int .i64 ld] 79)
   have HO:=hid hown0
   obtain ⟨q0,q1,q2,q3,q4,q5,q6,q7,q8⟩:=ig7 R0
   clear hcell2 ha2 hsp hin hown R hown0
   go_wp2_with fail
   refine (vd7 (fb7.below hrep hb0) (by omega)).mono ?_
   rintro e w1 ⟨rfl,hb1⟩
   have R1:=R0.below hb1
   have hB1:=ca7 hb0 hb1
   have hown1:=na7 HO.out hb1
   have hs1:=hB1.size
   clear q0 q1 q2 q3 q4 q5 q6 q7 q8 R0
   have HR1:=hid R1
   have HB1:=hid hB1
   obtain ⟨i1,hi,hz0,hz1,hz2⟩:=info_parts rj7
   clear R1 hB1 hb0 hb1
   go_wp2_with (at_builtin; refine wpList_append_own _ rfl _ _ 71 rfl w.heap.size 3 i1 (.int .i64 0) 1 8 Try.underlying71 hi hz0 hz1 hz2 rfl (by decide) _ _ _ rfl (hown1.alloc _) ⟨w1.heap.size,0,none⟩ 1 1 [.int .i64 (1 + st)] rfl rfl ?c1 ?c2 ?c3 ?c4 ?c5 ?_)
   case c1=>exact cell_one_new _ _ _
   case c2=>intro u hu; simp at hu; subst hu; rfl
   case c3=>unfold maxLen; omega
   case c4=>omega
   case c5=>simp; omega
   intro v' w2 hown' hgrow _
   obtain ⟨ao',cp',hv', -, -⟩:=ua7 hown'
   subst hv'
   have hR2:=(HR1.out.alloc _).grown (hown1.alloc _) (by decide) hgrow
   have hB2:=ed7 (HB1.out.alloc hs1 _) (hown1.alloc _) (by simp; omega) (Nat.le_refl _) hgrow
   have HOW:=hid (show w2.ownsRow w.heap.size 3 1 (.slice ao' (k + 1 + 1) cp') (k + 1 + 1) (ws7 t (k + 1)) from by rw [HM.out]; exact hown')
   clear hown' hgrow hown1 hi hz0 hz1 hz2
   go_wp2
   go_roundw
   case rel=>exact ⟨k + 1,ao',cp',by omega,by go_num,rfl,HOW.out,hR2,hB2⟩
   case measure=>simp [intOf]; omega
  ·have hke:k = t.length:=by omega
   subst hke
   have hr:(ga7 ge7).rep wo (fun b=>w.heap.size ≤ b) (lb7 t) [.slice ao (t.length + 1) cp]:=by
    refine xi7 (T:=3) ?_ ?_
    ·have:(lb7 t).length = t.length + 1:=by simp [lb7]
     rw [this]; unfold lb7; unfold ws7 at hown; rw [List.take_length] at hown; exact hown
    ·intro v hv
     simp only [lb7,List.mem_cons,List.mem_map] at hv
     rcases hv with rfl | ⟨s,hs,rfl⟩
     ·unfold wa7; omega
     ·have:=hin s hs; unfold wa7; omega
   have HR:=hid hr
   clear hr hown hcell2 ha2 hin
   go_wp2
   go_ret
   exact ⟨_,rfl,HR.out,hb⟩
theorem acb7 {w:World} {F G:Nat → Prop} {x:ba7} {cs:List Value} {k0:oa7} {bs:List Value} (h:fb7.rep w F x cs) (hl:vm7.rep w G k0 bs) (hsl:x.sats.length ≤ 1000000) (hb0:0 ≤ k0.sat ∧ k0.sat ≤ 1000000)
  (hin:∀ c ∈ k0.stops,0 ≤ c ∧ c ≤ 1000000) (hn:k0.stops.length ≤ 1000000) :
  Calls Try.prog 93 #[.agg bs.toArray, .agg cs.toArray] w fun e w' => ∃ u,e = .returned u ∧ (ga7 ge7).rep w' (fun b=>w.heap.size ≤ b) (pb7 x k0) [u] ∧ Below w.heap.size w w':=by
 have hrep:=h
 obtain ⟨s,c,co,ti,rfl, -, -, -, -, -⟩:=h
 obtain ⟨v,rfl, -,hl⟩:=hl
 obtain ⟨st,t⟩:=k0
 simp only [] at hl hb0 hin hn
 obtain ⟨a2,b2,off2,c2,hs2,hl2,hc2,ha2, -,hcell2, -⟩:=bb7 hl
 obtain rfl:=List.cons.inj hs2 |>.1
 clear hs2 hl
 have R0:=Row.new (w:=w.alloc (.cells #[.int .i64 st, .slice a2 t.length c2] 73)) (g:=w.heap.size + 1) (e:=49) (cs:=[.int .i64 x.fin, .int .i64 x.tmany, .int .i64 x.troom, .int .i64 x.bmany, .int .i64 x.broom,s,c,co,ti]) (by simp)
 have P0:=(Row.new (w:=w) (g:=w.heap.size) (e:=73) (cs:=[.int .i64 st, .slice a2 t.length c2]) rfl).alloc (.cells #[.int .i64 x.fin, .int .i64 x.tmany, .int .i64 x.troom, .int .i64 x.bmany, .int .i64 x.broom,s,c,co,ti] 49)
 have hbb:Below w.heap.size w ((w.alloc (.cells #[.int .i64 st, .slice a2 t.length c2] 73)).alloc (.cells #[.int .i64 x.fin, .int .i64 x.tmany, .int .i64 x.troom, .int .i64 x.bmany, .int .i64 x.broom,s,c,co,ti] 49)):=((Below.refl _ _).alloc (Nat.le_refl _) _).alloc (by simp) _
 go_enter Try.func93,Try.ntmps93
 go_wp2_with fail
 refine (vd7 (fb7.below hrep hbb) (by omega)).mono ?_
 rintro e w1 ⟨rfl,hb1⟩
 have R1:=R0.below hb1
 have hB1:=ca7 hbb hb1
 have P1:=P0.below hb1
 clear R0 P0 hbb hb1
 obtain ⟨p0,p1⟩:=be7 P1
 have hs1:=hB1.size
 have hz1:=P1.lt
 have hz2:=R1.lt
 go_wp2
 go_loopw [5,16] (fun ov i wr => ∃ (k:Nat) (ao:Option Addr) (cp:Nat),k ≤ t.length ∧ i = .int .i64 k ∧ ov = .slice ao (k + 1) cp ∧ wr.ownsRow w.heap.size 3 1 (.slice ao (k + 1) cp) (k + 1) (pbb7 x st t k) ∧
   Row wr (w.heap.size + 1) 49 [.int .i64 x.fin, .int .i64 x.tmany, .int .i64 x.troom, .int .i64 x.bmany, .int .i64 x.broom,s,c,co,ti] ∧ Below w.heap.size w wr) (fun _ i _=>t.length - (intOf i).toNat)
 case atStart =>
  refine ⟨0,_,_,Nat.zero_le _,rfl,rfl, ?_,R1.alloc _,hB1.alloc hs1 _⟩
  have:=World.ownsRow_lit (e:=3) (size:=1) (base:=w.heap.size) w1 #[.int .i64 (1 + st)] 1 hs1 (by decide) rfl
  simpa [pbb7,gb7] using this
 case round =>
  clear R1 P1 p0 p1 hB1
  obtain ⟨k,ao,cp,hk,rfl,rfl,hown,R,hb⟩:=hrel
  obtain ⟨wo,rfl⟩:∃ wo:World,wo = wr:=⟨_,rfl⟩
  by_cases hlt:k < t.length
  ·have hx:=la7 (c:=c2) Try.underlying71 di7 (ha2 (by omega)) hlt
   have g0:=aa7 hb (hcell2 k hlt)
   have i0:=hin _ (List.getElem_mem hlt)
   obtain ⟨sp,hsp⟩:∃ sp,sp = t[k]:=⟨_,rfl⟩
   rw [← hsp] at g0 i0
   have HM:=hid (xfb7 x st t k hlt)
   rw [← hsp] at HM
   have hsz:=hb.size
   have HO:=hid hown
   obtain ⟨q0,q1,q2,q3,q4,q5,q6,q7,q8⟩:=ig7 R
   clear hcell2 ha2 hsp hin hown
   go_wp2_with fail
   refine (yi7 (fb7.below hrep hb) hsl (by omega)).mono ?_
   rintro e w1 ⟨rfl,hb1⟩
   have R1:=R.below hb1
   have hB1:=ca7 hb hb1
   have hown1:=na7 HO.out hb1
   have hs1:=hB1.size
   clear q0 q1 q2 q3 q4 q5 q6 q7 q8 R
   have HR1:=hid R1
   have HB1:=hid hB1
   obtain ⟨i1,hi,hz0,hz1,hz2⟩:=info_parts rj7
   clear R1 hB1 hb hb1
   go_wp2_with (at_builtin; refine wpList_append_own _ rfl _ _ 71 rfl w.heap.size 3 i1 (.int .i64 0) 1 8 Try.underlying71 hi hz0 hz1 hz2 rfl (by decide) _ _ _ rfl (hown1.alloc _) ⟨w1.heap.size,0,none⟩ 1 1 [.int .i64 (1 + x.sats.length + sp)] rfl rfl ?c1 ?c2 ?c3 ?c4 ?c5 ?_)
   case c1=>exact cell_one_new _ _ _
   case c2=>intro u hu; simp at hu; subst hu; rfl
   case c3=>unfold maxLen; omega
   case c4=>omega
   case c5=>simp; omega
   intro v' w2 hown' hgrow _
   obtain ⟨ao',cp',hv', -, -⟩:=ua7 hown'
   subst hv'
   have hR2:=(HR1.out.alloc _).grown (hown1.alloc _) (by decide) hgrow
   have hB2:=ed7 (HB1.out.alloc hs1 _) (hown1.alloc _) (by simp; omega) (Nat.le_refl _) hgrow
   have HOW:=hid (show w2.ownsRow w.heap.size 3 1 (.slice ao' (k + 1 + 1) cp') (k + 1 + 1) (pbb7 x st t (k + 1)) from by rw [HM.out]; exact hown')
   clear hown' hgrow hown1 hi hz0 hz1 hz2
   go_wp2
   go_roundw
   case rel=>exact ⟨k + 1,ao',cp',by omega,by go_num,rfl,HOW.out,hR2,hB2⟩
   case measure=>simp [intOf]; omega
  ·have hke:k = t.length:=by omega
   subst hke
   have hr:(ga7 ge7).rep wo (fun b=>w.heap.size ≤ b) (pb7 x ⟨st,t⟩) [.slice ao (t.length + 1) cp]:=by
    refine xi7 (T:=3) ?_ ?_
    ·have:(pb7 x ⟨st,t⟩).length = t.length + 1:=by simp [pb7]
     rw [this]; unfold pb7; unfold pbb7 at hown; rw [List.take_length] at hown; exact hown
    ·intro v hv
     simp only [pb7,List.mem_cons,List.mem_map] at hv
     rcases hv with rfl | ⟨s,hs,rfl⟩
     ·unfold wa7; omega
     ·have:=hin s hs; unfold wa7; omega
   have HR:=hid hr
   clear hr hown hcell2 ha2 hin
   go_wp2
   go_ret
   exact ⟨_,rfl,HR.out,hb⟩
theorem bp7 {α:Type} {S:Shape α} {h0:0 < S.sz} {w:World} {F:Nat → Prop} {xs:List α} {g c:Nat} {T:TypeId} (vs:List (List Value)) (hl:vs.length = xs.length) (hv:∀ v ∈ vs,v.length = S.sz)
  (hr:∀ i (h:i < xs.length) (h':i < vs.length),S.rep w F xs[i] vs[i]) (h:Row w g T vs.flatten) (hc:xs.length ≤ c) (hm:c ≤ maxLen) (hF:F g):(ga7 S h0).rep w F xs [.slice (some ⟨g,0,none⟩) xs.length c]:=by
 refine ⟨some ⟨g,0,none⟩,g,0,c,rfl,hc,hm,fun _=>⟨rfl,hF⟩,fun i hi=>⟨vs[i]'(by omega),hr i hi (by omega),fun j hj => ?_⟩⟩
 have hget:∀ (l:List (List Value)) (i:Nat) (hi:i < l.length),(∀ v ∈ l,v.length = S.sz) → l.flatten[i * S.sz + j]? = (l[i])[j]? := by
  intro l
  induction l with
  | nil=>intro i hi; simp at hi
  | cons a l ih =>
   intro i hi hl
   have ha:=hl a (List.mem_cons_self ..)
   rw [List.flatten_cons]
   cases i with
   | zero=>rw [Nat.zero_mul,Nat.zero_add,List.getElem?_append_left (by rw [ha]; exact hj)]; rfl
   | succ i =>
    rw [List.getElem?_append_right (by rw [ha,Nat.succ_mul]; omega),ha,show (i + 1) * S.sz + j - S.sz = i * S.sz + j by rw [Nat.succ_mul]; omega]
    exact ih i (by simpa using hi) fun v hv=>hl v (List.mem_cons_of_mem _ hv)
 have e:=hget vs i (by omega) hv
 have hj':j < (vs[i]'(by omega)).length:=by rw [hv _ (List.getElem_mem _)]; exact hj
 rw [List.getElem?_eq_getElem hj'] at e ⊢
 rw [Nat.zero_add]
 exact h.get e
theorem aqb7 {α:Type} {S:Shape α} {h0:0 < S.sz} {w:World} {F:Nat → Prop} {x:α} {v:List Value} {g:Nat} {T:TypeId} (hr:S.rep w F x v) (h:Row w g T v) (hF:F g):(ga7 S h0).rep w F [x] [.slice (some ⟨g,0,none⟩) 1 1]:=by
 refine bp7 (xs:=[x]) (T:=T) [v] rfl ?_ ?_ (by simpa using h) (Nat.le_refl _) (by decide) hF
 ·intro u hu; simp at hu; subst hu; exact S.len hr
 ·intro i h h'
  obtain rfl:i = 0:=by simp at h; exact h
  exact hr
theorem Row.setApart {w:World} {g g':Nat} {e e':TypeId} {cs cs':List Value} (h:Row w g e cs) (h':Row w g' e' cs') (he:e ≠ e') (j:Nat) (u:Value):Row (w.setCell ⟨g',j,none⟩ u) g e cs:=h.setOther (a:=⟨g',j,none⟩) (h.ne h' he) u
theorem td7 (w:World) (c:List Value) (T:TypeId):Below w.heap.size w (w.alloc (.cells c.toArray T)) ∧ Row (w.alloc (.cells c.toArray T)) w.heap.size T c ∧ (w.alloc (.cells c.toArray T)).heap.size = w.heap.size + 1 :=
 ⟨(Below.refl _ _).alloc (Nat.le_refl _) _,Row.new rfl,by simp⟩
theorem zrb7 (w:World) (c1 c2 c3:List Value) (T1 T2 T3:TypeId):∃ W,W = ((w.alloc (.cells c1.toArray T1)).alloc (.cells c2.toArray T2)).alloc (.cells c3.toArray T3) ∧ Below w.heap.size w W ∧
  Row W w.heap.size T1 c1 ∧ Row W (w.heap.size + 1) T2 c2 ∧ Row W (w.heap.size + 2) T3 c3 ∧ W.heap.size = w.heap.size + 3:=by
 obtain ⟨b1,r1,z1⟩:=td7 w c1 T1
 obtain ⟨b2,r2,z2⟩:=td7 (w.alloc (.cells c1.toArray T1)) c2 T2
 obtain ⟨b3,r3,z3⟩:=td7 ((w.alloc (.cells c1.toArray T1)).alloc (.cells c2.toArray T2)) c3 T3
 refine ⟨_,rfl,ca7 (ca7 b1 b2) b3,(r1.below b2).below b3, ?_, ?_,by omega⟩
 ·rw [z1] at r2; exact r2.below b3
 ·rw [show w.heap.size + 2 = ((w.alloc (.cells c1.toArray T1)).alloc (.cells c2.toArray T2)).heap.size by omega]; exact r3
theorem rcb7 (w:World) (c1 c2 c3 c4 c5:List Value) (T1 T2 T3 T4 T5:TypeId):∃ W,W = ((((w.alloc (.cells c1.toArray T1)).alloc (.cells c2.toArray T2)).alloc (.cells c3.toArray T3)).alloc (.cells c4.toArray T4)).alloc (.cells c5.toArray T5) ∧ Below w.heap.size w W ∧
  Row W w.heap.size T1 c1 ∧ Row W (w.heap.size + 1) T2 c2 ∧ Row W (w.heap.size + 2) T3 c3 ∧ Row W (w.heap.size + 3) T4 c4 ∧ Row W (w.heap.size + 4) T5 c5 ∧ W.heap.size = w.heap.size + 5:=by
 obtain ⟨b1,r1,z1⟩:=td7 w c1 T1
 obtain ⟨b2,r2,z2⟩:=td7 (w.alloc (.cells c1.toArray T1)) c2 T2
 obtain ⟨b3,r3,z3⟩:=td7 ((w.alloc (.cells c1.toArray T1)).alloc (.cells c2.toArray T2)) c3 T3
 obtain ⟨b4,r4,z4⟩:=td7 (((w.alloc (.cells c1.toArray T1)).alloc (.cells c2.toArray T2)).alloc (.cells c3.toArray T3)) c4 T4
 obtain ⟨b5,r5,z5⟩:=td7 ((((w.alloc (.cells c1.toArray T1)).alloc (.cells c2.toArray T2)).alloc (.cells c3.toArray T3)).alloc (.cells c4.toArray T4)) c5 T5
 refine ⟨_,rfl,ca7 (ca7 (ca7 (ca7 b1 b2) b3) b4) b5,(((r1.below b2).below b3).below b4).below b5, ?_, ?_, ?_, ?_,by omega⟩
 ·rw [z1] at r2; exact ((r2.below b3).below b4).below b5
 ·rw [show w.heap.size + 2 = ((w.alloc (.cells c1.toArray T1)).alloc (.cells c2.toArray T2)).heap.size by omega]; exact (r3.below b4).below b5
 ·rw [show w.heap.size + 3 = (((w.alloc (.cells c1.toArray T1)).alloc (.cells c2.toArray T2)).alloc (.cells c3.toArray T3)).heap.size by omega]; exact r4.below b5
 ·rw [show w.heap.size + 4 = ((((w.alloc (.cells c1.toArray T1)).alloc (.cells c2.toArray T2)).alloc (.cells c3.toArray T3)).alloc (.cells c4.toArray T4)).heap.size by omega]; exact r5
theorem ib7.set {TR TI B:Nat} {w:World} {v:Value} {rows:List (List Int)} {g:Nat} {rs:List Nat} (h:ib7 w B TR TI v rows g rs) (hne:TR ≠ TI) {i j:Nat} (hi:i < rows.length) (hi':i < rs.length) (hj:j < rows[i].length) (u:Int) :
  ib7 (w.setCell ⟨rs[i],j,none⟩ (gb7 u)) B TR TI v (rows.set i (rows[i].set j u)) g rs:=by
 obtain ⟨c,k0,k1,k2,k3,k4,k5,k6,k7,k8⟩:=h
 have hz:List.zipWith ncb7 rs (rows.set i (rows[i].set j u)) = List.zipWith ncb7 rs rows:=by
  apply List.ext_getElem
  ·simp
  ·intro n h1 h2
   simp only [List.getElem_zipWith,List.getElem_set]
   split
   ·rename_i e; subst e; unfold ncb7; simp
   ·rfl
 refine ⟨c,by rw [k0]; simp,by simpa using k1,k2,k3, ?_,by simpa using k5,fun n h1 h2 => ?_,k7,k8⟩
 ·rw [hz]
  exact k4.setApart (k6 i hi' hi) hne _ _
 ·simp only [List.getElem_set]
  split
  ·rename_i e; subst e
   have:=(k6 i hi' hi).set (j:=j) (by rw [List.length_map]; exact hj) (gb7 u)
   rwa [← List.map_set] at this
  ·rename_i e
   have hn:n < rows.length:=by simpa using h2
   refine (k6 n h1 hn).setOther (fun e2=>e ?_) _
   exact ((List.getElem_inj k7).1 e2).symm
theorem ib7.keepAll {w w':World} {B TR TI:Nat} {v:Value} {rows:List (List Int)} {g:Nat} {rs:List Nat} (h:ib7 w B TR TI v rows g rs) (h1:w'.heap[g]? = w.heap[g]?) (h2:∀ b ∈ rs,w'.heap[b]? = w.heap[b]?):ib7 w' B TR TI v rows g rs:=by
 obtain ⟨c,k0,k1,k2,k3,k4,k5,k6,k7,k8⟩:=h
 exact ⟨c,k0,k1,k2,k3,k4.keep h1,k5,fun i h h'=>(k6 i h h').keep (h2 _ (List.getElem_mem h)),k7,k8⟩
theorem ib7.open {TR TI B:Nat} {w:World} {v:Value} {rows:List (List Int)} {g:Nat} {rs:List Nat} (h:ib7 w B TR TI v rows g rs):∃ c,v = .slice (some ⟨g,0,none⟩) rows.length c ∧ rs.length = rows.length ∧
  (∀ i (h:i < rows.length) (h':i < rs.length),w.cell? ⟨g,i,none⟩ = some (.slice (some ⟨rs[i],0,none⟩) rows[i].length rows[i].length)) ∧
  (∀ i (h:i < rows.length) (h':i < rs.length),Row w rs[i] TI (rows[i].map gb7) ∧ B ≤ rs[i]):=by
 obtain ⟨c,k0,k1,k2,k3,k4,k5,k6,k7,k8⟩:=h
 refine ⟨c,k0,k5,fun i h h' => ?_,fun i h h'=>⟨k6 i h' h,k8 _ (List.getElem_mem h')⟩⟩
 have:=k4.get (j:=i) (v:=ncb7 rs[i] rows[i]) (by rw [List.getElem?_zipWith,List.getElem?_eq_getElem h',List.getElem?_eq_getElem h])
 exact this
def setAt (l:List (List Int)) (i j:Nat) (u:Int):List (List Int):=l.set i ((l.getD i []).set j u)
def ba7.putCost (x:ba7) (i j:Nat) (u:Int):ba7 := { x with cost:=setAt x.cost i j u }
def ba7.putTime (x:ba7) (i j:Nat) (u:Int):ba7 := { x with time:=setAt x.time i j u }
structure md7 (TS TC TR TI:Nat) (w:World) (B:Nat) (x:ba7) (cs:List Value) (gs cs1 gc cc1 gco cco:Nat) (rco:List Nat) (gti cti:Nat) (rti:List Nat):Prop where
 lit:cs = [.int .i64 x.fin, .int .i64 x.tmany, .int .i64 x.troom, .int .i64 x.bmany, .int .i64 x.broom, .slice (some ⟨gs,0,none⟩) x.sats.length cs1, .slice (some ⟨gc,0,none⟩) x.custs.length cc1, .slice (some ⟨gco,0,none⟩) x.cost.length cco, .slice (some ⟨gti,0,none⟩) x.time.length cti]
 caps:x.sats.length ≤ cs1 ∧ cs1 ≤ maxLen ∧ x.custs.length ≤ cc1 ∧ cc1 ≤ maxLen
 leS:B ≤ gs
 leC:B ≤ gc
 sats:Row w gs TS (x.sats.flatMap kx7)
 custs:Row w gc TC (x.custs.flatMap im7)
 costs:ib7 w B TR TI (.slice (some ⟨gco,0,none⟩) x.cost.length cco) x.cost gco rco
 times:ib7 w B TR TI (.slice (some ⟨gti,0,none⟩) x.time.length cti) x.time gti rti
 apart:gco ≠ gti
 apart2:∀ a ∈ rco, ∀ b ∈ rti,a ≠ b
section
variable {TS TC TR TI B gs cs1 gc cc1 gco cco gti cti:Nat} {w:World} {x:ba7} {cs:List Value} {rco rti:List Nat}
theorem uc7.at (h:uc7 TS TC TR TI w B x cs):∃ gs cs1 gc cc1 gco cco rco gti cti rti,md7 TS TC TR TI w B x cs gs cs1 gc cc1 gco cco rco gti cti rti:=by
 obtain ⟨gs,cs1,gc,cc1,vco,vti,gco,rco,gti,rti,k0,k1,k2,k3,k4,k5,k6,k7,k8,k9⟩:=h
 obtain ⟨c,hv, -⟩:=k6.open
 obtain ⟨c',hv', -⟩:=k7.open
 subst hv; subst hv'
 exact ⟨gs,cs1,gc,cc1,gco,c,rco,gti,c',rti,k0,k1,k2,k3,k4,k5,k6,k7,k8,k9⟩
theorem md7.own (h:md7 TS TC TR TI w B x cs gs cs1 gc cc1 gco cco rco gti cti rti):uc7 TS TC TR TI w B x cs :=
 ⟨gs,cs1,gc,cc1,_,_,gco,rco,gti,rti,h.lit,h.caps,h.leS,h.leC,h.sats,h.custs,h.costs,h.times,h.apart,h.apart2⟩
theorem md7.drew (h:md7 TS TC TR TI w B x cs gs cs1 gc cc1 gco cco rco gti cti rti):md7 TS TC TR TI w.drew B x cs gs cs1 gc cc1 gco cco rco gti cti rti:=⟨h.lit,h.caps,h.leS,h.leC,h.sats.drew,h.custs.drew,h.costs.keepAll rfl fun _ _=>rfl,h.times.keepAll rfl fun _ _=>rfl,h.apart,h.apart2⟩
theorem md7.below {w':World} (h:md7 TS TC TR TI w B x cs gs cs1 gc cc1 gco cco rco gti cti rti) (hb:Below w.heap.size w w'):md7 TS TC TR TI w' B x cs gs cs1 gc cc1 gco cco rco gti cti rti :=
 ⟨h.lit,h.caps,h.leS,h.leC,h.sats.below hb,h.custs.below hb,h.costs.below hb,h.times.below hb,h.apart,h.apart2⟩
theorem ib7.row {TR TI B:Nat} {w:World} {v:Value} {rows:List (List Int)} {g:Nat} {rs:List Nat} (h:ib7 w B TR TI v rows g rs) {i:Nat} (hi:i < rows.length) :
  w.cell? ⟨g,i,none⟩ = some (.slice (some ⟨rs.getD i 0,0,none⟩) (rows.getD i []).length (rows.getD i []).length) ∧ Row w (rs.getD i 0) TI ((rows.getD i []).map gb7) ∧ B ≤ rs.getD i 0 ∧ rs.getD i 0 ∈ rs:=by
 obtain ⟨c,hv,hrl,hg,hr⟩:=h.open
 have hi':i < rs.length:=by omega
 have e1:rows.getD i [] = rows[i]:=by rw [List.getD_eq_getElem?_getD,List.getElem?_eq_getElem hi]; rfl
 have e2:rs.getD i 0 = rs[i]:=by rw [List.getD_eq_getElem?_getD,List.getElem?_eq_getElem hi']; rfl
 rw [e1,e2]
 exact ⟨hg i hi hi',(hr i hi hi').1,(hr i hi hi').2,List.getElem_mem _⟩
theorem ib7.apart {TR TI B:Nat} {w:World} {v:Value} {rows:List (List Int)} {g:Nat} {rs:List Nat} (h:ib7 w B TR TI v rows g rs) {i i':Nat} (hi:i < rows.length) (hi':i' < rows.length) (hne:i ≠ i'):rs.getD i 0 ≠ rs.getD i' 0:=by
 obtain ⟨c,k0,k1,k2,k3,k4,k5,k6,k7,k8⟩:=h
 rw [List.getD_eq_getElem?_getD,List.getD_eq_getElem?_getD,List.getElem?_eq_getElem (by omega),List.getElem?_eq_getElem (by omega)]
 intro e
 exact hne ((List.getElem_inj k7).1 e)
theorem ib7.setAt {TR TI B:Nat} {w:World} {v:Value} {rows:List (List Int)} {g:Nat} {rs:List Nat} (h:ib7 w B TR TI v rows g rs) (hne:TR ≠ TI) {i j:Nat} (hi:i < rows.length) (hj:j < (rows.getD i []).length) (u:Int) :
  ib7 (w.setCell ⟨rs.getD i 0,j,none⟩ (gb7 u)) B TR TI v (setAt rows i j u) g rs:=by
 have hrl:rs.length = rows.length:=by obtain ⟨c,k0,k1,k2,k3,k4,k5,k6,k7,k8⟩:=h; exact k5
 have hi':i < rs.length:=by omega
 have e1:rows.getD i [] = rows[i]:=by rw [List.getD_eq_getElem?_getD,List.getElem?_eq_getElem hi]; rfl
 have e2:rs.getD i 0 = rs[i]:=by rw [List.getD_eq_getElem?_getD,List.getElem?_eq_getElem hi']; rfl
 unfold Go.Proofs.Ytabadfkikdefeaa.setAt
 rw [e1] at hj ⊢
 rw [e2]
 exact h.set hne hi hi' hj u
theorem no7 (l:List (List Int)) (i j:Nat) (u:Int):(setAt l i j u).length = l.length:=by unfold setAt; simp
theorem md7.setCost (h:md7 TS TC TR TI w B x cs gs cs1 gc cc1 gco cco rco gti cti rti) (n1:TS ≠ TI) (n2:TC ≠ TI) (n3:TR ≠ TI) {i j:Nat} (hi:i < x.cost.length) (hj:j < (x.cost.getD i []).length) (u:Int) :
  md7 TS TC TR TI (w.setCell ⟨rco.getD i 0,j,none⟩ (gb7 u)) B (x.putCost i j u) cs gs cs1 gc cc1 gco cco rco gti cti rti:=by
 obtain ⟨h1,h2,h3,h4⟩:=h.costs.row hi
 have hrt:Row w gti TR (List.zipWith ncb7 rti x.time):=by obtain ⟨_,_,_,_,_,kr,_⟩:=h.times; exact kr
 refine ⟨by rw [h.lit]; simp only [ba7.putCost,no7],h.caps,h.leS,h.leC,h.sats.setApart h2 n1 _ _,h.custs.setApart h2 n2 _ _, ?_, ?_,h.apart,h.apart2⟩
 ·have:=h.costs.setAt n3 hi hj u
  show ib7 _ B TR TI (.slice _ (setAt x.cost i j u).length _) (setAt x.cost i j u) gco rco
  rw [no7]; exact this
 ·exact h.times.keepAll (Below.heap_setCell _ _ _ _ (hrt.ne h2 n3)) fun b hb=>Below.heap_setCell _ _ _ _ fun e=>h.apart2 _ h4 b hb e.symm
theorem md7.setTime (h:md7 TS TC TR TI w B x cs gs cs1 gc cc1 gco cco rco gti cti rti) (n1:TS ≠ TI) (n2:TC ≠ TI) (n3:TR ≠ TI) {i j:Nat} (hi:i < x.time.length) (hj:j < (x.time.getD i []).length) (u:Int) :
  md7 TS TC TR TI (w.setCell ⟨rti.getD i 0,j,none⟩ (gb7 u)) B (x.putTime i j u) cs gs cs1 gc cc1 gco cco rco gti cti rti:=by
 obtain ⟨h1,h2,h3,h4⟩:=h.times.row hi
 have hrt:Row w gco TR (List.zipWith ncb7 rco x.cost):=by obtain ⟨_,_,_,_,_,kr,_⟩:=h.costs; exact kr
 refine ⟨by rw [h.lit]; simp only [ba7.putTime,no7],h.caps,h.leS,h.leC,h.sats.setApart h2 n1 _ _,h.custs.setApart h2 n2 _ _, ?_, ?_,h.apart,h.apart2⟩
 ·exact h.costs.keepAll (Below.heap_setCell _ _ _ _ (hrt.ne h2 n3)) fun a ha=>Below.heap_setCell _ _ _ _ fun e=>h.apart2 a ha _ h4 e
 ·have:=h.times.setAt n3 hi hj u
  show ib7 _ B TR TI (.slice _ (setAt x.time i j u).length _) (setAt x.time i j u) gti rti
  rw [no7]; exact this
end
def jb7 (row:Option Nat) (W w':World):Prop:=W.heap.size ≤ w'.heap.size ∧ ∀ b,b < W.heap.size → some b ≠ row → w'.heap[b]? = W.heap[b]?
instance (row:Option Nat) (W:World):Nonempty (At (jb7 row W)):=⟨⟨W,Nat.le_refl _,fun _ _ _=>rfl⟩⟩
theorem jb7.cell {row:Option Nat} {W w':World} (h:jb7 row W w') {a:Addr} {v:Value} (hc:W.cell? a = some v) (hne:some a.block ≠ row):w'.cell? a = some v:=by
 rw [World.cell?_of_block (h.2 _ (vdb7 hc) hne)]; exact hc
theorem jb7.refl (row:Option Nat) (W:World):jb7 row W W:=⟨Nat.le_refl _,fun _ _ _=>rfl⟩
theorem jb7.drew {row:Option Nat} {W w':World} (h:jb7 row W w'):jb7 row W w'.drew:=h
theorem jb7.below {row:Option Nat} {W w1 w2:World} (h:jb7 row W w1) (hb:Below w1.heap.size w1 w2):jb7 row W w2:=⟨Nat.le_trans h.1 hb.size,fun b hb' hne=>(hb.block b (Nat.lt_of_lt_of_le hb' h.1)).trans (h.2 b hb' hne)⟩
theorem jb7.grown {row:Option Nat} {W w1 w2:World} (h:jb7 row W w1) (hg:w1.grownBy w2 row):jb7 row W w2:=⟨Nat.le_trans h.1 hg.size,fun b hb' hne=>(hg.block b (Nat.lt_of_lt_of_le hb' h.1) hne).trans (h.2 b hb' hne)⟩
theorem bgb7 {w:World} {B T n k b:Nat} {v:Value} {xs:List Value} (h:w.ownsRow B T k v n xs) (hb:b < B):some b ≠ v.ownBlock:=fun e=>by have:=(h.lt b e.symm).1; omega
theorem qb7 {w:World} {B T n k g:Nat} {v:Value} {xs:List Value} {e:TypeId} {cs:List Value} (h:w.ownsRow B T k v n xs) (hr:Row w g e cs) (he:e ≠ T):some g ≠ v.ownBlock:=fun e'=>by obtain ⟨cs',hc'⟩:=we7 h e'.symm; exact hr.ne hc' he rfl
theorem ef7 (w:World) (a:Addr) (u:Value):w.grownBy (w.setCell a u) (some a.block):=⟨rfl,rfl,rfl,by simp [World.setCell],fun k _ hk=>Below.heap_setCell _ _ _ _ (fun e=>hk (by rw [e]))⟩
theorem ja7 {w:World} {B T n k g:Nat} {v:Value} {xs:List Value} {e:TypeId} {cs:List Value} (h:w.ownsRow B T k v n xs) (hr:Row w g e cs) (he:e ≠ T) (j:Nat) (u:Value):(w.setCell ⟨g,j,none⟩ u).ownsRow B T k v n xs :=
 h.kept (ef7 w ⟨g,j,none⟩ u) (.inr fun e'=>qb7 h hr he e'.symm)
theorem Row.makeF {w:World} {n:Nat} {e:TypeId}:Row (w.alloc (.cells (Array.replicate n (bbc7 0)) e)) w.heap.size e ((List.replicate n 0).map bbc7):=by
 have:=Row.new (w:=w) (e:=e) (cs:=(List.replicate n 0).map bbc7) rfl
 simpa using this
theorem wf7 {α:Type} (S:Shape α) {h0:0 < S.sz} (w:World) (F:Nat → Prop):(ga7 S h0).rep w F [] [.slice none 0 0] :=
 ⟨none,0,0,0,rfl,Nat.le_refl _,Nat.zero_le _,fun h=>absurd h (Nat.not_lt_zero _),fun i h=>absurd h (Nat.not_lt_zero _)⟩
abbrev qa7:=Int × Int
def il7 (l:List qa7) (i j:Nat) (a b:qa7):List qa7:=(l.set i b).set j a
def ad7 (a b:qa7):Bool:=if a.1 = b.1 then decide (a.2 < b.2) else decide (a.1 < b.1)
def leI (a b:qa7):Prop:=a.1 < b.1 ∨ a.1 = b.1 ∧ a.2 ≤ b.2
theorem ax7 (a:qa7):leI a a:=by unfold leI; omega
theorem ao7 {a b c:qa7} (h:leI a b) (k:leI b c):leI a c:=by unfold leI at *; omega
theorem mo7 {a b:qa7} (h:ad7 a b = true):leI a b:=by
 unfold ad7 at h
 unfold leI
 split at h
 ·have:=of_decide_eq_true h; omega
 ·have:=of_decide_eq_true h; omega
theorem fp7 {a b:qa7} (h:ad7 a b = false):leI b a:=by
 unfold ad7 at h
 unfold leI
 split at h
 ·have:=of_decide_eq_false h; omega
 ·have:=of_decide_eq_false h; omega
def ji7 (l:List qa7) (i:Nat):qa7:=l.getD i (0,0)
theorem jc7 {l:List qa7} {i:Nat} (h:i < l.length):ji7 l i = l[i]:=by
 unfold ji7
 rw [List.getD_eq_getElem?_getD,List.getElem?_eq_getElem h]
 rfl
def swI (l:List qa7) (i j:Nat):List qa7:=il7 l i j (ji7 l i) (ji7 l j)
theorem bk7 (l:List qa7) (i j:Nat):(swI l i j).length = l.length:=by unfold swI il7; simp
theorem vi7 {l:List qa7} {i j:Nat} (hi:i < l.length) (hj:j < l.length) (x:Nat):ji7 (swI l i j) x = if x = j then ji7 l i else if x = i then ji7 l j else ji7 l x:=by
 unfold swI il7
 by_cases h1:x = j
 ·subst h1
  rw [if_pos rfl,jc7 (by simpa using hj)]
  simp
 ·rw [if_neg h1]
  by_cases h2:x = i
  ·subst h2
   rw [if_pos rfl,jc7 (by simpa using hi)]
   rw [List.getElem_set_ne (fun e=>h1 e.symm)]
   simp
  ·rw [if_neg h2]
   unfold ji7
   simp [List.getD_eq_getElem?_getD,List.getElem?_set,h1,h2,Ne.symm h1,Ne.symm h2]
inductive UpR:List qa7 → Nat → List qa7 → Prop
 | zero (l:List qa7):UpR l 0 l
 | stop {l:List qa7} {i:Nat} (h:ad7 (ji7 l i) (ji7 l ((i - 1) / 2)) = false):UpR l i l
 | swap {l l':List qa7} {i:Nat} (h0:0 < i) (h:ad7 (ji7 l i) (ji7 l ((i - 1) / 2)) = true) (hr:UpR (swI l ((i - 1) / 2) i) ((i - 1) / 2) l'):UpR l i l'
def hxb7 (n:Nat) (l:List qa7):Prop := ∀ c,1 ≤ c → c < n → leI (ji7 l ((c - 1) / 2)) (ji7 l c)
def hm7 (l:List qa7):Prop:=hxb7 l.length l
def mvb7 (l:List qa7) (i:Nat):Prop:=(∀ c,1 ≤ c → c < l.length → c ≠ i → leI (ji7 l ((c - 1) / 2)) (ji7 l c)) ∧ ∀ c,1 ≤ c → c < l.length → (c - 1) / 2 = i → 1 ≤ i → leI (ji7 l ((i - 1) / 2)) (ji7 l c)
theorem ctb7 {l l':List qa7} {i:Nat} (h:UpR l i l'):i < l.length → mvb7 l i → hm7 l':=by
 induction h with
 | zero l=>exact fun _ hp c h1 h2=>hp.1 c h1 h2 (by omega)
 | @stop l i h =>
  intro hi hp c h1 h2
  by_cases e:c = i
  ·subst e; exact fp7 h
  ·exact hp.1 c h1 h2 e
 | @swap l l' i h0 h hr ih =>
  intro hi hp
  have hk:(i - 1) / 2 < l.length:=by omega
  refine ih (by rw [bk7]; exact hk) ⟨fun c h1 h2 hne => ?_,fun c h1 h2 h3 h4 => ?_⟩
  ·rw [bk7] at h2
   rw [vi7 hk hi,vi7 hk hi]
   by_cases ec:c = i
   ·subst ec
    rw [if_neg (by omega),if_pos rfl,if_pos rfl]
    exact mo7 h
   ·rw [if_neg ec,if_neg hne]
    by_cases e1:(c - 1) / 2 = i
    ·rw [if_pos e1]
     exact hp.2 c h1 h2 e1 h0
    ·rw [if_neg e1]
     by_cases e2:(c - 1) / 2 = (i - 1) / 2
     ·rw [if_pos e2]
      have:=hp.1 c h1 h2 ec
      rw [e2] at this
      exact ao7 (mo7 h) this
     ·rw [if_neg e2]
      exact hp.1 c h1 h2 ec
  ·rw [bk7] at h2
   rw [vi7 hk hi,vi7 hk hi]
   rw [if_neg (by omega),if_neg (by omega)]
   have hkk:=hp.1 ((i - 1) / 2) h4 hk (by omega)
   by_cases ec:c = i
   ·subst ec
    rw [if_pos rfl]
    exact hkk
   ·rw [if_neg ec,if_neg (by omega)]
    have:=hp.1 c h1 h2 ec
    rw [h3] at this
    exact ao7 hkk this
def kid (n:Nat) (l:List qa7) (i:Nat):Nat:=if 2 * i + 2 < n ∧ ad7 (ji7 l (2 * i + 2)) (ji7 l (2 * i + 1)) = true then 2 * i + 2 else 2 * i + 1
inductive gp7 (n:Nat):List qa7 → Nat → List qa7 → Prop
 | stop {l:List qa7} {i:Nat} (h:n ≤ 2 * i + 1):gp7 n l i l
 | keep {l:List qa7} {i:Nat} (h0:2 * i + 1 < n) (h:ad7 (ji7 l (kid n l i)) (ji7 l i) = false):gp7 n l i l
 | swap {l l':List qa7} {i:Nat} (h0:2 * i + 1 < n) (h:ad7 (ji7 l (kid n l i)) (ji7 l i) = true) (hr:gp7 n (swI l i (kid n l i)) (kid n l i) l'):gp7 n l i l'
def jkb7 (n:Nat) (l:List qa7) (i:Nat):Prop:=(∀ c,1 ≤ c → c < n → (c - 1) / 2 ≠ i → leI (ji7 l ((c - 1) / 2)) (ji7 l c)) ∧ ∀ c,1 ≤ c → c < n → (c - 1) / 2 = i → 1 ≤ i → leI (ji7 l ((i - 1) / 2)) (ji7 l c)
theorem lqb7 {n:Nat} {l:List qa7} {i:Nat} (h:2 * i + 1 < n):kid n l i < n ∧ (kid n l i = 2 * i + 1 ∨ kid n l i = 2 * i + 2) ∧ ∀ c,1 ≤ c → c < n → (c - 1) / 2 = i → leI (ji7 l (kid n l i)) (ji7 l c):=by
 unfold kid
 split
 ·rename_i hh
  refine ⟨hh.1, .inr rfl,fun c h1 h2 h3 => ?_⟩
  rcases (show c = 2 * i + 1 ∨ c = 2 * i + 2 by omega) with rfl | rfl
  ·exact mo7 hh.2
  ·exact ax7 _
 ·rename_i hh
  refine ⟨h, .inl rfl,fun c h1 h2 h3 => ?_⟩
  rcases (show c = 2 * i + 1 ∨ c = 2 * i + 2 by omega) with rfl | rfl
  ·exact ax7 _
  ·refine fp7 ?_
   cases e:ad7 (ji7 l (2 * i + 2)) (ji7 l (2 * i + 1)) with
   | false=>rfl
   | true=>exact absurd ⟨h2,e⟩ hh
theorem kmb7 {n:Nat} {l l':List qa7} {i:Nat} (h:gp7 n l i l'):n ≤ l.length → i < l.length → (jkb7 n l i → hxb7 n l') ∧ l'.length = l.length ∧ ∀ x,n ≤ x → i < n ∨ x ≠ i → ji7 l' x = ji7 l x:=by
 induction h with
 | @stop l i h =>
  exact fun _ _=>⟨fun hp c h1 h2=>hp.1 c h1 h2 (by omega),rfl,fun _ _ _=>rfl⟩
 | @keep l i h0 h =>
  refine fun _ _=>⟨fun hp c h1 h2 => ?_,rfl,fun _ _ _=>rfl⟩
  by_cases e:(c - 1) / 2 = i
  ·rw [e]; exact ao7 (fp7 h) ((lqb7 h0).2.2 c h1 h2 e)
  ·exact hp.1 c h1 h2 e
 | @swap l l' i h0 h hr ih =>
  intro hn hi
  obtain ⟨k1,k2,k3⟩:=lqb7 (l:=l) h0
  generalize kid n l i = j at *
  have hj:j < l.length:=by omega
  obtain ⟨i1,i2,i3⟩:=ih (by rw [bk7]; exact hn) (by rw [bk7]; exact hj)
  refine ⟨fun hp=>i1 ⟨fun c h1 h2 hne => ?_,fun c h1 h2 h3 h4 => ?_⟩,by rw [i2,bk7],fun x hx hxi => ?_⟩
  ·rw [vi7 hi hj,vi7 hi hj,if_neg hne]
   by_cases e1:(c - 1) / 2 = i
   ·rw [if_pos e1]
    by_cases e2:c = j
    ·rw [if_pos e2]; exact mo7 h
    ·rw [if_neg e2,if_neg (by omega)]; exact k3 c h1 h2 e1
   ·rw [if_neg e1]
    by_cases e2:c = j
    ·omega
    ·rw [if_neg e2]
     by_cases e3:c = i
     ·rw [if_pos e3]
      subst e3
      exact hp.2 j (by omega) k1 (by omega) h1
     ·rw [if_neg e3]; exact hp.1 c h1 h2 e1
  ·rw [vi7 hi hj,vi7 hi hj]
   have e1:(j - 1) / 2 = i:=by omega
   rw [e1,if_neg (by omega),if_pos rfl,if_neg (by omega),if_neg (by omega)]
   have:=hp.1 c h1 h2 (by omega)
   rw [h3] at this
   exact this
  ·rw [i3 x hx (.inl k1),vi7 hi hj,if_neg (by omega)]
   by_cases e:x = i
   ·omega
   ·rw [if_neg e]
theorem hnb7 {l:List qa7} (h:hm7 l):∀ c,c < l.length → leI (ji7 l 0) (ji7 l c):=by
 intro c
 induction c using Nat.strongRecOn with
 | _ c ih =>
  intro hc
  by_cases h0:c = 0
  ·subst h0; exact ax7 _
  ·exact ao7 (ih ((c - 1) / 2) (by omega) (by omega)) (h c (by omega) hc)
theorem ij7 {l:List qa7} {s:qa7} {c:Nat} (h:c < l.length):ji7 (l ++ [s]) c = ji7 l c:=by
 unfold ji7
 simp [List.getD_eq_getElem?_getD,List.getElem?_append_left h]
theorem qpb7 {l:List qa7} {s:qa7} (h:hm7 l):mvb7 (l ++ [s]) l.length:=by
 refine ⟨fun c h1 h2 h3 => ?_,fun c h1 h2 h3 h4 => ?_⟩
 ·simp at h2
  rw [ij7 (by omega),ij7 (by omega)]
  exact h c h1 (by omega)
 ·simp at h2; omega
theorem mtb7 {l:List qa7} (h:hm7 l) (h0:0 < l.length):jkb7 (l.length - 1) (swI l 0 (l.length - 1)) 0:=by
 refine ⟨fun c h1 h2 h3 => ?_,fun c h1 h2 h3 h4=>by omega⟩
 rw [vi7 h0 (by omega),vi7 h0 (by omega),if_neg (by omega),if_neg h3,if_neg (by omega),if_neg (by omega)]
 exact h c h1 (by omega)
theorem upb7 {l l3 l4:List qa7} {s:qa7} (hd:gp7 (l.length - 1) (swI l 0 (l.length - 1)) 0 l3) (h0:0 < l.length) (he:l3 = l4 ++ [s]) (h:hm7 l):hm7 l4 ∧ ∀ t ∈ l,leI s t:=by
 obtain ⟨d1,d2,d3⟩:=kmb7 hd (by rw [bk7]; omega) (by rw [bk7]; exact h0)
 have hl:l4.length = l.length - 1:=by rw [he,bk7] at d2; simp at d2; omega
 have hs:s = ji7 l 0:=by
  by_cases e:l.length = 1
  ·have h3:l3 = swI l 0 (l.length - 1):=by
    cases hd with
    | stop=>rfl
    | keep h=>omega
    | swap h=>omega
   have h4:ji7 l3 0 = s:=by
    have:l4 = []:=List.eq_nil_of_length_eq_zero (by omega)
    rw [he,this]; rfl
   rw [← h4,h3,vi7 h0 (by omega),if_pos (by omega)]
  ·have h4:ji7 l3 (l.length - 1) = s:=by
    rw [he, ← hl]
    unfold ji7
    simp [List.getD_eq_getElem?_getD]
   rw [← h4,d3 _ (Nat.le_refl _) (.inl (by omega)),vi7 h0 (by omega),if_pos rfl]
 refine ⟨fun c h1 h2 => ?_,fun t ht => ?_⟩
 ·have:=d1 (mtb7 h h0) c h1 (by omega)
  rwa [he,ij7 (by omega),ij7 (by omega)] at this
 ·obtain ⟨c,hc,rfl⟩:=List.getElem_of_mem ht
  rw [hs, ← jc7 hc]
  exact hnb7 h c hc
theorem gcb7 {l:List qa7} {i j:Nat} (hi:i < l.length) (hj:j < l.length):il7 l i j l[i] l[j] = swI l i j:=by unfold swI; rw [jc7 hi,jc7 hj]
theorem zsb7 {l:List qa7} {i k:Nat} (hk:k = (i - 1) / 2) (hi:i < l.length) (hkl:k < l.length) (h:ad7 l[i] l[k] = false):UpR l i l := .stop (by subst hk; rw [jc7 hi,jc7 hkl]; exact h)
theorem qrb7 {l l':List qa7} {i k:Nat} (h0:0 < i) (hk:k = (i - 1) / 2) (hi:i < l.length) (hkl:k < l.length) (h:ad7 l[i] l[k] = true) (hr:UpR (il7 l k i l[k] l[i]) k l'):UpR l i l':=by
 subst hk
 rw [gcb7 hkl hi] at hr
 exact .swap h0 (by rw [jc7 hi,jc7 hkl]; exact h) hr
theorem fsb7 {n:Nat} {l:List qa7} {i j1 j2:Nat} (e1:j1 = 2 * i + 1) (e2:j2 = j1 + 1) (h1:j1 < l.length) (h2:j2 < l.length) (hn:j2 < n) (h:ad7 l[j2] l[j1] = true):kid n l i = j2:=by
 subst e2; subst e1
 unfold kid
 rw [if_pos ⟨hn,by rw [jc7 h2,jc7 h1]; exact h⟩]
theorem xlb7 {n:Nat} {l:List qa7} {i j1 j2:Nat} (e1:j1 = 2 * i + 1) (e2:j2 = j1 + 1) (h1:j1 < l.length) (h:j2 < n → ∃ h2:j2 < l.length,ad7 l[j2] l[j1] = false):kid n l i = j1:=by
 subst e2; subst e1
 unfold kid
 rw [if_neg]
 rintro ⟨a,b⟩
 obtain ⟨h2,h3⟩:=h a
 rw [jc7 h2,jc7 h1] at b
 rw [b] at h3; cases h3
theorem st7 {n:Nat} {l:List qa7} {i j:Nat} (hj:kid n l i = j) (h0:2 * i + 1 < n) (hi:i < l.length) (hjl:j < l.length) (h:ad7 l[j] l[i] = false):gp7 n l i l := .keep h0 (by rw [hj,jc7 hi,jc7 hjl]; exact h)
theorem ct7 {n:Nat} {l l':List qa7} {i j:Nat} (hj:kid n l i = j) (h0:2 * i + 1 < n) (hi:i < l.length) (hjl:j < l.length) (h:ad7 l[j] l[i] = true) (hr:gp7 n (il7 l i j l[i] l[j]) j l'):gp7 n l i l':=by
 rw [gcb7 hi hjl] at hr
 exact .swap h0 (by rw [hj,jc7 hi,jc7 hjl]; exact h) (by rw [hj]; exact hr)
structure cu7 where
 frm:Nat
 dst:Nat
 wt:Int
 deriving DecidableEq
structure ab7 where
 n:Nat
 arcs:List cu7
 deriving DecidableEq
def sa7 (g:ab7) (k:Nat):cu7:=g.arcs.getD k ⟨0,0,0⟩
def if7 (g:ab7) (i k:Nat):List Nat:=(List.range k).filter fun j=>(sa7 g j).frm == i
structure GIn (g:ab7):Prop where
 n:g.n ≤ 1000
 len:g.arcs.length ≤ 20000
 arc:∀ a ∈ g.arcs,a.frm < g.n ∧ a.dst < g.n ∧ 0 ≤ a.wt ∧ a.wt ≤ 1099511627776
theorem GIn.at {g:ab7} (h:GIn g) {k:Nat} (hk:k < g.arcs.length):(sa7 g k).frm < g.n ∧ (sa7 g k).dst < g.n ∧ 0 ≤ (sa7 g k).wt ∧ (sa7 g k).wt ≤ 1099511627776:=by
 unfold sa7
 rw [List.getD_eq_getElem?_getD,List.getElem?_eq_getElem hk]
 exact h.arc _ (List.getElem_mem hk)
def farI:Int:=1152921504606846976
def fAt (l:List Int) (i:Nat):Int:=l.getD i 0
theorem wrb7 {l:List Int} {i:Nat} (hi:i < l.length) (v:Int) (x:Nat):fAt (l.set i v) x = if x = i then v else fAt l x:=by
 unfold fAt
 by_cases h:x = i
 ·subst h; simp [List.getD_eq_getElem?_getD,hi]
 ·simp [List.getD_eq_getElem?_getD,h,Ne.symm h]
inductive nwb7 (g:ab7) (src:Nat):Nat → Int → Prop
 | here:nwb7 g src src 0
 | step {i k:Nat} {c:Int} (h:nwb7 g src i c) (hk:k < g.arcs.length) (hf:(sa7 g k).frm = i):nwb7 g src (sa7 g k).dst (c + (sa7 g k).wt)
structure Dij (g:ab7) (src:Nat) (far:List Int) (D:List Bool) (its:List qa7) (x:Nat) (key:Int) (rest:List Nat):Prop where
 len:far.length = g.n
 dlen:D.length = g.n
 srcn:src < g.n
 src0:fAt far src = 0
 bnd:∀ i,i < g.n → 0 ≤ fAt far i ∧ fAt far i ≤ farI
 ach:∀ i,i < g.n → fAt far i < farI → nwb7 g src i (fAt far i)
 items:∀ t ∈ its, ∃ i,i < g.n ∧ t.2 = (i:Int) ∧ fAt far i ≤ t.1 ∧ t.1 < farI
 opn:∀ i,i < g.n → D.getD i false = false → fAt far i < farI → (fAt far i,(i:Int)) ∈ its
 key0:0 ≤ key
 low:∀ i,i < g.n → D.getD i false = true → fAt far i ≤ key ∧ fAt far i < farI
 keyle:∀ t ∈ its,key ≤ t.1
 rel:∀ k,k < g.arcs.length → D.getD (sa7 g k).frm false = true → k ∈ rest ∨ fAt far (sa7 g k).dst ≤ fAt far (sa7 g k).frm + (sa7 g k).wt
 rst:∀ k ∈ rest,k < g.arcs.length ∧ (sa7 g k).frm = x
 cur:rest ≠ [] → x < g.n ∧ D.getD x false = true ∧ fAt far x = key
theorem Dij.start {g:ab7} {src:Nat} (h:src < g.n):Dij g src ((List.replicate g.n farI).set src 0) (List.replicate g.n false) [(0,(src:Int))] 0 0 []:=by
 have hf:∀ i,i < g.n → fAt ((List.replicate g.n farI).set src 0) i = if i = src then 0 else farI:=fun i hi=>by
  rw [wrb7 (by simpa using h)]
  split
  ·rfl
  ·simp [fAt,List.getD_eq_getElem?_getD,List.getElem?_replicate,hi]
 have hd:∀ i,(List.replicate g.n false).getD i false = false:=fun i=>by
  simp only [List.getD_eq_getElem?_getD,List.getElem?_replicate]
  split <;> rfl
 refine ⟨by simp,by simp,h,by rw [hf _ h,if_pos rfl],fun i hi => ?_,fun i hi hlt => ?_,fun t ht => ?_,fun i hi _ hlt => ?_,Int.le_refl _,fun i _ hD => ?_,fun t ht => ?_,fun k _ hD => ?_,fun k hk=>by simp at hk,fun h=>absurd rfl h⟩
 ·rw [hf i hi]; unfold farI; split <;> omega
 ·rw [hf i hi] at hlt ⊢
  split at hlt
  ·rename_i e; subst e; rw [if_pos rfl]; exact .here
  ·exact absurd hlt (by omega)
 ·obtain rfl:=List.mem_singleton.1 ht
  exact ⟨src,h,rfl,by rw [hf _ h,if_pos rfl]; exact Int.le_refl _,by show (0:Int) < farI; unfold farI; decide⟩
 ·rw [hf i hi] at hlt ⊢
  split at hlt
  ·rename_i e; subst e; rw [if_pos rfl]; exact List.mem_singleton.2 rfl
  ·exact absurd hlt (by omega)
 ·rw [hd] at hD; cases hD
 ·obtain rfl:=List.mem_singleton.1 ht; exact Int.le_refl _
 ·rw [hd] at hD; cases hD
theorem Dij.perm {g:ab7} {src:Nat} {far:List Int} {D:List Bool} {its its':List qa7} {x:Nat} {key:Int} {rest:List Nat} (h:Dij g src far D its x key rest) (hp:its'.Perm its):Dij g src far D its' x key rest :=
 ⟨h.len,h.dlen,h.srcn,h.src0,h.bnd,h.ach,fun t ht=>h.items t (hp.subset ht),fun i hi h1 h2=>hp.symm.subset (h.opn i hi h1 h2),h.key0,h.low,fun t ht=>h.keyle t (hp.subset ht),h.rel,h.rst,h.cur⟩
theorem Dij.skip {g:ab7} {src:Nat} {far:List Int} {D:List Bool} {its its':List qa7} {t:qa7} {x:Nat} {key:Int} (h:Dij g src far D its x key []) (hp:(t :: its').Perm its) {i:Nat} (hi:t.2 = (i:Int)) (hD:D.getD i false = true):Dij g src far D its' x key []:=by
 refine ⟨h.len,h.dlen,h.srcn,h.src0,h.bnd,h.ach,fun s hs=>h.items s (hp.subset (List.mem_cons_of_mem _ hs)),fun j hj h1 h2 => ?_,h.key0,h.low,fun s hs=>h.keyle s (hp.subset (List.mem_cons_of_mem _ hs)),h.rel,h.rst,h.cur⟩
 have:=hp.symm.subset (h.opn j hj h1 h2)
 rcases List.mem_cons.1 this with e | e
 ·rw [← e] at hi
  have:j = i:=by have:(j:Int) = (i:Int):=hi; exact_mod_cast this
  rw [this,hD] at h1; cases h1
 ·exact e
theorem Dij.take {g:ab7} {src:Nat} {far:List Int} {D:List Bool} {its its':List qa7} {t:qa7} {x:Nat} {key:Int} (h:Dij g src far D its x key []) (hp:(t :: its').Perm its) (hm:∀ s ∈ its,leI t s) {i:Nat} (hi:t.2 = (i:Int)) (hn:i < g.n) (hD:D.getD i false = false) :
  Dij g src far (D.set i true) its' i t.1 (if7 g i g.arcs.length) ∧ fAt far i = t.1:=by
 have htm:t ∈ its:=hp.subset (List.mem_cons_self ..)
 obtain ⟨j,hj,hj2,hj3,hj4⟩:=h.items t htm
 obtain rfl:j = i:=by rw [hi] at hj2; exact_mod_cast hj2.symm
 have hle:=hm _ (h.opn j hj hD (by omega))
 have hk:fAt far j = t.1:=by unfold leI at hle; simp only at hle; omega
 have hkey:=h.keyle t htm
 have hset:∀ a,(D.set j true).getD a false = if a = j then true else D.getD a false:=fun a=>by
  by_cases e:a = j
  ·subst e; simp [List.getD_eq_getElem?_getD,h.dlen,hn]
  ·simp [List.getD_eq_getElem?_getD,e,Ne.symm e]
 refine ⟨⟨h.len,by simpa using h.dlen,h.srcn,h.src0,h.bnd,h.ach,fun s hs=>h.items s (hp.subset (List.mem_cons_of_mem _ hs)),fun a ha h1 h2 => ?_,Int.le_trans h.key0 hkey,fun a ha h1 => ?_,fun s hs => ?_,fun k hk2 h1 => ?_,fun k hk2 => ?_,fun _=>⟨hn,by rw [hset,if_pos rfl],hk⟩⟩,hk⟩
 ·rw [hset] at h1
  split at h1
  ·cases h1
  ·rename_i e
   have:=hp.symm.subset (h.opn a ha h1 h2)
   rcases List.mem_cons.1 this with e2 | e2
   ·rw [← e2] at hi
    exact absurd (by have:(a:Int) = (j:Int):=hi; exact_mod_cast this) e
   ·exact e2
 ·rw [hset] at h1
  split at h1
  ·rename_i e; subst e; omega
  ·have:=h.low a ha h1; omega
 ·have:=hm s (hp.subset (List.mem_cons_of_mem _ hs))
  unfold leI at this; omega
 ·rw [hset] at h1
  split at h1
  ·rename_i e
   exact .inl (List.mem_filter.2 ⟨List.mem_range.2 hk2,by simp [e]⟩)
  ·rcases h.rel k hk2 h1 with h2 | h2
   ·simp at h2
   ·exact .inr h2
 ·obtain ⟨h1,h2⟩:=List.mem_filter.1 hk2
  exact ⟨List.mem_range.1 h1,by simpa using h2⟩
structure hyb7 (g:ab7) (src:Nat) (far:List Int):Prop where
 len:far.length = g.n
 src0:fAt far src = 0
 bnd:∀ i,i < g.n → 0 ≤ fAt far i ∧ fAt far i ≤ farI
 ach:∀ i,i < g.n → fAt far i < farI → nwb7 g src i (fAt far i)
 rel:∀ k,k < g.arcs.length → fAt far (sa7 g k).frm < farI → fAt far (sa7 g k).dst ≤ fAt far (sa7 g k).frm + (sa7 g k).wt
theorem Dij.done {g:ab7} (hg:GIn g) {src:Nat} {far:List Int} {D:List Bool} {x:Nat} {key:Int} (h:Dij g src far D [] x key []):hyb7 g src far :=
 ⟨h.len,h.src0,h.bnd,h.ach,fun k hk hlt=>by
  have h1:=hg.at hk
  cases e:D.getD (sa7 g k).frm false with
  | false=>exact absurd (h.opn _ h1.1 e hlt) (by simp)
  | true =>
   rcases h.rel k hk e with h2 | h2
   ·simp at h2
   ·exact h2⟩
def lub7 (s:cu7):List Value:=[.int .i64 s.frm, .int .i64 s.dst, .int .i64 s.wt]
def eob7:Shape cu7:=bc7 3 (fun x cs=>cs = lub7 x) (by rintro x cs rfl; rfl)
def qm7:Shape ab7 where
 sz:=2
 rep:=fun w F x cs => ∃ v,cs = [.int .i64 (x.n:Int),v] ∧ (ga7 eob7).rep w F x.arcs [v]
 len:=by rintro w F x cs ⟨v,rfl,_⟩; rfl
 keep:=by rintro w w' F x cs ⟨v,rfl,h⟩ ha; exact ⟨v,rfl,(ga7 eob7).keep h ha⟩
 weak:=by rintro w F G x cs ⟨v,rfl,h⟩ ha; exact ⟨v,rfl,(ga7 eob7).weak h ha⟩
 lt:=by rintro w F x cs ⟨v,rfl,h⟩; exact ⟨v,rfl,(ga7 eob7).lt h⟩
theorem so7 {w:World} {F:Nat → Prop} {xs:List cu7} {cs:List Value} (h:(ga7 eob7).rep w F xs cs) :
  ∃ (a:Option Addr) (b off c:Nat),cs = [.slice a xs.length c] ∧ xs.length ≤ c ∧ c ≤ 9223372036854775807 ∧ (0 < xs.length → a = some ⟨b,off,none⟩) ∧ (0 < xs.length → F b) ∧
   (∀ k (h:k < xs.length),w.cell? ⟨b,off + k * 3,none⟩ = some (.int .i64 xs[k].frm) ∧ w.cell? ⟨b,off + k * 3 + 1,none⟩ = some (.int .i64 xs[k].dst) ∧ w.cell? ⟨b,off + k * 3 + 2,none⟩ = some (.int .i64 xs[k].wt)):=by
 obtain ⟨a,b,off,c,rfl,h1,h2,h3,h4⟩:=h
 refine ⟨a,b,off,c,rfl,h1,h2,fun h=>(h3 h).1,fun h=>(h3 h).2,fun k hk => ?_⟩
 obtain ⟨es,rfl,hc⟩:=h4 k hk
 have e0:=hc 0 (by decide)
 have e1:=hc 1 (by decide)
 have e2:=hc 2 (by decide)
 exact ⟨by simpa [eob7,bc7,lub7] using e0,by simpa [eob7,bc7,lub7] using e1,by simpa [eob7,bc7,lub7] using e2⟩
theorem hz7:∀ w,(sizeOf 154).run Try.prog w = .ok 3 w:=fun w=>by kernel_rfl
structure xx7 (g:ab7):Prop where
 n:g.n ≤ 1000
 len:g.arcs.length ≤ 20000
 arc:∀ a ∈ g.arcs,a.frm < a.dst ∧ a.dst < g.n ∧ 0 ≤ a.wt ∧ a.wt ≤ 1099511627776
theorem xx7.in {g:ab7} (h:xx7 g):GIn g:=⟨h.n,h.len,fun a ha=>by have:=h.arc a ha; exact ⟨by omega,this.2.1,this.2.2.1,this.2.2.2⟩⟩
theorem zxb7 {w:World} {n:Nat} {v:Value} {i:Nat} (hi:i < n) :
  Calls Try.prog 110 #[.agg #[.int .i64 (n:Int),v], .int .i64 (i:Int)] w fun e w'=>e = .returned (.bool true) ∧ Below w.heap.size w w':=by
 have h1:(i:Int) < (n:Int):=by omega
 have h0:(0:Int) ≤ (i:Int):=by omega
 go_enter Try.func110,Try.ntmps110
 go_wp2
 go_ret
 exact ⟨rfl,(Below.refl _ _).alloc (Nat.le_refl _) _⟩
theorem cq7 {w:World} {F:Nat → Prop} {g:ab7} {cs:List Value} (h:qm7.rep w F g cs) (hg:GIn g) :
  Calls Try.prog 86 #[.agg cs.toArray] w fun e w'=>e = .returned (.int .i64 0) ∧ Below w.heap.size w w':=by
 obtain ⟨v,rfl,h⟩:=h
 obtain ⟨a,b,off,c,hs, -, -,ha, -,hcell⟩:=so7 h
 obtain rfl:=List.cons.inj hs |>.1
 have HCELL:=hid hcell
 have HG:=hid hg
 have hn:(g.n:Int) ≤ 1000:=by have:=hg.n; omega
 have hl:(g.arcs.length:Int) ≤ 20000:=by have:=hg.len; omega
 clear hs h hcell hg
 go_enter Try.func86,Try.ntmps86
 go_wp2
 go_loopw [22] (fun i wr => ∃ k:Nat,k ≤ g.arcs.length ∧ i = .int .i64 k ∧ Below w.heap.size w wr ∧ Row wr w.heap.size 131 [.int .i64 (g.n:Int), .slice a g.arcs.length c]) (fun i _=>g.arcs.length - (intOf i).toNat)
 case atStart=>exact ⟨0,Nat.zero_le _,rfl,(Below.refl _ _).alloc (Nat.le_refl _) _,Row.new rfl⟩
 case round =>
  obtain ⟨k,hk,rfl,hb,R⟩:=hrel
  obtain ⟨wq,rfl⟩:∃ wq:World,wq = wr:=⟨_,rfl⟩
  by_cases hlt:k < g.arcs.length
  ·have hx:=nb7 (c:=c) Try.underlying129 hz7 (ha (by omega)) hlt
   obtain ⟨g0,g1,g2⟩:=HCELL.out k hlt
   have p0:=aa7 hb g0
   have p1:=aa7 hb g1
   have p2:=aa7 hb g2
   obtain ⟨f1,f2,f3,f4⟩:=HG.out.arc _ (List.getElem_mem hlt)
   obtain ⟨ar,har⟩:∃ ar,ar = g.arcs[k]:=⟨_,rfl⟩
   rw [← har] at p0 p1 p2 f1 f2 f3 f4
   obtain ⟨x1,x2,x3⟩:=ar
   simp only [] at p0 p1 p2 f1 f2 f3 f4
   have hal:Below wq.heap.size wq (wq.alloc (.cells #[.int .i64 (x1:Int), .int .i64 (x2:Int), .int .i64 x3] 154)):=(Below.refl _ _).alloc (Nat.le_refl _) _
   have RA:=Row.new (w:=wq) (g:=wq.heap.size) (e:=154) (cs:=[.int .i64 (x1:Int), .int .i64 (x2:Int), .int .i64 x3]) rfl
   have R1:=R.below hal
   have hb1:=ca7 hb hal
   clear har g0 g1 g2
   go_upto_region 6 with fail
   generalize wq.alloc (.cells #[.int .i64 (x1:Int), .int .i64 (x2:Int), .int .i64 x3] 154) = wa at *
   obtain ⟨q0,q1⟩:=be7 R1
   have a0:=RA.cell (j:=0) (by simp)
   have a1:=RA.cell (j:=1) (by simp)
   have a2:=RA.cell (j:=2) (by simp)
   simp only [List.getElem_cons_zero,List.getElem_cons_succ] at a0 a1 a2
   go_wp2_with fail
   refine (zxb7 f1).mono ?_
   rintro e w1 ⟨rfl,hb2⟩
   have RA1:=RA.below hb2
   have R2:=R1.below hb2
   obtain ⟨q0,q1⟩:=be7 R2
   have a0:=RA1.cell (j:=0) (by simp)
   have a1:=RA1.cell (j:=1) (by simp)
   have a2:=RA1.cell (j:=2) (by simp)
   simp only [List.getElem_cons_zero,List.getElem_cons_succ] at a0 a1 a2
   go_wp2_with fail
   refine (zxb7 f2).mono ?_
   rintro e w2 ⟨rfl,hb3⟩
   have RA2:=RA1.below hb3
   have R3:=R2.below hb3
   have hb4:=ca7 (ca7 hb1 hb2) hb3
   have a2:=RA2.cell (j:=2) (by simp)
   simp only [List.getElem_cons_zero,List.getElem_cons_succ] at a2
   clear R R1 R2 RA RA1 RA2 hb1 hb2 hb3 hal q0 q1 p0 p1 p2
   go_wp2
   go_roundw
   case rel=>exact ⟨k + 1,by omega,by go_num,hb4,R3⟩
   case measure=>simp [intOf]; omega
  ·have hke:k = g.arcs.length:=by omega
   subst hke
   go_wp2
   go_ret
   exact ⟨rfl,hb⟩
def wt7 (k:Nat):Value := .int .i64 (k:Int)
theorem vjb7 {g:ab7} {i k:Nat} (h:(sa7 g k).frm = i):if7 g i (k + 1) = if7 g i k ++ [k]:=by
 unfold if7; rw [List.range_succ,List.filter_append]; simp [h]
theorem epb7 {g:ab7} {i k:Nat} (h:(sa7 g k).frm ≠ i):if7 g i (k + 1) = if7 g i k:=by
 unfold if7; rw [List.range_succ,List.filter_append]; simp [h]
theorem is7 (g:ab7) (i k:Nat):(if7 g i k).length ≤ k:=by
 have:=List.length_filter_le (fun j=>(sa7 g j).frm == i) (List.range k); rw [List.length_range] at this; exact this
theorem vc7 {g:ab7} {k:Nat} (h:k < g.arcs.length):sa7 g k = g.arcs[k]:=by
 unfold sa7; rw [List.getD_eq_getElem?_getD,List.getElem?_eq_getElem h]; rfl
theorem uu7 {w:World} {F:Nat → Prop} {g:ab7} {cs:List Value} (h:qm7.rep w F g cs) (hl:g.arcs.length ≤ 20000) (i:Nat) :
  Calls Try.prog 90 #[.agg cs.toArray, .int .i64 (i:Int)] w fun e w' => ∃ v,e = .returned v ∧ w'.ownsRow w.heap.size 3 1 v (if7 g i g.arcs.length).length ((if7 g i g.arcs.length).map wt7) ∧ Below w.heap.size w w':=by
 obtain ⟨v,rfl,h⟩:=h
 obtain ⟨a,b,off,c,hs, -, -,ha, -,hcell⟩:=so7 h
 obtain rfl:=List.cons.inj hs |>.1
 have HCELL:=hid hcell
 have hli:(g.arcs.length:Int) ≤ 20000:=by omega
 clear hs h hcell
 go_enter Try.func90,Try.ntmps90
 go_wp2
 go_loopw [5,11] (fun ov kv wr => ∃ (k:Nat) (ao:Option Addr) (cp:Nat),k ≤ g.arcs.length ∧ kv = .int .i64 k ∧ ov = .slice ao (if7 g i k).length cp ∧ wr.ownsRow w.heap.size 3 1 (.slice ao (if7 g i k).length cp) (if7 g i k).length ((if7 g i k).map wt7) ∧
   Below w.heap.size w wr ∧ Row wr w.heap.size 131 [.int .i64 (g.n:Int), .slice a g.arcs.length c]) (fun _ kv _=>g.arcs.length - (intOf kv).toNat)
 case atStart=>exact ⟨0,none,0,Nat.zero_le _,rfl,rfl,World.ownsRow_nil _ _ _ _,(Below.refl _ _).alloc (Nat.le_refl _) _,Row.new rfl⟩
 case round =>
  obtain ⟨k,ao,cp,hk,rfl,rfl,hown,hb,R⟩:=hrel
  obtain ⟨wq,rfl⟩:∃ wq:World,wq = wr:=⟨_,rfl⟩
  by_cases hlt:k < g.arcs.length
  ·have hx:=nb7 (c:=c) Try.underlying129 hz7 (ha (by omega)) hlt
   obtain ⟨g0,g1,g2⟩:=HCELL.out k hlt
   have p0:=aa7 hb g0
   have p1:=aa7 hb g1
   have p2:=aa7 hb g2
   obtain ⟨ar,har⟩:∃ ar,ar = g.arcs[k]:=⟨_,rfl⟩
   have har2:sa7 g k = ar:=by rw [har]; exact vc7 hlt
   rw [← har] at p0 p1 p2
   obtain ⟨x1,x2,x3⟩:=ar
   simp only [] at p0 p1 p2
   have hal:Below wq.heap.size wq (wq.alloc (.cells #[.int .i64 (x1:Int), .int .i64 (x2:Int), .int .i64 x3] 154)):=(Below.refl _ _).alloc (Nat.le_refl _) _
   have HR1:=hid (R.below hal)
   have HB1:=hid (ca7 hb hal)
   have HO1:=hid (na7 hown hal)
   have hsz:=hb.size
   have hol:=is7 g i k
   by_cases e:x1 = i
   ·have e1:((x1:Int) == (i:Int)) = true:=by simp [e]
    have HU:=hid (vjb7 (g:=g) (i:=i) (k:=k) (by rw [har2]; exact e))
    clear har har2 g0 g1 g2 R hown hb e hal
    obtain ⟨i1,hi,hz0',hz1',hz2'⟩:=info_parts rj7
    obtain ⟨ol,hole⟩:∃ ol,ol = (if7 g i k).length:=⟨_,rfl⟩
    rw [← hole] at HO1 hol ⊢
    have HOL:=hid hole
    clear hole
    go_upto_region 6 with fail
    generalize wq.alloc (.cells #[.int .i64 (x1:Int), .int .i64 (x2:Int), .int .i64 x3] 154) = wa at *
    have hown1:=HO1.out.alloc (.cells #[.int .i64 k] 3)
    have hwa:=HB1.out.size
    go_wp2_with (at_builtin; refine wpList_append_own _ rfl _ _ 71 rfl w.heap.size 3 i1 (.int .i64 0) 1 8 Try.underlying71 hi hz0' hz1' hz2' rfl (by decide) _ _ _ rfl hown1 ⟨wa.heap.size,0,none⟩ 1 1 [.int .i64 (k:Int)] rfl rfl ?c1 ?c2 ?c3 ?c4 ?c5 ?_)
    case c1=>exact cell_one_new _ _ _
    case c2=>intro u hu; simp at hu; subst hu; rfl
    case c3=>unfold maxLen; omega
    case c4=>omega
    case c5=>simp; omega
    intro v' w2 hown' hgrow _
    obtain ⟨ao',cp',hv', -, -⟩:=ua7 hown'
    subst hv'
    have HB2:=hid (ed7 (w:=wa.alloc (.cells #[.int .i64 k] 3)) (HB1.out.alloc hwa _) hown1 (by simp; omega) (Nat.le_refl _) hgrow)
    have HR2:=hid ((HR1.out.alloc (.cells #[.int .i64 k] 3)).grown hown1 (by decide) hgrow)
    have HO2:=hid (show w2.ownsRow w.heap.size 3 1 (.slice ao' (if7 g i (k + 1)).length cp') (if7 g i (k + 1)).length ((if7 g i (k + 1)).map wt7) from by
     rw [HU.out,List.length_append,List.length_singleton, ← HOL.out,List.map_append]; exact hown')
    have HL:=hid (show ol + 1 = (if7 g i (k + 1)).length from by rw [HU.out,List.length_append,List.length_singleton, ← HOL.out])
    clear hown' hgrow hown1 hi hz0' hz1' hz2'
    go_wp2
    go_roundw
    case rel=>exact ⟨k + 1,ao',cp',by omega,by go_num,by rw [HL.out],HO2.out,HB2.out,HR2.out⟩
    case measure=>simp [intOf]; omega
   ·have e1:((x1:Int) == (i:Int)) = false:=by simp; omega
    have HU:=hid (epb7 (g:=g) (i:=i) (k:=k) (by rw [har2]; exact e))
    clear har har2 g0 g1 g2 R hown hb e hal
    obtain ⟨ol,hole⟩:∃ ol,ol = if7 g i k:=⟨_,rfl⟩
    rw [← hole] at HO1 hol HU ⊢
    clear hole
    go_wp2
    go_roundw
    case rel=>exact ⟨k + 1,ao,cp,by omega,by go_num,by rw [HU.out],by rw [HU.out]; exact HO1.out,HB1.out,HR1.out⟩
    case measure=>simp [intOf]; omega
  ·have hke:k = g.arcs.length:=by omega
   subst hke
   go_wp2
   go_ret
   exact ⟨_,rfl,hown,hb⟩
def gd7 (out:List (List ea7)) (s:ea7):List (List ea7):=out.set (out.length - 1) (out.getD (out.length - 1) [] ++ [s])
def stopV (s:ea7):List Value:=[.int .i64 s.sat, .int .i64 s.load]
theorem ko7 (l:List ea7):(l.flatMap stopV).length = l.length * 2:=by
 induction l with
 | nil=>rfl
 | cons a l ih=>rw [List.flatMap_cons,List.length_append,ih,List.length_cons]; show 2 + _ = _; omega
structure bj7 (TT TS:Nat) (w:World) (B:Nat) (v:Value) (out:List (List ea7)) (vs:List Value):Prop where
 own:w.ownsRow B TT 1 v out.length vs
 len:vs.length = out.length
 rows:∀ i (h:i < out.length) (h':i < vs.length),w.ownsRow B TS 2 vs[i] out[i].length (out[i].flatMap stopV)
 apart:∀ i j (hi:i < vs.length) (hj:j < vs.length),i ≠ j → vs[i].ownBlock = none ∨ vs[i].ownBlock ≠ vs[j].ownBlock
theorem bj7.nil (TT TS:Nat) (w:World) (B:Nat):bj7 TT TS w B (.slice none 0 0) [] [] :=
 ⟨World.ownsRow_nil _ _ _ _,rfl,fun _ h=>absurd h (Nat.not_lt_zero _),fun _ _ h=>absurd h (Nat.not_lt_zero _)⟩
theorem bj7.below {TT TS:Nat} {w w':World} {B:Nat} {v:Value} {out:List (List ea7)} {vs:List Value} (h:bj7 TT TS w B v out vs) (hb:Below w.heap.size w w'):bj7 TT TS w' B v out vs :=
 ⟨na7 h.own hb,h.len,fun i h1 h2=>na7 (h.rows i h1 h2) hb,h.apart⟩
theorem eb7 {w:World} {B B' T T' n n' k k':Nat} {v v':Value} {xs xs':List Value} (h:w.ownsRow B T k v n xs) (h':w.ownsRow B' T' k' v' n' xs') (hne:T ≠ T'):v.ownBlock = none ∨ v.ownBlock ≠ v'.ownBlock:=by
 cases e:v.ownBlock with
 | none=>exact .inl rfl
 | some g =>
  obtain ⟨cs,hc⟩:=we7 h e
  exact .inr fun e'=>(qb7 h' hc hne) e'
theorem bj7.push {TT TS:Nat} {w w':World} {B:Nat} {v v':Value} {out:List (List ea7)} {vs:List Value} (h:bj7 TT TS w B v out vs) (hne:TS ≠ TT) (hg:w.grownBy w' v.ownBlock)
  (ho:w'.ownsRow B TT 1 v' (out.length + 1) (vs ++ [.slice none 0 0])):bj7 TT TS w' B v' (out ++ [[]]) (vs ++ [.slice none 0 0]):=by
 refine ⟨by rw [List.length_append]; exact ho,by simp [h.len],fun i h1 h2 => ?_,fun i j hi hj hij => ?_⟩
 ·by_cases hl:i < out.length
  ·have hl':i < vs.length:=by rw [h.len]; exact hl
   rw [List.getElem_append_left hl',List.getElem_append_left hl]
   exact (h.rows i hl hl').kept hg (eb7 (h.rows i hl hl') h.own hne)
  ·have:i = out.length:=by simp at h1; omega
   subst this
   have e1:(vs ++ [Value.slice none 0 0])[out.length]'h2 = .slice none 0 0:=by rw [List.getElem_append_right (by rw [h.len]; exact Nat.le_refl _)]; simp [h.len]
   have e2:(out ++ [[]])[out.length]'h1 = []:=by rw [List.getElem_append_right (Nat.le_refl _)]; simp
   rw [e1,e2]
   exact World.ownsRow_nil _ _ _ _
 ·have key:∀ i (hi:i < (vs ++ [Value.slice none 0 0]).length),((vs ++ [Value.slice none 0 0])[i]).ownBlock = none ∨ ∃ hi':i < vs.length,(vs ++ [Value.slice none 0 0])[i] = vs[i]:=fun i hi=>by
   by_cases hl:i < vs.length
   ·exact .inr ⟨hl,List.getElem_append_left hl⟩
   ·refine .inl ?_
    rw [List.getElem_append_right (by omega)]
    simp only [List.getElem_singleton]; rfl
  rcases key i hi with h1 | ⟨h1,e1⟩
  ·exact .inl h1
  ·rcases key j hj with h2 | ⟨h2,e2⟩
   ·rw [e1,h2]
    cases e:vs[i].ownBlock with
    | none=>exact .inl rfl
    | some g=>exact .inr (by simp)
   ·rw [e1,e2]; exact h.apart i j h1 h2 hij
theorem wdb7 {w:World} {B T n g cap:Nat} {xs:List Value} (h:w.ownsRow B T 1 (.slice (some ⟨g,0,none⟩) n cap) n xs) (j:Nat) (u:Value):(w.setCell ⟨g,j,none⟩ u).ownsRow B T 1 (.slice (some ⟨g,0,none⟩) n cap) n (xs.set j u) ∧ w.grownBy (w.setCell ⟨g,j,none⟩ u) (some g) :=
 h.stored j u
theorem bj7.stop {TT TS:Nat} {w w1:World} {B g cap:Nat} {out:List (List ea7)} {vs:List Value} {u:Value} {s:ea7} (h:bj7 TT TS w B (.slice (some ⟨g,0,none⟩) out.length cap) out vs) (hne:TS ≠ TT) (hpos:0 < out.length)
  (hg:w.grownBy w1 (vs.getD (out.length - 1) undef).ownBlock) (hu:w1.ownsRow B TS 2 u ((out.getD (out.length - 1) []).length + 1) ((out.getD (out.length - 1) []).flatMap stopV ++ stopV s))
  (hat:u.ownBlock = (vs.getD (out.length - 1) undef).ownBlock ∨ ∃ b,u.ownBlock = some b ∧ w.heap.size ≤ b) :
  bj7 TT TS (w1.setCell ⟨g,out.length - 1,none⟩ u) B (.slice (some ⟨g,0,none⟩) (gd7 out s).length cap) (gd7 out s) (vs.set (out.length - 1) u):=by
 have hl:out.length - 1 < out.length:=by omega
 have hl':out.length - 1 < vs.length:=by rw [h.len]; exact hl
 have ev:vs.getD (out.length - 1) undef = vs[out.length - 1]:=by rw [List.getD_eq_getElem?_getD,List.getElem?_eq_getElem hl']; rfl
 have eo:out.getD (out.length - 1) [] = out[out.length - 1]:=by rw [List.getD_eq_getElem?_getD,List.getElem?_eq_getElem hl]; rfl
 rw [ev] at hg hat
 have hrow:=h.rows _ hl hl'
 have howngrow:w1.ownsRow B TT 1 (.slice (some ⟨g,0,none⟩) out.length cap) out.length vs:=h.own.kept hg (eb7 h.own hrow (Ne.symm hne))
 have hst:=wdb7 howngrow (out.length - 1) u
 have hlen:(gd7 out s).length = out.length:=by unfold gd7; simp
 have hug:u.ownBlock = none ∨ u.ownBlock ≠ some g:=by
  have:=eb7 hu howngrow hne
  exact this
 refine ⟨by rw [hlen]; exact hst.1,by rw [List.length_set,h.len,hlen],fun i h1 h2 => ?_,fun i j hi hj hij => ?_⟩
 ·have hi:i < out.length:=by rw [hlen] at h1; exact h1
  have hi':i < vs.length:=by rw [h.len]; exact hi
  by_cases e:out.length - 1 = i
  ·subst e
   have e1:(vs.set (out.length - 1) u)[out.length - 1]'h2 = u:=by simp
   have e2:(gd7 out s)[out.length - 1]'h1 = out.getD (out.length - 1) [] ++ [s]:=by simp [gd7]
   rw [e1,e2,List.flatMap_append,List.length_append]
   have:=hu.kept hst.2 hug
   simpa using this
  ·have e1:(vs.set (out.length - 1) u)[i]'h2 = vs[i]:=by rw [List.getElem_set_ne e]
   have e2:(gd7 out s)[i]'h1 = out[i]:=by simp only [gd7,List.getElem_set,if_neg e]
   rw [e1,e2]
   have k1:=(h.rows i hi hi').kept hg (h.apart i _ hi' hl' (Ne.symm e))
   exact k1.kept hst.2 (eb7 k1 howngrow hne)
 ·have hlt:∀ i (hi:i < vs.length) b,vs[i].ownBlock = some b → b < w.heap.size:=fun i hi b hb=>((h.rows i (by rw [← h.len]; exact hi) hi).lt b hb).2
  simp only [List.length_set] at hi hj
  simp only [List.getElem_set]
  split
  ·rename_i ei
   split
   ·omega
   ·rename_i ej
    rcases hat with e | ⟨b,e,hb⟩
    ·rw [e]; exact h.apart _ j hl' hj ej
    ·refine .inr fun e' => ?_
     have:=hlt j hj b (by rw [← e',e]); omega
  ·rename_i ei
   split
   ·rename_i ej
    rcases hat with e | ⟨b,e,hb⟩
    ·rw [e]; exact h.apart i _ hi hl' (by omega)
    ·refine .inr fun e' => ?_
     have:=hlt i hi b (by rw [e',e]); omega
   ·exact h.apart i j hi hj hij
theorem bj7.rep {TT TS:Nat} {w:World} {B:Nat} {v:Value} {out:List (List ea7)} {vs:List Value} (h:bj7 TT TS w B v out vs) (hw:∀ t ∈ out, ∀ s ∈ t,wa7 s.sat ∧ wa7 s.load):wk7.rep w (fun b=>B ≤ b) out [v]:=by
 have hr:∀ i (h1:i < out.length) (h2:i < vs.length),(ga7 ye7).rep w (fun b=>B ≤ b) out[i] [vs[i]]:=fun i h1 h2 =>
  rw7 (S:=ye7) stopV (fun _=>rfl) (fun s hs=>⟨rfl,hw _ (List.getElem_mem h1) s hs⟩) (h.rows i h1 h2)
 rcases h.own.2 with ⟨rfl,hn⟩ | ⟨g,cap,cur,rfl,hg,hh,hn1,hc,hsz,ht⟩
 ·have:out = []:=List.eq_nil_of_length_eq_zero hn
  subst this
  exact wf7 _ _ _
 ·have hR:Row w g TT vs:=⟨cur,cur.toList.drop (out.length * 1),hh,by rw [← ht,List.take_append_drop]⟩
  refine bp7 (S:=ga7 ye7) (T:=TT) (vs.map fun v=>[v]) (by simp [h.len]) (fun v hv=>by obtain ⟨u,_,rfl⟩:=List.mem_map.1 hv; rfl) (fun i h1 h2 => ?_) ?_ hn1 hc hg
  ·rw [List.getElem_map]; exact hr i h1 _
  ·have:(vs.map fun v=>[v]).flatten = vs:=by
    clear hR ht hr h
    induction vs with
    | nil=>rfl
    | cons a l ih=>rw [List.map_cons,List.flatten_cons,ih]; rfl
   rw [this]; exact hR
end Go.Proofs.Ytabadfkikdefeaa
