/- Texts of the proof, joined: InstA, Facts, InstB, InstC, Region, InstD, Own, BadFill, Square, Small, Open, OpenB, Law. -/
import Derived.Test.YtbfbjghfcajddaaGreatProg
import Derived.Deep.DeepCutAuto
import Derived.Deep.Slices
import Derived.OpenShut
import Derived.Test.YtbfbjghfcajddaaGreatRows
import Derived.ProofKit
import Derived.Test.YtbfbjghfcajddaaGreatO1
set_option linter.all false
set_option maxRecDepth 100000
set_option maxHeartbeats 6400000
namespace Go.Proofs.YtbfbjghfcajddaaGreat
open Go.RowKit
def fd7 (n l:Int):Bool:=decide (l ≤ n) && decide (n ≤ 1000000000)
theorem ro7 (n l:Int) (w:World) :
  Calls Tryz.prog 38 #[.int .i64 n, .int .i64 l] w fun e w'=>e = .returned (.bool (fd7 n l)) ∧ w' = w:=by
 by_cases h1:l ≤ n <;> by_cases h2:n ≤ 1000000000
 all_goals
  go_enter Tryz.func38,Tryz.ntmps38
  go_wp2
  go_ret
  exact ⟨uc7 (by simp [fd7]; omega),rfl⟩
def md7 (n m:Int):Bool:=decide (1 ≤ n) && decide (n ≤ m)
theorem jt7 (n m:Int) (w:World) :
  Calls Tryz.prog 12 #[.int .i64 n, .int .i64 m] w fun e w'=>e = .returned (.bool (md7 n m)) ∧ w' = w:=by
 by_cases h1:1 ≤ n <;> by_cases h2:n ≤ m
 all_goals
  go_enter Tryz.func12,Tryz.ntmps12
  go_wp2
  go_ret
  exact ⟨uc7 (by simp [md7]; omega),rfl⟩
def nodes (x:va7):Nat:=1 + x.sats.length + x.custs.length
theorem lr7 {w:World} {F:Nat → Prop} {x:va7} {cs:List Value} (h:pb7.rep w F x cs) (hl:x.sats.length ≤ 1000000) (hl':x.custs.length ≤ 1000000) :
  Calls Tryz.prog 14 #[.agg cs.toArray] w fun e w'=>e = .returned (.int .i64 (nodes x:Nat)) ∧ Below w.heap.size w w':=by
 obtain ⟨s,c,co,ti,rfl, -,h1,h2, -, -⟩:=h
 obtain ⟨a,b,off,c1,hs, -, -, -, -, -, -⟩:=sd7 h1
 obtain ⟨a',b',off',c1',hs', -, -, -, -, -, -⟩:=zc7 h2
 obtain rfl:=List.cons.inj hs |>.1
 obtain rfl:=List.cons.inj hs' |>.1
 clear hs hs' h1 h2
 go_enter Tryz.func14,Tryz.ntmps14
 go_wp2
 go_ret
 exact ⟨kd7 (by simp [nodes]),(Below.refl _ _).alloc (Nat.le_refl _) _⟩
theorem nh7 {w:World} {F:Nat → Prop} {r:List Int} {v:Value} (h:(qa7 pg7).rep w F r [v]) (q:Nat) (n:Int) (hq:w.cell? ⟨q,0,none⟩ = some (.int .i64 n)) :
  Calls Tryz.prog 37 #[v, .pointer (some ⟨q,0,none⟩)] w fun e w'=>e = .returned (.bool ((r.length:Int) != n)) ∧ w' = w:=by
 obtain ⟨a,b,off,c1,hs, -, -, -, -, -, -⟩:=ai7 h
 obtain rfl:=List.cons.inj hs |>.1
 clear hs h
 go_enter Tryz.func37,Tryz.ntmps37
 go_wp2
 go_ret
 exact ⟨rfl,rfl⟩
theorem du7:∀ w,(sizeOf 2).run Tryz.prog w = .ok 1 w:=fun w=>by kernel_rfl
theorem rp7:∀ w,(sizeOf 30).run Tryz.prog w = .ok 1 w:=fun w=>by kernel_rfl
theorem eu7:∀ w,(sizeOf 51).run Tryz.prog w = .ok 2 w:=fun w=>by kernel_rfl
theorem gr7:∀ w,(sizeOf 58).run Tryz.prog w = .ok 4 w:=fun w=>by kernel_rfl
def idxOf {α:Type} (p:α → Bool) (l:List α):Int:=match l.findIdx? p with | some i=>(i:Int) | none => -1
theorem yq7 {α:Type} {p:α → Bool} {l:List α} {k:Nat} (hk:k < l.length) (h0:∀ j (h:j < k),p (l[j]'(Nat.lt_trans h hk)) = false) (h:p l[k] = true):idxOf p l = k:=by
 unfold idxOf
 have:l.findIdx? p = some k:=List.findIdx?_eq_some_iff_getElem.2 ⟨hk,h,fun j hj=>by simpa using h0 j hj⟩
 rw [this]
theorem uo7 {α:Type} {p:α → Bool} {l:List α} (h0:∀ j (h:j < l.length),p l[j] = false):idxOf p l = -1:=by
 unfold idxOf
 have:l.findIdx? p = none:=List.findIdx?_eq_none_iff.2 fun x hx=>by
  obtain ⟨j,hj,rfl⟩:=List.getElem_of_mem hx
  exact h0 j hj
 rw [this]
theorem ct7 {α:Type} (p:α → Bool) (l:List α):decide (0 ≤ idxOf p l) = l.any p:=by
 unfold idxOf
 cases h:l.findIdx? p with
 | none =>
  rw [List.findIdx?_eq_none_iff] at h
  have:l.any p = false:=by
   rw [List.any_eq_false]; intro x hx; simp [h x hx]
  rw [this]; rfl
 | some i =>
  obtain ⟨hi,hp,_⟩:=List.findIdx?_eq_some_iff_getElem.1 h
  have:l.any p = true:=List.any_eq_true.2 ⟨l[i],List.getElem_mem hi,hp⟩
  rw [this]; simp
theorem mi7 {w:World} {F:Nat → Prop} {l:List (List Int)} {v:Value} (h:gc7.rep w F l [v]) (q:Nat) (n:Int) (hq:w.cell? ⟨q,0,none⟩ = some (.int .i64 n)) :
  Calls Tryz.prog 62 #[v, .func (.func 37) #[] #[.pointer (some ⟨q,0,none⟩)]] w fun e w'=>e = .returned (.int .i64 (idxOf (fun r:List Int=>(r.length:Int) != n) l)) ∧ w' = w:=by
 obtain ⟨a,b,off,c1,hs,hlc,hc,ha,hF,hcell⟩:=wb7 h
 obtain rfl:=List.cons.inj hs |>.1
 clear hs h
 go_enter Tryz.func62,Tryz.ntmps62
 go_wp2
 go_loop [5,8] (fun _ i => ∃ k:Nat,k ≤ l.length ∧ i = .int .i64 k ∧ ∀ j (h:j < l.length),j < k → ((l[j].length:Int) != n) = false) (fun _ i=>l.length - (intOf i).toNat)
 case atStart=>exact ⟨0,Nat.zero_le _,rfl,fun _ _ h=>absurd h (Nat.not_lt_zero _)⟩
 case round =>
  obtain ⟨k,hk,rfl,hp⟩:=hrel
  by_cases hlt:k < l.length
  ·have hx:=xi7 (c:=c1) Tryz.underlying26 rp7 (ha (by omega)) hlt
   obtain ⟨v,hv,hr⟩:=hcell k hlt
   have HP:=hid hp
   clear hp hcell ha
   cases hpk:((l[k].length:Int) != n)
   ·go_wp2_with ((with_reducible refine (nh7 hr q n hq).mono ?_); rintro e w' ⟨rfl,rfl⟩)
    go_round
    case rel=>exact ⟨k + 1,by omega,by go_num,fun j hj hjk=>by
     by_cases hjk':j = k
     ·subst hjk'; exact hpk
     ·exact HP.out j hj (by omega)⟩
    case measure=>simp [intOf]; omega
   ·go_wp2_with ((with_reducible refine (nh7 hr q n hq).mono ?_); rintro e w' ⟨rfl,rfl⟩)
    go_ret
    exact ⟨kd7 (yq7 (p:=fun r:List Int=>(r.length:Int) != n) hlt (fun j hj=>HP.out j (by omega) hj) hpk).symm,rfl⟩
  ·have HP:=hid hp
   clear hp hcell ha
   go_wp2
   go_ret
   exact ⟨kd7 (uo7 (p:=fun r:List Int=>(r.length:Int) != n) (fun j hj=>HP.out j hj (by omega))).symm,rfl⟩
theorem sf7 {w:World} {F:Nat → Prop} {l:List (List Int)} {v:Value} (h:gc7.rep w F l [v]) (q:Nat) (n:Int) (hq:w.cell? ⟨q,0,none⟩ = some (.int .i64 n)) :
  Calls Tryz.prog 36 #[v, .func (.func 37) #[] #[.pointer (some ⟨q,0,none⟩)]] w fun e w'=>e = .returned (.bool (l.any (fun r:List Int=>(r.length:Int) != n))) ∧ w' = w:=by
 go_enter Tryz.func36,Tryz.ntmps36
 go_wp2_with ((with_reducible refine (mi7 h q n hq).mono ?_); rintro e w' ⟨rfl,rfl⟩)
 go_ret
 exact ⟨uc7 (ct7 _ _),rfl⟩
def qb7 (l:List (List Int)) (n:Int):Bool:=((l.length:Int) == n) && !(l.any (fun r:List Int=>(r.length:Int) != n))
theorem ep7 {w:World} {F:Nat → Prop} {l:List (List Int)} {v:Value} (h:gc7.rep w F l [v]) (n:Int) :
  Calls Tryz.prog 13 #[v, .int .i64 n] w fun e w'=>e = .returned (.bool (qb7 l n)) ∧ Below w.heap.size w w':=by
 obtain ⟨a,b,off,c1,hs, -, -, -, -, -⟩:=wb7 h
 obtain rfl:=List.cons.inj hs |>.1
 clear hs
 have hb:Below w.heap.size w (w.alloc (.cells #[.int .i64 n] 3)):=(Below.refl _ _).alloc (Nat.le_refl _) _
 have h':=gc7.below h hb
 have hq:(w.alloc (.cells #[.int .i64 n] 3)).cell? ⟨w.heap.size,0,none⟩ = some (.int .i64 n):=by simp
 cases hn:((l.length:Int) == n)
 ·go_enter Tryz.func13,Tryz.ntmps13
  go_wp2
  go_ret
  exact ⟨uc7 (by simp [qb7,hn]),hb⟩
 ·go_enter Tryz.func13,Tryz.ntmps13
  go_wp2_with ((with_reducible refine (sf7 h' w.heap.size n hq).mono ?_); rintro e w' ⟨rfl,rfl⟩)
  go_ret
  exact ⟨uc7 (by simp [qb7,hn]),hb⟩
theorem zj7 {w:World} {F:Nat → Prop} {l:List (List Int)} {v:Value} (h:gc7.rep w F l [v]) {n:Int} {b:Bool} (hb:qb7 l n = b) :
  Calls Tryz.prog 13 #[v, .int .i64 n] w fun e w'=>e = .returned (.bool b) ∧ Below w.heap.size w w':=by
 subst hb; exact ep7 h n
def lv7 (s:gs7):Bool:=fd7 s.room 0 && fd7 s.hold 0
def yo7 (c:uk7):Bool:=fd7 c.load 1 && fd7 c.opn 0 && fd7 c.cls c.opn && fd7 c.stay 0
def io7 (i k:Nat) (n:Int):Bool:=fd7 n 0 && (((i:Int) != (k:Int)) || n == 0)
def xq7 (i:Nat) (r:List Int) (m:Nat):Bool:=(List.range m).all fun k=>io7 i k (r.getD k 0)
def op7 (l:List (List Int)) (m:Nat):Bool:=(List.range m).all fun i=>xq7 i (l.getD i []) (l.getD i []).length
def fp7 (x:va7):Bool:=fd7 x.fin 0 && fd7 x.troom 0 && fd7 x.broom 0
def vd7 (x:va7):Bool:=fp7 x && x.sats.all lv7 && x.custs.all yo7 && op7 x.cost x.cost.length && op7 x.time x.time.length
theorem qm7 (i:Nat) (r:List Int) (k:Nat) (h:k < r.length):xq7 i r (k + 1) = (xq7 i r k && io7 i k r[k]):=by
 unfold xq7; rw [List.range_succ,List.all_append]; simp [List.getD,List.getElem?_eq_getElem h]
theorem qn7 (l:List (List Int)) (k:Nat) (h:k < l.length):op7 l (k + 1) = (op7 l k && xq7 k l[k] l[k].length):=by
 unfold op7; rw [List.range_succ,List.all_append]; simp [List.getD,List.getElem?_eq_getElem h]
def lc7 (x:va7) (k:Nat):Bool:=fp7 x && (x.sats.take k).all lv7
def rb7 (x:va7) (k:Nat):Bool:=lc7 x x.sats.length && (x.custs.take k).all yo7
theorem yi7 (x:va7) (k:Nat) (h:k < x.sats.length):lc7 x (k + 1) = (lc7 x k && lv7 x.sats[k]):=by
 unfold lc7; rw [ae7 _ _ _ h,Bool.and_assoc]
theorem ih7 (x:va7) (k:Nat) (h:k < x.custs.length):rb7 x (k + 1) = (rb7 x k && yo7 x.custs[k]):=by
 unfold rb7; rw [ae7 _ _ _ h,Bool.and_assoc]
def tk7 (x:va7) (k:Nat):List (List Int):=if k = 0 then x.cost else x.time
def tc7 (x:va7) (k:Nat):Bool:=rb7 x x.custs.length && (List.range k).all fun j=>op7 (tk7 x j) (tk7 x j).length
theorem pi7 (x:va7) (k:Nat):tc7 x (k + 1) = (tc7 x k && op7 (tk7 x k) (tk7 x k).length):=by
 unfold tc7; rw [List.range_succ,List.all_append, ← Bool.and_assoc]; simp
theorem il7 (x:va7):tc7 x 2 = vd7 x:=by
 simp [tc7,rb7,lc7,vd7,tk7,List.range_succ,Bool.and_assoc]
theorem rm7 (p q r s:Bool):p = false ∨ (p = true ∧ q = false) ∨ (p = true ∧ q = true ∧ r = true) ∨ (p = true ∧ q = true ∧ r = false ∧ s = false) ∨ (p = true ∧ q = true ∧ r = false ∧ s = true):=by
 cases p <;> cases q <;> cases r <;> cases s <;> simp
def rg7 (x:va7) (j i:Nat) (l:List (List Int)):Bool:=tc7 x j && op7 l i
def pd7 (x:va7) (j i k:Nat) (l:List (List Int)) (r:List Int):Bool:=rg7 x j i l && xq7 i r k
theorem ok7 (x:va7) (j i:Nat) (l:List (List Int)) (h:i < l.length):rg7 x j (i + 1) l = pd7 x j i l[i].length l l[i]:=by
 unfold pd7 rg7; rw [qn7 _ _ h,Bool.and_assoc]
theorem ni7 (x:va7) (j i k:Nat) (l:List (List Int)) (r:List Int) (h:k < r.length):pd7 x j i (k + 1) l r = (pd7 x j i k l r && io7 i k r[k]):=by
 unfold pd7; rw [qm7 _ _ _ h,Bool.and_assoc]
theorem ch7 {w:World} {F:Nat → Prop} {x:va7} {cs:List Value} (h:pb7.rep w F x cs) :
  Calls Tryz.prog 15 #[.agg cs.toArray] w fun e w'=>e = .returned (.bool (vd7 x)) ∧ Below w.heap.size w w':=by
 obtain ⟨s,c,co,ti,rfl, -,h1,h2,h3,h4⟩:=h
 obtain ⟨a,b,off,c1,hs,hlc,hc,ha, -,hcell, -⟩:=sd7 h1
 obtain ⟨a',b',off',c1',hs',hlc',hc',ha', -,hcell', -⟩:=zc7 h2
 obtain rfl:=List.cons.inj hs |>.1
 obtain rfl:=List.cons.inj hs' |>.1
 obtain ⟨a3,b3,off3,c3,hs3,hlc3,hc3,ha3, -,hcell3⟩:=wb7 h3
 obtain ⟨a4,b4,off4,c4,hs4,hlc4,hc4,ha4, -,hcell4⟩:=wb7 h4
 obtain rfl:=List.cons.inj hs3 |>.1
 obtain rfl:=List.cons.inj hs4 |>.1
 clear hs hs' h1 h2 hs3 hs4 h3 h4
 have hst:lc7 x 0 = fp7 x:=by simp [lc7]
 have HST:=hid hst
 clear hst
 go_enter Tryz.func15,Tryz.ntmps15
 go_upto_region 1 with fail
 go_cut [3] (fun s3 wx=>s3 = .bool (lc7 x 0) ∧ Below w.heap.size w wx ∧ w.heap.size < wx.heap.size ∧ wx.cell? ⟨w.heap.size,5,none⟩ = some (.slice a x.sats.length c1) ∧
  wx.cell? ⟨w.heap.size,6,none⟩ = some (.slice a' x.custs.length c1') ∧ wx.cell? ⟨w.heap.size,7,none⟩ = some (.slice a3 x.cost.length c3) ∧ wx.cell? ⟨w.heap.size,8,none⟩ = some (.slice a4 x.time.length c4))
 case first =>
  cases e1:fd7 x.fin 0 <;> cases e2:fd7 x.troom 0 <;> cases e3:fd7 x.broom 0
  all_goals
   have HH:Hid (fp7 x = (fd7 x.fin 0 && fd7 x.troom 0 && fd7 x.broom 0)):=rfl
   go_wp2_with ((with_reducible refine (ro7 _ _ _).mono ?_); rintro e w' ⟨rfl,rfl⟩)
   go_meet
   exact ⟨by rw [HST.out,HH.out,e1,e2,e3]; rfl,(Below.refl _ _).alloc (Nat.le_refl _) _,by simp,by simp,by simp,by simp,by simp⟩
 case rest =>
  obtain ⟨rfl,hb0,hz,q3,q4,q5,q6⟩:=hcut
  clear HST
  obtain ⟨w0,rfl⟩:∃ w0:World,w0 = wc:=⟨_,rfl⟩
  go_wp2
  go_loopw [3,32] (fun ok i wr => ∃ k:Nat,k ≤ x.sats.length ∧ i = .int .i64 k ∧ ok = .bool (lc7 x k) ∧ Below w0.heap.size w0 wr) (fun _ i _=>x.sats.length - (intOf i).toNat)
  case atStart=>exact ⟨0,Nat.zero_le _,rfl,rfl,Below.refl _ _⟩
  case round =>
   obtain ⟨k,hk,rfl,rfl,hb⟩:=hrel
   by_cases hlt:k < x.sats.length
   ·have hx:=jn7 (c:=c1) Tryz.underlying24 eu7 (ha (by omega)) hlt
    have g0:=ca7 (hb0.trans (hb.mono (by omega))) (hcell k hlt).1
    have g1:=ca7 (hb0.trans (hb.mono (by omega))) (hcell k hlt).2
    have HS:=hid (yi7 x k hlt)
    have HB:Hid (lv7 x.sats[k] = (fd7 x.sats[k].room 0 && fd7 x.sats[k].hold 0)):=rfl
    clear hcell hcell' ha ha'
    cases e0:lc7 x k <;> cases e1:fd7 x.sats[k].room 0 <;> cases e2:fd7 x.sats[k].hold 0
    all_goals
     go_wp2_with ((with_reducible refine (ro7 _ _ _).mono ?_); rintro e w' ⟨rfl,rfl⟩)
     go_roundw
     case rel=>exact ⟨k + 1,by omega,by go_num,by rw [HS.out,HB.out,e0,e1,e2]; rfl,(hb.alloc hb.size _)⟩
     case measure=>simp [intOf]; omega
   ·have hks:k = x.sats.length:=by omega
    subst hks
    clear hcell ha
    have hb1:=hb0.trans (hb.mono (by omega))
    have r4:=ca7 hb q4
    have r5:=ca7 hb q5
    have r6:=ca7 hb q6
    have hz1:w.heap.size < wr.heap.size:=Nat.lt_of_lt_of_le hz hb.size
    clear q3 q4 q5 q6 hz hb0 hb
    go_wp2
    obtain ⟨w1,rfl⟩:∃ w1:World,w1 = wr:=⟨_,rfl⟩
    have HC0:lc7 x x.sats.length = rb7 x 0:=by simp [rb7]
    rw [HC0]
    clear HC0
    go_loopw [3,51] (fun ok i wr => ∃ k:Nat,k ≤ x.custs.length ∧ i = .int .i64 k ∧ ok = .bool (rb7 x k) ∧ Below w1.heap.size w1 wr) (fun _ i _=>x.custs.length - (intOf i).toNat)
    case atStart=>exact ⟨0,Nat.zero_le _,rfl,rfl,Below.refl _ _⟩
    case round =>
     obtain ⟨k,hk,rfl,rfl,hb⟩:=hrel
     by_cases hlt:k < x.custs.length
     ·have hx:=jn7 (c:=c1') Tryz.underlying25 gr7 (ha' (by omega)) hlt
      have g0:=ca7 (hb1.trans (hb.mono (by omega))) (hcell' k hlt).1
      have g1:=ca7 (hb1.trans (hb.mono (by omega))) (hcell' k hlt).2.1
      have g2:=ca7 (hb1.trans (hb.mono (by omega))) (hcell' k hlt).2.2.1
      have g3:=ca7 (hb1.trans (hb.mono (by omega))) (hcell' k hlt).2.2.2
      have HS:=hid (ih7 x k hlt)
      have HB:Hid (yo7 x.custs[k] = (fd7 x.custs[k].load 1 && fd7 x.custs[k].opn 0 && fd7 x.custs[k].cls x.custs[k].opn && fd7 x.custs[k].stay 0)):=rfl
      clear hcell' ha' r4 r5 r6
      rcases tt7 (rb7 x k) (fd7 x.custs[k].load 1) (fd7 x.custs[k].opn 0) (fd7 x.custs[k].cls x.custs[k].opn) (fd7 x.custs[k].stay 0) with e0 | ⟨e0,e1⟩ | ⟨e0,e1,e2⟩ | ⟨e0,e1,e2,e3⟩ | ⟨e0,e1,e2,e3,e4⟩ | ⟨e0,e1,e2,e3,e4⟩
      all_goals
       go_wp2_with ((with_reducible refine (ro7 _ _ _).mono ?_); rintro e w' ⟨rfl,rfl⟩)
       go_roundw
       case rel=>exact ⟨k + 1,by omega,by go_num,by rw [HS.out,HB.out]; first | (rw [e0]; rfl) | (rw [e0,e1]; rfl) | (rw [e0,e1,e2]; rfl) | (rw [e0,e1,e2,e3]; rfl) | (rw [e0,e1,e2,e3,e4]; rfl),(hb.alloc hb.size _)⟩
       case measure=>simp [intOf]; omega
     ·have hks:k = x.custs.length:=by omega
      subst hks
      clear hcell' ha' r4
      have hb2:=hb1.trans (hb.mono (by omega))
      have q5:=ca7 hb r5
      have q6:=ca7 hb r6
      have hz2:w.heap.size < wr.heap.size:=Nat.lt_of_lt_of_le hz1 hb.size
      clear r5 r6 hz1 hb1 hb
      go_wp2
      obtain ⟨w2,rfl⟩:∃ w2:World,w2 = wr:=⟨_,rfl⟩
      have HM0:rb7 x x.custs.length = tc7 x 0:=by simp [tc7]
      rw [HM0]
      clear HM0
      go_loop [3,84] (fun ok i => ∃ j:Nat,j ≤ 2 ∧ i = .int .i64 j ∧ ok = .bool (tc7 x j)) (fun _ i=>2 - (intOf i).toNat)
      case atStart=>exact ⟨0,by omega,rfl,rfl⟩
      case round =>
       obtain ⟨j,hj,rfl,rfl⟩:=hrel
       by_cases hlt:j < 2
       ·have hm:∃ (l:List (List Int)) (am:Option Addr) (bm offm cm:Nat),l = tk7 x j ∧ (∀ w',(Instr.index 91 (.agg #[.slice a3 x.cost.length c3, .slice a4 x.time.length c4]) (.int .i64 (j:Int))).run Tryz.prog w' = .ok (.slice am l.length cm) w') ∧
          l.length ≤ cm ∧ cm ≤ 9223372036854775807 ∧ (0 < l.length → am = some ⟨bm,offm,none⟩) ∧ ∀ k (h:k < l.length), ∃ v,w2.cell? ⟨bm,offm + k,none⟩ = some v ∧ (qa7 pg7).rep w2 F l[k] [v]:=by
         have hj2:j = 0 ∨ j = 1:=by omega
         rcases hj2 with rfl | rfl
         ·exact ⟨x.cost,a3,b3,off3,c3,rfl,fun _=>by kernel_rfl,hlc3,hc3,ha3,fun k h=>let ⟨v,h1,h2⟩:=hcell3 k h; ⟨v,ca7 hb2 h1,(qa7 pg7).below h2 hb2⟩⟩
         ·exact ⟨x.time,a4,b4,off4,c4,rfl,fun _=>by kernel_rfl,hlc4,hc4,ha4,fun k h=>let ⟨v,h1,h2⟩:=hcell4 k h; ⟨v,ca7 hb2 h1,(qa7 pg7).below h2 hb2⟩⟩
        obtain ⟨l,am,bm,offm,cm,hl,hix,hlm,hcm,ham,hcm'⟩:=hm
        have HL:=hid hl
        clear hl ha3 ha4 hcell3 hcell4
        have HR0:tc7 x j = rg7 x j 0 l:=by simp [rg7,op7]
        rw [HR0]
        go_wp2
        go_loop [3,89] (fun ok i => ∃ k:Nat,k ≤ l.length ∧ i = .int .i64 k ∧ ok = .bool (rg7 x j k l)) (fun _ i=>l.length - (intOf i).toNat)
        case atStart=>exact ⟨0,by omega,rfl,rfl⟩
        case round =>
         obtain ⟨k,hk,rfl,rfl⟩:=hrel
         by_cases hlt2:k < l.length
         ·have hx:=xi7 (c:=cm) Tryz.underlying26 rp7 (ham (by omega)) hlt2
          obtain ⟨v,hv,hr⟩:=hcm' k hlt2
          have HS:=hid (ok7 x j k l hlt2)
          have HC0:rg7 x j k l = pd7 x j k 0 l l[k]:=by simp [pd7,xq7]
          rw [HC0]
          clear hcm' ham HC0
          obtain ⟨r,hr'⟩:∃ r,r = l[k]:=⟨_,rfl⟩
          rw [← hr'] at hr
          rw [← hr']
          obtain ⟨ar,br,offr,cr,hsr,hlr,hcr,har, -,hcr2, -⟩:=ai7 hr
          obtain rfl:=List.cons.inj hsr |>.1
          have HR:=hid hr'
          clear hsr hr hr'
          go_wp2
          go_loop [3,96] (fun ok i => ∃ m:Nat,m ≤ r.length ∧ i = .int .i64 m ∧ ok = .bool (pd7 x j k m l r)) (fun _ i=>r.length - (intOf i).toNat)
          case atStart=>exact ⟨0,by omega,rfl,rfl⟩
          case round =>
           obtain ⟨m,hm,rfl,rfl⟩:=hrel
           by_cases hlt3:m < r.length
           ·have hx3:=xi7 (c:=cr) Tryz.underlying30 du7 (har (by omega)) hlt3
            have g:=hcr2 m hlt3
            have HS3:=hid (ni7 x j k m l r hlt3)
            have HB3:Hid (io7 k m r[m] = (fd7 r[m] 0 && (((k:Int) != (m:Int)) || r[m] == 0))):=rfl
            clear hcr2 har
            rcases rm7 (pd7 x j k m l r) (fd7 r[m] 0) ((k:Int) != (m:Int)) (r[m] == 0) with e0 | ⟨e0,e1⟩ | ⟨e0,e1,e2⟩ | ⟨e0,e1,e2,e3⟩ | ⟨e0,e1,e2,e3⟩
            all_goals
             go_wp2_with ((with_reducible refine (ro7 _ _ _).mono ?_); rintro e w' ⟨rfl,rfl⟩)
             go_round
             case rel=>exact ⟨m + 1,by omega,by go_num,by rw [HS3.out,HB3.out]; first | (rw [e0]; rfl) | (rw [e0,e1]; rfl) | (rw [e0,e1,e2]; rfl) | (rw [e0,e1,e2,e3]; rfl)⟩
             case measure=>simp [intOf]; omega
           ·have hmr:m = r.length:=by omega
            subst hmr
            clear hcr2 har
            go_wp2
            go_round
            case rel=>exact ⟨k + 1,by omega,by go_num,by rw [HS.out, ← HR.out]⟩
            case measure=>simp [intOf]; omega
         ·have hkl:k = l.length:=by omega
          subst hkl
          have HN:Hid (tc7 x (j + 1) = rg7 x j l.length l):=by rw [pi7]; unfold rg7; rw [HL.out]; rfl
          clear hcm' ham
          go_wp2
          go_round
          case rel=>exact ⟨j + 1,by omega,by go_num,by rw [HN.out]⟩
          case measure=>simp [intOf]; omega
       ·have hj2:j = 2:=by omega
        subst hj2
        have HE:=hid (il7 x)
        go_wp2
        go_ret
        exact ⟨uc7 HE.out,hb2⟩
structure Ext (W:World) where
 val:World
 ok:Below W.heap.size W val
instance (W:World):Nonempty (Ext W):=⟨⟨W,Below.refl _ _⟩⟩
theorem lg7 {P:Program} {id:Nat} {Q:Exit → Act → World → Prop} {a:Act} {w:World} {l:List Oper} (hm:P.follows .mixedOrders = true) (hB:Region.lexB .any l.toArray = true)
  (h:wpQuiet P l.toArray (fun w' => ∃ e:Ext w,w' = e.val) (fun a' => ∀ w',(∃ e:Ext w,w' = e.val) → Q .normal a' w') l a):(Code.region id l.toArray true).wp P Q a w :=
 wp_region_quiet (C:=fun w' => ∃ e:Ext w,w' = e.val) hm hB ⟨⟨{ w with drawn:=w.drawn + 1 },Below.drew (Below.refl _ _)⟩,rfl⟩ (by simpa only [List.toList_toArray] using h)
theorem Calls.ext {P:Program} {f:FuncId} {args:Array Value} {W:World} {x:Ext W} {v:Value}
  (h:Calls P f args x.val fun e w'=>e = .returned v ∧ Below x.val.heap.size x.val w'):Calls P f args x.val fun e w''=>e = .returned v ∧ ∃ y:Ext W,w'' = y.val :=
 h.mono fun _ w' ⟨he,hb⟩=>⟨he,⟨w',x.ok.trans (hb.mono x.ok.size)⟩,rfl⟩
theorem Ext.cell {W:World} (x:Ext W) {a:Addr} {v:Value} (h:W.cell? a = some v):x.val.cell? a = some v:=ca7 x.ok h
def countB (x:va7):Bool:=md7 x.tmany 60 && md7 x.bmany 60 && md7 x.sats.length 12 && md7 x.custs.length 48
def ko7 (x:va7):Bool:=qb7 x.cost (nodes x) && qb7 x.time (nodes x)
def check (x:va7):Int:=if countB x then (if ko7 x then (if vd7 x then 0 else 2) else 4) else 9
theorem he7 {w:World} {F:Nat → Prop} {x:va7} {cs:List Value} (h:pb7.rep w F x cs) :
  Calls Tryz.prog 5 #[.agg cs.toArray] w fun e w'=>e = .returned (.int .i64 (check x)) ∧ Below w.heap.size w w':=by
 have hrep:=h
 obtain ⟨s,c,co,ti,rfl, -,h1,h2,h3,h4⟩:=h
 obtain ⟨a,b,off,c1,hs,hlc,hc, -, -, -, -⟩:=sd7 h1
 obtain ⟨a',b',off',c1',hs',hlc',hc', -, -, -, -⟩:=zc7 h2
 obtain rfl:=List.cons.inj hs |>.1
 obtain rfl:=List.cons.inj hs' |>.1
 obtain ⟨a3,b3,off3,c3,hs3,hlc3,hc3, -, -, -⟩:=wb7 h3
 obtain ⟨a4,b4,off4,c4,hs4,hlc4,hc4, -, -, -⟩:=wb7 h4
 obtain rfl:=List.cons.inj hs3 |>.1
 obtain rfl:=List.cons.inj hs4 |>.1
 clear hs hs' h1 h2 hs3 hs4
 go_enter Tryz.func5,Tryz.ntmps5
 go_upto_region 2 with fail
 go_cut [4] (fun s4 wx=>s4 = .bool (!countB x) ∧ Below w.heap.size w wx ∧ w.heap.size < wx.heap.size ∧
  wx.cell? ⟨w.heap.size,0,none⟩ = some (.int .i64 x.fin) ∧ wx.cell? ⟨w.heap.size,1,none⟩ = some (.int .i64 x.tmany) ∧ wx.cell? ⟨w.heap.size,2,none⟩ = some (.int .i64 x.troom) ∧
  wx.cell? ⟨w.heap.size,3,none⟩ = some (.int .i64 x.bmany) ∧ wx.cell? ⟨w.heap.size,4,none⟩ = some (.int .i64 x.broom) ∧
  wx.cell? ⟨w.heap.size,5,none⟩ = some (.slice a x.sats.length c1) ∧ wx.cell? ⟨w.heap.size,6,none⟩ = some (.slice a' x.custs.length c1') ∧
  wx.cell? ⟨w.heap.size,7,none⟩ = some (.slice a3 x.cost.length c3) ∧ wx.cell? ⟨w.heap.size,8,none⟩ = some (.slice a4 x.time.length c4))
 case first =>
  have HH:Hid (countB x = (md7 x.tmany 60 && md7 x.bmany 60 && md7 x.sats.length 12 && md7 x.custs.length 48)):=rfl
  rcases pt7 (md7 x.tmany 60) (md7 x.bmany 60) (md7 x.sats.length 12) (md7 x.custs.length 48) with e0 | ⟨e0,e1⟩ | ⟨e0,e1,e2⟩ | ⟨e0,e1,e2,e3⟩ | ⟨e0,e1,e2,e3⟩
  all_goals
   go_wp2_with ((with_reducible refine (jt7 _ _ _).mono ?_); rintro e w' ⟨rfl,rfl⟩)
   go_meet
   exact ⟨by rw [HH.out]; first | (rw [e0]; rfl) | (rw [e0,e1]; rfl) | (rw [e0,e1,e2]; rfl) | (rw [e0,e1,e2,e3]; rfl),(Below.refl _ _).alloc (Nat.le_refl _) _,by simp,by simp,by simp,by simp,by simp,by simp,by simp,by simp,by simp,by simp⟩
 case rest =>
  obtain ⟨rfl,hb0,hz,q0,q1,q2,q3,q4,q5,q6,q7,q8⟩:=hcut
  cases ec:countB x
  ·have HE:=hid (show check x = 9 by unfold check; simp [ec])
   go_wp2
   go_ret
   exact ⟨kd7 HE.out.symm,hb0⟩
  ·have hl1:x.sats.length ≤ 1000000 ∧ x.custs.length ≤ 1000000:=by
    simp [countB,md7] at ec; omega
   go_upto_region 4 with fail
   have hrc:=pb7.below hrep hb0
   have hrc3:=gc7.below h3 hb0
   have hrc4:=gc7.below h4 hb0
   have q:∀ e:Ext wc,e.val.cell? ⟨w.heap.size,0,none⟩ = some (.int .i64 x.fin) ∧ e.val.cell? ⟨w.heap.size,1,none⟩ = some (.int .i64 x.tmany) ∧ e.val.cell? ⟨w.heap.size,2,none⟩ = some (.int .i64 x.troom) ∧
     e.val.cell? ⟨w.heap.size,3,none⟩ = some (.int .i64 x.bmany) ∧ e.val.cell? ⟨w.heap.size,4,none⟩ = some (.int .i64 x.broom) ∧ e.val.cell? ⟨w.heap.size,5,none⟩ = some (.slice a x.sats.length c1) ∧
     e.val.cell? ⟨w.heap.size,6,none⟩ = some (.slice a' x.custs.length c1') ∧ e.val.cell? ⟨w.heap.size,7,none⟩ = some (.slice a3 x.cost.length c3) ∧ e.val.cell? ⟨w.heap.size,8,none⟩ = some (.slice a4 x.time.length c4) :=
    fun e=>⟨e.cell q0,e.cell q1,e.cell q2,e.cell q3,e.cell q4,e.cell q5,e.cell q6,e.cell q7,e.cell q8⟩
   obtain ⟨p0,p1,p2,p3,p4,p5,p6,p7,p8⟩:(∀ e:Ext wc,_) ∧ (∀ e:Ext wc,_) ∧ (∀ e:Ext wc,_) ∧ (∀ e:Ext wc,_) ∧ (∀ e:Ext wc,_) ∧ (∀ e:Ext wc,_) ∧ (∀ e:Ext wc,_) ∧ (∀ e:Ext wc,_) ∧ (∀ e:Ext wc,_) :=
    ⟨fun e=>(q e).1,fun e=>(q e).2.1,fun e=>(q e).2.2.1,fun e=>(q e).2.2.2.1,fun e=>(q e).2.2.2.2.1,fun e=>(q e).2.2.2.2.2.1,fun e=>(q e).2.2.2.2.2.2.1,fun e=>(q e).2.2.2.2.2.2.2.1,fun e=>(q e).2.2.2.2.2.2.2.2⟩
   clear q
   go_cut [35] (fun s35 wx=>s35 = .bool (!ko7 x) ∧ Below wc.heap.size wc wx)
   case first =>
    have HH:=hid (show ko7 x = (qb7 x.cost (nodes x) && qb7 x.time (nodes x)) from rfl)
    rcases lu7 (qb7 x.cost (nodes x)) (qb7 x.time (nodes x)) with e0 | ⟨e0,e1⟩ | ⟨e0,e1⟩
    all_goals
     refine lg7 (by kernel_rfl) (by kernel_rfl) ?_
     repeat (go_big_quiet_step (first | (go_at_call 14; exact Calls.ext (lr7 (pb7.below hrc (Ext.ok _)) hl1.1 hl1.2)) | (go_at_call 13; (with_reducible exact Calls.ext (zj7 (gc7.below hrc3 (Ext.ok _)) e0))) | (go_at_call 13; (with_reducible exact Calls.ext (zj7 (gc7.below hrc4 (Ext.ok _)) e1)))))
     refine wpQuiet_nil ?_
     rintro _ ⟨ex,rfl⟩
     go_wp2_with fail
     go_meet
     exact ⟨by rw [HH.out]; first | (rw [e0]; rfl) | (rw [e0,e1]; rfl),ex.ok⟩
   case rest =>
    clear p0 p1 p2 p3 p4 p5 p6 p7 p8
    obtain ⟨rfl,hb1⟩:=hcut
    cases es:ko7 x
    ·have HE:=hid (show check x = 4 by unfold check; simp [ec,es])
     go_wp2
     go_ret
     exact ⟨kd7 HE.out.symm,hb0.trans (hb1.mono hb0.size)⟩
    ·have g0:=ca7 hb1 q0
     have g1:=ca7 hb1 q1
     have g2:=ca7 hb1 q2
     have g3:=ca7 hb1 q3
     have g4:=ca7 hb1 q4
     have g5:=ca7 hb1 q5
     have g6:=ca7 hb1 q6
     have g7:=ca7 hb1 q7
     have g8:=ca7 hb1 q8
     have hb2:=hb0.trans (hb1.mono hb0.size)
     have hr2:=pb7.below hrep hb2
     clear q0 q1 q2 q3 q4 q5 q6 q7 q8 hb0 hb1 hrc hrc3 hrc4 h3 h4 hrep
     cases en:vd7 x
     ·have HE:=hid (show check x = 2 by unfold check; simp [ec,es,en])
      have HN:=hid en
      clear en
      go_wp2_with ((with_reducible refine (ch7 hr2).mono ?_); rintro e w' ⟨rfl,hb3⟩; rw [HN.out])
      go_ret
      exact ⟨kd7 HE.out.symm,hb2.trans (hb3.mono hb2.size)⟩
     ·have HE:=hid (show check x = 0 by unfold check; simp [ec,es,en])
      have HN:=hid en
      clear en
      go_wp2_with ((with_reducible refine (ch7 hr2).mono ?_); rintro e w' ⟨rfl,hb3⟩; rw [HN.out])
      go_ret
      exact ⟨kd7 HE.out.symm,hb2.trans (hb3.mono hb2.size)⟩
def Row (w:World) (g:Nat) (e:TypeId) (cs:List Value):Prop :=
 ∃ (cur:Array Value) (rest:List Value),w.heap[g]? = some (.cells cur e (0,0)) ∧ cur.toList = cs ++ rest
theorem Row.lt {w:World} {g:Nat} {e:TypeId} {cs:List Value} (h:Row w g e cs):g < w.heap.size:=by
 obtain ⟨cur,rest,h1,_⟩:=h
 exact (Array.getElem?_eq_some_iff.1 h1).1
theorem Row.keep {w w':World} {g:Nat} {e:TypeId} {cs:List Value} (h:Row w g e cs) (hk:w'.heap[g]? = w.heap[g]?):Row w' g e cs:=by
 obtain ⟨cur,rest,h1,h2⟩:=h
 exact ⟨cur,rest,hk.trans h1,h2⟩
theorem Row.below {w w':World} {g:Nat} {e:TypeId} {cs:List Value} (h:Row w g e cs) (hb:Below w.heap.size w w'):Row w' g e cs:=h.keep (hb.block g h.lt)
theorem Row.alloc {w:World} {g:Nat} {e:TypeId} {cs:List Value} (h:Row w g e cs) (o:Obj):Row (w.alloc o) g e cs:=h.keep (Below.heap_alloc _ _ _ h.lt)
theorem Row.drew {w:World} {g:Nat} {e:TypeId} {cs:List Value} (h:Row w g e cs):Row w.drew g e cs:=h
theorem Row.ne {w:World} {g g':Nat} {e e':TypeId} {cs cs':List Value} (h:Row w g e cs) (h':Row w g' e' cs') (he:e ≠ e'):g ≠ g':=by
 rintro rfl
 obtain ⟨_,_,h1,_⟩:=h
 obtain ⟨_,_,h2,_⟩:=h'
 rw [h1] at h2
 simp only [Option.some.injEq,Obj.cells.injEq] at h2
 exact he h2.2.1
theorem Row.cell {w:World} {g:Nat} {e:TypeId} {cs:List Value} (h:Row w g e cs) {j:Nat} (hj:j < cs.length):w.cell? ⟨g,j,none⟩ = some cs[j]:=by
 obtain ⟨cur,rest,h1,h2⟩:=h
 have:cur[j]? = some cs[j]:=by
  rw [← Array.getElem?_toList,h2,List.getElem?_append_left hj,List.getElem?_eq_getElem hj]
 simp [World.cell?,h1,this]
theorem Row.frozen {w:World} {g:Nat} {e:TypeId} {cs:List Value} (h:Row w g e cs) (j:Nat):w.frozen? ⟨g,j,none⟩ = false:=by
 obtain ⟨cur,rest,h1,h2⟩:=h
 simp [World.frozen?,h1]
theorem Row.set {w:World} {g:Nat} {e:TypeId} {cs:List Value} (h:Row w g e cs) {j:Nat} (hj:j < cs.length) (u:Value):Row (w.setCell ⟨g,j,none⟩ u) g e (cs.set j u):=by
 obtain ⟨cur,rest,h1,h2⟩:=h
 have hg:g < w.heap.size:=(Array.getElem?_eq_some_iff.1 h1).1
 refine ⟨cur.setIfInBounds j u,rest, ?_, ?_⟩
 ·simp [World.setCell,Array.getElem?_modify,h1]
 ·rw [Array.toList_setIfInBounds,h2,List.set_append_left _ _ hj]
theorem Row.new {w:World} {g:Nat} {e:TypeId} {cs:List Value} (hg:g = w.heap.size):Row (w.alloc (.cells cs.toArray e)) g e cs:=by
 subst hg
 refine ⟨cs.toArray,[], ?_,by simp⟩
 show (w.heap.push _)[w.heap.size]? = _
 simp
theorem Row.of_owns {w:World} {base:Nat} {e:TypeId} {size:Nat} {v:Value} {n:Nat} {xs:List Value} (h:w.ownsRow base e size v n xs) (hn:0 < n) :
  ∃ g c,v = .slice (some ⟨g,0,none⟩) n c ∧ n ≤ c ∧ c ≤ maxLen ∧ base ≤ g ∧ Row w g e xs:=by
 obtain ⟨h1,h2⟩:=h
 rcases h2 with ⟨_,h2⟩ | h2
 ·omega
 ·obtain ⟨g,cap,cur,rfl,hg,hh,hn1,hc,hs,ht⟩:=h2
  exact ⟨g,cap,rfl,hn1,hc,hg,cur,cur.toList.drop (n * size),hh,by rw [← ht,List.take_append_drop]⟩
theorem is7 {w:World} {g:Nat} {e:TypeId} {v0 v1 v2 v3 v4 v5 v6 v7 v8:Value} (h:Row w g e [v0,v1,v2,v3,v4,v5,v6,v7,v8]) :
  w.cell? ⟨g,0,none⟩ = some v0 ∧ w.cell? ⟨g,1,none⟩ = some v1 ∧ w.cell? ⟨g,2,none⟩ = some v2 ∧ w.cell? ⟨g,3,none⟩ = some v3 ∧ w.cell? ⟨g,4,none⟩ = some v4 ∧ w.cell? ⟨g,5,none⟩ = some v5 ∧
   w.cell? ⟨g,6,none⟩ = some v6 ∧ w.cell? ⟨g,7,none⟩ = some v7 ∧ w.cell? ⟨g,8,none⟩ = some v8 :=
 ⟨h.cell (j:=0) (by simp),h.cell (j:=1) (by simp),h.cell (j:=2) (by simp),h.cell (j:=3) (by simp),h.cell (j:=4) (by simp),h.cell (j:=5) (by simp),h.cell (j:=6) (by simp),h.cell (j:=7) (by simp),h.cell (j:=8) (by simp)⟩
theorem yw7 {w:World} {g:Nat} {e:TypeId} {v0 v1:Value} (h:Row w g e [v0,v1]):w.cell? ⟨g,0,none⟩ = some v0 ∧ w.cell? ⟨g,1,none⟩ = some v1 :=
 ⟨h.cell (j:=0) (by simp),h.cell (j:=1) (by simp)⟩
def ne7 (x:Int):Value := .int .i64 x
theorem Row.make {w:World} {n:Nat} {e:TypeId}:Row (w.alloc (.cells (Array.replicate n (ne7 0)) e)) w.heap.size e ((List.replicate n 0).map ne7):=by
 have:=Row.new (w:=w) (e:=e) (cs:=(List.replicate n 0).map ne7) rfl
 simpa using this
def yu7 (r:Nat) (row:List Int):Value := .slice (some ⟨r,0,none⟩) row.length row.length
def ld7 (w:World) (B TR TI:Nat) (out:Value) (rows:List (List Int)) (rs:List Nat):Prop :=
 w.ownsRow B TR 1 out rows.length (List.zipWith yu7 rs rows) ∧ rs.length = rows.length ∧ (∀ i (h:i < rs.length) (h':i < rows.length),Row w rs[i] TI (rows[i].map ne7)) ∧ rs.Nodup ∧ ∀ b ∈ rs,B ≤ b ∧ b < w.heap.size
theorem ld7.nil (w:World) (B TR TI:Nat):ld7 w B TR TI (.slice none 0 0) [] [] :=
 ⟨World.ownsRow_nil _ _ _ _,rfl,fun _ h=>absurd h (Nat.not_lt_zero _),List.nodup_nil,fun _ h=>by cases h⟩
theorem fi7 {w:World} {B T n k:Nat} {v:Value} {xs:List Value} (h:w.ownsRow B T k v n xs) {g:Nat} (hg:v.ownBlock = some g):∃ cs,Row w g T cs:=by
 obtain ⟨h1,h2⟩:=h
 rcases h2 with ⟨rfl,_⟩ | ⟨g',cap,cur,rfl,hg',hh,_⟩
 ·cases hg
 ·simp only [Value.ownBlock,Option.some.injEq] at hg
  subst hg
  exact ⟨cur.toList,cur,[],hh,by simp⟩
theorem ld7.push {w w1 w2:World} {B TR TI r:Nat} {out v':Value} {rows:List (List Int)} {rs:List Nat} {row:List Int} {o:Obj} (h:ld7 w B TR TI out rows rs) (hne:TR ≠ TI)
  (hb:Below w.heap.size w w1) (hr:Row w1 r TI (row.map ne7)) (hrw:w.heap.size ≤ r) (hB:B ≤ w.heap.size)
  (hown:w2.ownsRow B TR 1 v' (rows.length + 1) (List.zipWith yu7 rs rows ++ [yu7 r row])) (hg:(w1.alloc o).grownBy w2 out.ownBlock):ld7 w2 B TR TI v' (rows ++ [row]) (rs ++ [r]):=by
 obtain ⟨h1,h2,h3,h4,h5⟩:=h
 have hob:∀ {b:Nat} {cs:List Value},Row w1 b TI cs → Row w2 b TI cs:=fun {b cs} hR=>by
  refine (hR.alloc o).keep (hg.block b (hR.alloc o).lt ?_)
  intro e
  obtain ⟨cs',hc'⟩:=fi7 h1 e.symm
  exact (hc'.below hb).ne hR hne rfl
 refine ⟨?_,by simp [h2], ?_, ?_, ?_⟩
 ·rw [List.length_append,List.length_singleton,List.zipWith_append h2]
  exact hown
 ·intro i hi hi'
  by_cases hl:i < rows.length
  ·rw [List.getElem_append_left (by omega),List.getElem_append_left hl]
   exact hob ((h3 i (by omega) hl).below hb)
  ·have:i = rows.length:=by simp at hi'; omega
   subst this
   rw [List.getElem_append_right (by omega),List.getElem_append_right (Nat.le_refl _)]
   simp only [h2,Nat.sub_self,List.getElem_cons_zero]
   exact hob hr
 ·rw [List.nodup_append]
  refine ⟨h4,by simp,fun a ha b hb' => ?_⟩
  simp only [List.mem_singleton] at hb'
  have:=(h5 a ha).2
  omega
 ·intro b hb'
  have hs:w.heap.size ≤ w2.heap.size:=Nat.le_trans hb.size (Nat.le_trans (by simp) hg.size)
  have hr2:r < w2.heap.size:=Nat.lt_of_lt_of_le hr.lt (Nat.le_trans (by simp) hg.size)
  rcases List.mem_append.1 hb' with hb' | hb'
  ·have:=h5 b hb'; omega
  ·simp only [List.mem_singleton] at hb'; omega
def xb7 (w:World) (B TR TI:Nat) (v:Value) (rows:List (List Int)) (g:Nat) (rs:List Nat):Prop :=
 ∃ c,v = .slice (some ⟨g,0,none⟩) rows.length c ∧ rows.length ≤ c ∧ c ≤ maxLen ∧ B ≤ g ∧ Row w g TR (List.zipWith yu7 rs rows) ∧ rs.length = rows.length ∧
  (∀ i (h:i < rs.length) (h':i < rows.length),Row w rs[i] TI (rows[i].map ne7)) ∧ rs.Nodup ∧ ∀ b ∈ rs,B ≤ b
theorem ld7.own {w:World} {B TR TI:Nat} {out:Value} {rows:List (List Int)} {rs:List Nat} (h:ld7 w B TR TI out rows rs) (hn:0 < rows.length):∃ g,xb7 w B TR TI out rows g rs:=by
 obtain ⟨h1,h2,h3,h4,h5⟩:=h
 obtain ⟨g,c,hv,hc,hm,hg,hr⟩:=Row.of_owns h1 hn
 exact ⟨g,c,hv,hc,hm,hg,hr,h2,h3,h4,fun b hb=>(h5 b hb).1⟩
theorem xb7.below {w w':World} {B TR TI:Nat} {v:Value} {rows:List (List Int)} {g:Nat} {rs:List Nat} (h:xb7 w B TR TI v rows g rs) (hb:Below w.heap.size w w'):xb7 w' B TR TI v rows g rs:=by
 obtain ⟨c,h0,h1,h2,h3,h4,h5,h6,h7,h8⟩:=h
 exact ⟨c,h0,h1,h2,h3,h4.below hb,h5,fun i h h'=>(h6 i h h').below hb,h7,h8⟩
theorem tu7 {a:Int} (h:a ≠ 0):(a != 0) = true:=by simpa using h
structure TSt (w0:World) (e1 e2:TypeId) (ps ts:List Value) (w:World):Prop where
 bel:Below w0.heap.size w0 w
 one:Row w w0.heap.size e1 ps
 two:Row w (w0.heap.size + 1) e2 ts
theorem TSt.below {w0 w w':World} {e1 e2:TypeId} {ps ts:List Value} (h:TSt w0 e1 e2 ps ts w) (hb:Below w.heap.size w w'):TSt w0 e1 e2 ps ts w':=⟨ub7 h.bel hb,h.one.below hb,h.two.below hb⟩
theorem TSt.start (w0:World) (e1 e2:TypeId) (ps ts:List Value):TSt w0 e1 e2 ps ts ((w0.alloc (.cells ps.toArray e1)).alloc (.cells ts.toArray e2)):=by
 have h1:=(Row.new (w:=w0) (g:=w0.heap.size) (e:=e1) (cs:=ps) rfl).alloc (.cells ts.toArray e2)
 have h2:=Row.new (w:=w0.alloc (.cells ps.toArray e1)) (e:=e2) (cs:=ts) rfl
 rw [show (w0.alloc (.cells ps.toArray e1)).heap.size = w0.heap.size + 1 by simp] at h2
 exact ⟨((Below.refl _ _).alloc (Nat.le_refl _) _).alloc (by simp) _,h1,h2⟩
theorem hi7 {w:World} {F:Nat → Prop} {x:va7} {cs:List Value} (h:pb7.rep w F x cs) (hck:check x ≠ 0) :
  Calls Tryz.prog 6 #[.agg cs.toArray] w fun e w'=>e = .returned (.tuple #[.slice none 0 0, .int .i64 (check x)]) ∧ Below w.heap.size w w':=by
 have hrep:=h
 obtain ⟨s,c,co,ti,rfl, -, -, -, -, -⟩:=h
 have hck2:=tu7 hck
 clear hck
 go_enter Tryz.func6,Tryz.ntmps6
 go_wp2_with fail
 refine (he7 (pb7.below hrep ?_)).mono ?_
 ·exact (Below.refl _ _).alloc (Nat.le_refl _) _
 rintro e w1 ⟨rfl,hb1⟩
 have hB1:=ub7 ((Below.refl _ _).alloc (Nat.le_refl _) _) hb1
 clear hb1
 go_wp2
 exact bodyPost_ret (v := .tuple #[.slice none 0 0, .int .i64 (check x)]) (by simp [results,Tryz.results6,go_sem]) rfl ⟨rfl,hB1⟩
theorem el7 {w:World} {F:Nat → Prop} {x:va7} {cs:List Value} (h:pb7.rep w F x cs) (hck:check x ≠ 0) (v:Value) :
  Calls Tryz.prog 7 #[.agg cs.toArray,v] w fun e w'=>e = .returned (.tuple #[.slice none 0 0, .int .i64 (check x)]) ∧ Below w.heap.size w w':=by
 have hrep:=h
 obtain ⟨s,c,co,ti,rfl, -, -, -, -, -⟩:=h
 have hck2:=tu7 hck
 clear hck
 go_enter Tryz.func7,Tryz.ntmps7
 go_wp2_with fail
 refine (he7 (pb7.below hrep ?_)).mono ?_
 ·exact (Below.refl _ _).alloc (Nat.le_refl _) _
 rintro e w1 ⟨rfl,hb1⟩
 have hB1:=ub7 ((Below.refl _ _).alloc (Nat.le_refl _) _) hb1
 clear hb1
 go_wp2
 exact bodyPost_ret (v := .tuple #[.slice none 0 0, .int .i64 (check x)]) (by simp [results,Tryz.results7,go_sem]) rfl ⟨rfl,hB1⟩
theorem xm7 {w:World} {F:Nat → Prop} {x:va7} {cs:List Value} (h:pb7.rep w F x cs) (hck:check x ≠ 0) (v v1 v2:Value) :
  Calls Tryz.prog 8 #[.agg cs.toArray,v, .agg #[v1,v2]] w fun e w'=>e = .returned (.bool false) ∧ Below w.heap.size w w':=by
 have hrep:=h
 obtain ⟨s,c,co,ti,rfl, -, -, -, -, -⟩:=h
 have hck2:=tu7 hck
 clear hck
 go_enter Tryz.func8,Tryz.ntmps8
 go_wp2_with fail
 refine (he7 (pb7.below hrep ?_)).mono ?_
 ·exact ((Below.refl _ _).alloc (Nat.le_refl _) _).alloc (by simp) _
 rintro e w1 ⟨rfl,hb1⟩
 have hB1:=ub7 (((Below.refl _ _).alloc (Nat.le_refl _) _).alloc (by simp) _) hb1
 clear hb1
 go_wp2
 go_ret
 exact ⟨rfl,hB1⟩
end Go.Proofs.YtbfbjghfcajddaaGreat

namespace Go.Proofs.YtbfbjghfcajddaaGreat
open Go.RowKit
def jx7 (s:gs7):List Value:=[ne7 s.room,ne7 s.hold]
def rv7 (c:uk7):List Value:=[ne7 c.load,ne7 c.opn,ne7 c.cls,ne7 c.stay]
def ie7 (TS TC TR TI:Nat) (w:World) (B:Nat) (x:va7) (cs:List Value):Prop :=
 ∃ gs cs1 gc cc1 vco vti gco rco gti rti,cs = [ne7 x.fin,ne7 x.tmany,ne7 x.troom,ne7 x.bmany,ne7 x.broom, .slice (some ⟨gs,0,none⟩) x.sats.length cs1, .slice (some ⟨gc,0,none⟩) x.custs.length cc1,vco,vti] ∧
  (x.sats.length ≤ cs1 ∧ cs1 ≤ maxLen ∧ x.custs.length ≤ cc1 ∧ cc1 ≤ maxLen) ∧ B ≤ gs ∧ B ≤ gc ∧ Row w gs TS (x.sats.flatMap jx7) ∧ Row w gc TC (x.custs.flatMap rv7) ∧
  xb7 w B TR TI vco x.cost gco rco ∧ xb7 w B TR TI vti x.time gti rti ∧ gco ≠ gti ∧ (∀ a ∈ rco, ∀ b ∈ rti,a ≠ b)
theorem xb7.mono {w:World} {B B' TR TI:Nat} {v:Value} {rows:List (List Int)} {g:Nat} {rs:List Nat} (h:xb7 w B TR TI v rows g rs) (hB:B' ≤ B):xb7 w B' TR TI v rows g rs:=by
 obtain ⟨c,k0,k1,k2,k3,k4,k5,k6,k7,k8⟩:=h
 exact ⟨c,k0,k1,k2,Nat.le_trans hB k3,k4,k5,k6,k7,fun b hb=>Nat.le_trans hB (k8 b hb)⟩
theorem ie7.mono {TS TC TR TI B B':Nat} {w:World} {x:va7} {cs:List Value} (h:ie7 TS TC TR TI w B x cs) (hB:B' ≤ B):ie7 TS TC TR TI w B' x cs:=by
 obtain ⟨gs,cs1,gc,cc1,vco,vti,gco,rco,gti,rti,k0,k1,k2,k3,k4,k5,k6,k7,k8,k9⟩:=h
 exact ⟨gs,cs1,gc,cc1,vco,vti,gco,rco,gti,rti,k0,k1,Nat.le_trans hB k2,Nat.le_trans hB k3,k4,k5,k6.mono hB,k7.mono hB,k8,k9⟩
theorem ie7.below {TS TC TR TI B:Nat} {w w':World} {x:va7} {cs:List Value} (h:ie7 TS TC TR TI w B x cs) (hb:Below w.heap.size w w'):ie7 TS TC TR TI w' B x cs:=by
 obtain ⟨gs,cs1,gc,cc1,vco,vti,gco,rco,gti,rti,h0,h1,h2,h3,h4,h5,h6,h7,h8,h9⟩:=h
 exact ⟨gs,cs1,gc,cc1,vco,vti,gco,rco,gti,rti,h0,h1,h2,h3,h4.below hb,h5.below hb,h6.below hb,h7.below hb,h8,h9⟩
def ud7 {α:Type} (P:Program) (t:TypeId) (S:Shape α):Prop :=
 ∀ (H:Type) (enc:TypeId × Value → H) (w:World) (base:Nat) (spare:Nat → Bool) (held:Bool) (fuel:Nat) (cs:List Value) (x:DataW H × List MemPlace),DataW.trod enc P w base spare held fuel t cs = some x → ∃ y,S.rep w (fun _=>True) y cs
theorem yh7 {P:Program} {t:TypeId} (ht:P.underlying t = some (.int .i64)):ud7 P t pg7:=by
 intro H enc w base spare held fuel cs x h
 cases fuel with
 | zero=>simp [DataW.trod] at h
 | succ n =>
  unfold DataW.trod at h
  rw [ht] at h
  split at h <;> simp_all
  rename_i k2 m e
  obtain ⟨⟨_,hw⟩, -⟩:=h
  subst e
  refine ⟨m,rfl, ?_⟩
  simpa [Lit.wf,IntKind.min,IntKind.max,IntKind.signed,IntKind.bits,of7] using hw
theorem xn7 {α:Type} {p:Nat → α → Prop}:∀ (n:Nat),(∀ i,i < n → ∃ x,p i x) → ∃ xs:List α,xs.length = n ∧ ∀ i (h:i < xs.length),p i xs[i]
 | 0,_=>⟨[],rfl,fun _ h=>absurd h (Nat.not_lt_zero _)⟩
 | n + 1,h=>by
  obtain ⟨xs,hl,hx⟩:=xn7 n fun i hi=>h i (by omega)
  obtain ⟨x,hp⟩:=h n (by omega)
  refine ⟨xs ++ [x],by simp [hl],fun i hi => ?_⟩
  by_cases hlt:i < xs.length
  ·rw [List.getElem_append_left hlt]; exact hx i hlt
  ·have:i = n:=by simp at hi; omega
   subst this
   rw [List.getElem_append_right (by omega)]
   simpa [hl] using hp
theorem ql7 {w:World} {a:Addr} {v:Value} (h:w.cell? a = some v):a.spot = none:=by
 unfold World.cell? at h
 split at h
 ·split at h
  ·cases h
  ·rename_i hs; simpa using hs
 ·cases h
theorem ib7 {α:Type} {P:Program} {t e:TypeId} {S:Shape α} {h0:0 < S.sz} (ht:P.underlying t = some (.slice e)) (hc:P.cellsOf e = S.sz) (he:ud7 P e S):ud7 P t (qa7 S h0):=by
 intro H enc w base spare held fuel cs x h
 rcases Deep.open_slice ht h with ⟨rfl, -⟩ | ⟨a,len,cap,m,n,D,Pl,rfl, -,hl,hm,hmm, -,hx⟩
 ·exact ⟨[],none,0,0,0,rfl,Nat.le_refl _,Nat.zero_le _,fun h=>absurd h (Nat.not_lt_zero _),fun i h=>absurd h (Nat.not_lt_zero _)⟩
 ·have hlm:len ≤ m:=by rw [hmm]; split <;> omega
  obtain ⟨xs,hxl,hxs⟩:=xn7 (p:=fun i y => ∃ es,S.rep w (fun _=>True) y es ∧ ∀ j,j < S.sz → w.cell? ((a.add (i * S.sz)).add j) = es[j]?) len (fun i hi=>by
   obtain ⟨cs',h1,h2⟩:=hx i (by omega)
   obtain ⟨y,hy⟩:=he _ _ _ _ _ _ _ _ _ h2
   rw [hc] at h1
   obtain ⟨_,_,h3⟩:=World.cells?_some h1
   exact ⟨y,cs',hy,h3⟩)
  obtain ⟨b,off,spot⟩:=a
  subst hxl
  have hsp:0 < xs.length → spot = none:=fun hpos=>by
   obtain ⟨es,hr,hce⟩:=hxs 0 hpos
   have hle:=S.len hr
   have:=hce 0 h0
   rw [List.getElem?_eq_getElem (by omega),Nat.zero_mul] at this
   simpa [Addr.add] using ql7 this
  refine ⟨xs,some ⟨b,off,spot⟩,b,off,cap,rfl,hl,hm,fun hpos=>⟨by rw [hsp hpos],trivial⟩,fun i hi => ?_⟩
  obtain rfl:=hsp (by omega)
  obtain ⟨es,hr,hce⟩:=hxs i hi
  refine ⟨es,hr,fun j hj => ?_⟩
  rw [← hce j hj]
  congr 1
  by_cases e1:i * S.sz = 0 <;> by_cases e2:j = 0 <;> simp [Addr.add,e1,e2]
theorem oa7 {P:Program} {t:TypeId} {fs:Array Field} {H:Type} {enc:TypeId × Value → H} {w:World} {base:Nat} {spare:Nat → Bool} {held:Bool} {fuel:Nat} {cs:List Value} {x:DataW H × List MemPlace}
  (ht:P.underlying t = some (.struct fs)) (h:DataW.trod enc P w base spare held fuel t cs = some x) (i ft o k:Nat) (hf:(fs[i]?).map (fun f=>(f.type,f.offset)) = some (ft,o)) (hk:P.cellsOf ft = k) :
  ∃ n y,DataW.trod enc P w base spare held n ft ((cs.drop o).take k) = some y:=by
 obtain ⟨xs,n, -, -, -,hl,hx⟩:=DataW.trod_struct ht h
 obtain ⟨f,hf1,hf2⟩:=Option.map_eq_some_iff.1 hf
 simp only [Prod.mk.injEq] at hf2
 obtain ⟨rfl,rfl⟩:=hf2
 have h1:=hx i f hf1
 have hi:i < xs.length:=by
  rw [hl]
  exact (Array.getElem?_eq_some_iff.1 hf1).1
 rw [List.getElem?_eq_getElem hi,hk] at h1
 exact ⟨n,_,h1⟩
theorem we7 {P:Program} {t:TypeId} {fs:Array Field} {H:Type} {enc:TypeId × Value → H} {w:World} {base:Nat} {spare:Nat → Bool} {held:Bool} {fuel:Nat} {cs:List Value} {x:DataW H × List MemPlace}
  (ht:P.underlying t = some (.struct fs)) (h:DataW.trod enc P w base spare held fuel t cs = some x):cs.length = P.cellsOf t:=by
 obtain ⟨xs,n, -, -,hl, -⟩:=DataW.trod_struct ht h
 exact hl
theorem yn7:Tryz.prog.cellsOf 3 = 1:=by kernel_rfl
theorem td7:Tryz.prog.cellsOf 2 = 1:=by kernel_rfl
theorem ce7:ud7 Tryz.prog 2 pg7:=yh7 Tryz.underlying2
theorem hn7:ud7 Tryz.prog 3 pg7:=yh7 Tryz.underlying3
theorem am7:ud7 Tryz.prog 30 (qa7 pg7):=ib7 (S:=pg7) Tryz.underlying30 td7 ce7
theorem pq7:ud7 Tryz.prog 29 (qa7 pg7):=ib7 (S:=pg7) Tryz.underlying29 yn7 hn7
theorem um7:ud7 Tryz.prog 26 gc7:=ib7 (S:=qa7 pg7) Tryz.underlying26 (by kernel_rfl) am7
theorem ik7 {H:Type} {enc:TypeId × Value → H} {w:World} {base:Nat} {spare:Nat → Bool} {held:Bool} {fuel:Nat} {v0 v1:Value} {x:DataW H × List MemPlace} (h:DataW.trod enc Tryz.prog w base spare held fuel 23 [v0,v1] = some x) :
  ∃ a b:Int,v0 = .int .i64 a ∧ v1 = .int .i64 b ∧ of7 a ∧ of7 b:=by
 obtain ⟨_,_,f0⟩:=oa7 Tryz.underlying23 h 0 3 0 1 rfl yn7
 obtain ⟨_,_,f1⟩:=oa7 Tryz.underlying23 h 1 2 1 1 rfl td7
 obtain ⟨a0,e0,w0⟩:=hn7 _ _ _ _ _ _ _ _ _ f0
 obtain ⟨a1,e1,w1⟩:=ce7 _ _ _ _ _ _ _ _ _ f1
 simp at e0 e1
 exact ⟨a0,a1,e0,e1,w0,w1⟩
theorem ys7:ud7 Tryz.prog 51 qt7:=by
 intro H enc w base spare held fuel cs x h
 have hl:cs.length = 2:=(we7 Tryz.underlying51 h).trans (by kernel_rfl)
 match cs,hl with
 | [v0,v1],_ =>
  obtain ⟨_,_,f0⟩:=oa7 Tryz.underlying51 h 0 2 0 1 rfl td7
  obtain ⟨_,_,f1⟩:=oa7 Tryz.underlying51 h 1 2 1 1 rfl td7
  obtain ⟨a0,e0,w0⟩:=ce7 _ _ _ _ _ _ _ _ _ f0
  obtain ⟨a1,e1,w1⟩:=ce7 _ _ _ _ _ _ _ _ _ f1
  simp at e0 e1
  subst e0; subst e1
  exact ⟨⟨a0,a1⟩,rfl,w0,w1⟩
theorem nq7:ud7 Tryz.prog 58 ti7:=by
 intro H enc w base spare held fuel cs x h
 have hl:cs.length = 4:=(we7 Tryz.underlying58 h).trans (by kernel_rfl)
 match cs,hl with
 | [v0,v1,v2,v3],_ =>
  obtain ⟨_,_,f0⟩:=oa7 Tryz.underlying58 h 0 2 0 1 rfl td7
  obtain ⟨_,_,f1⟩:=oa7 Tryz.underlying58 h 1 2 1 1 rfl td7
  obtain ⟨_,_,f2⟩:=oa7 Tryz.underlying58 h 2 2 2 1 rfl td7
  obtain ⟨_,_,f3⟩:=oa7 Tryz.underlying58 h 3 2 3 1 rfl td7
  obtain ⟨a0,e0,w0⟩:=ce7 _ _ _ _ _ _ _ _ _ f0
  obtain ⟨a1,e1,w1⟩:=ce7 _ _ _ _ _ _ _ _ _ f1
  obtain ⟨a2,e2,w2⟩:=ce7 _ _ _ _ _ _ _ _ _ f2
  obtain ⟨a3,e3,w3⟩:=ce7 _ _ _ _ _ _ _ _ _ f3
  simp at e0 e1 e2 e3
  subst e0; subst e1; subst e2; subst e3
  exact ⟨⟨a0,a1,a2,a3⟩,rfl,w0,w1,w2,w3⟩
theorem er7:ud7 Tryz.prog 24 bl7:=ib7 (S:=qt7) Tryz.underlying24 (by kernel_rfl) ys7
theorem oo7:ud7 Tryz.prog 25 yf7:=ib7 (S:=ti7) Tryz.underlying25 (by kernel_rfl) nq7
theorem gq7:ud7 Tryz.prog 28 pb7:=by
 intro H enc w base spare held fuel cs x h
 have hl:cs.length = 9:=(we7 Tryz.underlying28 h).trans (by kernel_rfl)
 match cs,hl with
 | [v0,v1,v2,v3,v4,v5,v6,v7,v8],_ =>
  obtain ⟨_,_,f0⟩:=oa7 Tryz.underlying28 h 0 2 0 1 rfl td7
  obtain ⟨_,_,f1⟩:=oa7 Tryz.underlying28 h 1 23 1 2 rfl (by kernel_rfl)
  obtain ⟨_,_,f2⟩:=oa7 Tryz.underlying28 h 2 23 3 2 rfl (by kernel_rfl)
  obtain ⟨_,_,f3⟩:=oa7 Tryz.underlying28 h 3 24 5 1 rfl (by kernel_rfl)
  obtain ⟨_,_,f4⟩:=oa7 Tryz.underlying28 h 4 25 6 1 rfl (by kernel_rfl)
  obtain ⟨_,_,f5⟩:=oa7 Tryz.underlying28 h 5 26 7 1 rfl (by kernel_rfl)
  obtain ⟨_,_,f6⟩:=oa7 Tryz.underlying28 h 6 26 8 1 rfl (by kernel_rfl)
  obtain ⟨a0,e0,w0⟩:=ce7 _ _ _ _ _ _ _ _ _ f0
  obtain ⟨a1,b1,rfl,rfl,w1,u1⟩:=ik7 f1
  obtain ⟨a2,b2,rfl,rfl,w2,u2⟩:=ik7 f2
  obtain ⟨a3,r3⟩:=er7 _ _ _ _ _ _ _ _ _ f3
  obtain ⟨a4,r4⟩:=oo7 _ _ _ _ _ _ _ _ _ f4
  obtain ⟨a5,r5⟩:=um7 _ _ _ _ _ _ _ _ _ f5
  obtain ⟨a6,r6⟩:=um7 _ _ _ _ _ _ _ _ _ f6
  simp at e0
  subst e0
  exact ⟨⟨a0,a1,b1,a2,b2,a3,a4,a5,a6⟩,v5,v6,v7,v8,rfl,⟨w0,w1,u1,w2,u2⟩,r3,r4,r5,r6⟩
theorem ag7 {P:Program} {w:World} {r:Reach} {base:Nat} {t:TypeId} {fs:Array Field} {v:Value} (ht:P.underlying t = some (.struct fs)) (h:Value.okWide P w r base t v):∃ cs:List Value,v = .agg cs.toArray ∧ v.cells.toList = cs:=by
 unfold Value.okWide at h
 rw [ht] at h
 obtain ⟨cs,rfl, -⟩:=h
 exact ⟨cs.toList,by simp,by simp [Value.cells]⟩
theorem np7:ud7 Tryz.prog 32 cw7:=by
 intro H enc w base spare held fuel cs x h
 have hl:cs.length = 2:=(we7 Tryz.underlying32 h).trans (by kernel_rfl)
 match cs,hl with
 | [v0,v1],_ =>
  obtain ⟨n0,y0,f0⟩:=oa7 Tryz.underlying32 h 0 3 0 1 rfl yn7
  obtain ⟨n1,y1,f1⟩:=oa7 Tryz.underlying32 h 1 29 1 1 rfl (by kernel_rfl)
  obtain ⟨a0,e0,w0⟩:=hn7 _ _ _ _ _ _ _ _ _ f0
  obtain ⟨a1,r1⟩:=pq7 _ _ _ _ _ _ _ _ _ f1
  simp at e0
  subst e0
  exact ⟨⟨a0,a1⟩,v1,rfl,w0,r1⟩
open Go.RowKit Go.WideShapes Go.ChangeShapes
theorem Tryz.own:ownKnob Tryz.prog.godebug = none:=by kernel_rfl
theorem Tryz.laid:laidOutB Tryz.prog = true:=by kernel_rfl
section
variable {H:Type} {enc:TypeId × Value → H} {P:Program}
theorem yd7 (hl:laidOutB P = true) {W W':World} (hb:Below W.heap.size W W') {sp:Nat → Bool}:∀ (ts:List TypeId) (vs:List Value) (ds:List (DataW H)) (ps:List MemPlace),DataW.TrodAll enc P W 0 (fun _=>true) true ts vs ds ps →
  (∀ t ∈ ts,P.readableRec t = true ∧ t < P.types.size) → (∀ x ∈ ps,x.block < W.heap.size) → (∀ x ∈ ps,sp x.block = true) → DataW.TrodAll enc P W' 0 sp true ts vs ds ps
 | [],[],[],_,h,_,_,_=>h
 | t :: ts,v :: vs,d :: ds,ps,h,ht,hlt,hsp=>by
  obtain ⟨p,q,h1,h2,rfl⟩:=h
  exact ⟨p,q,WideElems.Trod_stays hl (ht t (List.mem_cons_self ..)).1 (ht t (List.mem_cons_self ..)).2 h1 (fun x hx=>hb.same (hlt x (List.mem_append_left _ hx))) (fun x hx=>hsp x (List.mem_append_left _ hx)),
   yd7 hl hb ts vs ds q h2 (fun t h=>ht t (List.mem_cons_of_mem _ h)) (fun x hx=>hlt x (List.mem_append_right _ hx)) (fun x hx=>hsp x (List.mem_append_right _ hx)),rfl⟩
 | [],_ :: _,_,_,h,_,_,_=>h.elim
 | [],[],_ :: _,_,h,_,_,_=>h.elim
 | _ :: _,[],_,_,h,_,_,_=>h.elim
 | _ :: _,_ :: _,[],_,h,_,_,_=>h.elim
theorem hp7 {f:Func} {s:ChangeSpec} {fresh handsOn again:Bool} {W W':World} {args:Array Value} {ds gs:List (DataW H)} {before:List MemPlace} {bt:TypeId} (hl:laidOutB P = true)
  (hW:DataW.Whole enc P f.params.toList s.vars false W args.toList ds gs before) (hv:s.vars = []) (hs:s.fn H (ds ++ gs) = { results:=[.lit (.bool true)],args:=ds }) (hr:f.resultTypes = #[bt]) (hbt:P.underlying bt = some .bool)
  (ht:∀ t ∈ f.params.toList,P.readableRec t = true ∧ t < P.types.size) (hb:Below W.heap.size W W'):s.post enc P f false fresh handsOn again W args (.bool true) W':=by
 have hlt:∀ p ∈ before,p.block < W.heap.size:=fun p hp=>hW.lt p hp
 have hW2:=hW
 obtain ⟨pa,pv,hA,hV,rfl,hz, -⟩:=hW2
 have hpv:pv = []:=by
  rw [hv] at hV
  cases gs with
  | nil=>exact hV
  | cons g gs=>exact hV.elim
 have hgs:gs = []:=by
  rw [hv] at hV
  cases gs with
  | nil=>rfl
  | cons g gs=>exact hV.elim
 subst hpv
 have hres:∀ (b:Nat) (sp:Nat → Bool) (hd:Bool),DataW.TrodAll enc P W' b sp hd f.resultTypes.toList ((Value.bool true).resultList f.resultTypes.size) (s.fn H (ds ++ gs)).results []:=fun b sp hd=>by
  rw [hs,hr]
  exact trodAll_mk1 (shut_bool hbt _)
 have hargs:∀ sp:Nat → Bool,(∀ p ∈ pa ++ [],sp p.block = true) → DataW.TrodAll enc P W' 0 sp true f.params.toList args.toList (s.fn H (ds ++ gs)).args pa:=fun sp hsp=>by
  rw [hs]
  exact yd7 hl hb _ _ _ _ hA ht (fun x hx=>hlt x (List.mem_append_left _ hx)) (fun x hx=>hsp x (List.mem_append_left _ hx))
 have hvars:∀ sp:Nat → Bool,DataW.TrodVars enc P W' sp s.vars (s.fn H (ds ++ gs)).vars []:=fun sp=>by
  rw [hs,hv]; rfl
 refine ⟨ds,gs,pa ++ [],[],pa,[],hW,hres _ _ _,hargs _ (fun p hp=>by simpa using hlt p hp),hvars _,World.keptBut_mono (fun p hp=>⟨hp, ?_⟩) (hb.frame (· ∈ pa ++ [])),fun _ => ?_⟩
 ·rw [List.append_nil] at hp
  exact Or.inr (.inl hp)
 ·refine ⟨ok_one hr rfl (okWide_bool_mk hbt _),_,_,([] ++ pa) ++ [],⟨[] ++ pa,[],trodAll_append (hargs _ (fun _ _=>rfl)) (hres _ _ _),hvars _,rfl, ?_, ?_⟩, ?_⟩
  ·intro b off hp
   have hin:MemPlace.cell b off ∈ pa ++ []:=by simpa using hp
   rw [hb.frozen (hlt _ hin)]
   exact hz b off hin
  ·intro ha; cases ha
  ·intro p hp _
   simpa using hp
end
end Go.Proofs.YtbfbjghfcajddaaGreat
