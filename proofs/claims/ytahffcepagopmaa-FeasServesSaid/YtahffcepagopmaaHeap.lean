/- Contracts: container/heap over a pile's row: whatever they do, the things stay the same. -/
import Derived.Test.YtahffcepagopmaaPile
set_option linter.all false
set_option maxRecDepth 100000
set_option maxHeartbeats 6400000
namespace Go.Proofs.Ytahffcepagopmaa
open Go.RowKit
section
variable {w:World} {q:Nat} {a:Option Addr} {n c:Nat}
theorem ok7 (h : w.cell? ⟨q, 0, none⟩ = some (.slice a n c)) (f : Nat) : (method (f + 1) 171 (.pointer (some ⟨q, 0, none⟩)) "Less").run Try.prog w = .ok (115, .slice a n c) w := by
 have e : (method (f + 1) 171 (.pointer (some ⟨q, 0, none⟩)) "Less").run Try.prog w = ((do let v ← load ⟨q, 0, none⟩; pure (115, v)) : Sem _).run Try.prog w := by kernel_rfl
 rw [e,Sem.run_bind]
 simp only [h,run_load,Result.andThen]
 rfl
theorem wx7 (h : w.cell? ⟨q, 0, none⟩ = some (.slice a n c)) (f : Nat) : (method (f + 1) 171 (.pointer (some ⟨q, 0, none⟩)) "Len").run Try.prog w = .ok (114, .slice a n c) w := by
 have e : (method (f + 1) 171 (.pointer (some ⟨q, 0, none⟩)) "Len").run Try.prog w = ((do let v ← load ⟨q, 0, none⟩; pure (114, v)) : Sem _).run Try.prog w := by kernel_rfl
 rw [e,Sem.run_bind]
 simp only [h,run_load,Result.andThen]
 rfl
theorem jk7 (h : w.cell? ⟨q, 0, none⟩ = some (.slice a n c)) (f : Nat) : (method (f + 1) 171 (.pointer (some ⟨q, 0, none⟩)) "Swap").run Try.prog w = .ok (116, .slice a n c) w := by
 have e : (method (f + 1) 171 (.pointer (some ⟨q, 0, none⟩)) "Swap").run Try.prog w = ((do let v ← load ⟨q, 0, none⟩; pure (116, v)) : Sem _).run Try.prog w := by kernel_rfl
 rw [e,Sem.run_bind]
 simp only [h,run_load,Result.andThen]
 rfl
theorem ufb7 (w : World) (q f : Nat) : (method (f + 1) 171 (.pointer (some ⟨q, 0, none⟩)) "Push").run Try.prog w = .ok (118, .pointer (some ⟨q, 0, none⟩)) w := by kernel_rfl
theorem yib7 (w : World) (q f : Nat) : (method (f + 1) 171 (.pointer (some ⟨q, 0, none⟩)) "Pop").run Try.prog w = .ok (117, .pointer (some ⟨q, 0, none⟩)) w := by kernel_rfl
end
theorem ed7.drewN {w:World} {B q:Nat} {l:List xb7} (h:ed7 w B q l) (n:Nat):ed7 (w.drewN n) B q l:=h
theorem in7 {w:World} {B e k n:Nat} {v:Value} {xs:List Value} (h:w.ownsRow B e k v n xs) (m:Nat):(w.drewN m).ownsRow B e k v n xs:=h
theorem ed7.drew {w:World} {B q:Nat} {l:List xb7} (h:ed7 w B q l):ed7 w.drew B q l:=h
theorem cc7.drewN {B:Nat} {w w':World} (h:cc7 B w w') (n:Nat):cc7 B w (w'.drewN n):=⟨below_drewN h.bel n,h.old⟩
theorem ddb7 {α:Type} {l:List α} (h:0 < l.length):∃ l' a,l = l' ++ [a]:=⟨l.dropLast,l.getLast (List.ne_nil_of_length_pos h),(List.dropLast_concat_getLast _).symm⟩
theorem tq7 {w wr w4:World} {B q g c i j:Nat} {l l':List xb7} (hp:l'.Perm l) (hpl:l'.length = l.length) (hqg:q ≠ g) (hR:Row wr q 169 [.slice (some ⟨g,0,none⟩) l'.length c]) {hi:i < l'.length} {hj:j < l'.length}
  (hO:w4.ownsRow B 158 2 (.slice (some ⟨g,0,none⟩) l'.length c) l'.length ((xw7 l' i j l'[i] l'[j]).flatMap itemV)) (hK:cc7 B w wr) (hK4:cc7 B wr w4) (hG:wr.grownBy w4 (some g)) (hM:di7 q g w wr) (_:i < l'.length) (_:j < l'.length) (hq:B ≤ q) :
  (xw7 l' i j l'[i] l'[j]).Perm l ∧ dk7 w4 B q g (xw7 l' i j l'[i] l'[j]) ∧ cc7 B w w4 ∧ di7 q g w w4:=by
 have R2:=hR.keep (hG.block q hR.lt (fun e=>hqg (Option.some.inj e)))
 have hll:=sv7 l' i j l'[i] l'[j]
 rw [← hll] at R2 hO
 exact ⟨(swap_perm l' hi hj).trans hp,⟨_,R2,hO,hq⟩,hK.trans hK4,hM.trans (di7.grown hG)⟩
theorem zec7 {w:World} {B q:Nat} {g:Nat} {l:List xb7} (h:dk7 w B q g l) (hl:l.length ≤ 1000000) {j:Nat} (hj:j < l.length) :
  Calls Try.prog 91 #[.iface 171 (.pointer (some ⟨q,0,none⟩)), .int .i64 (j:Int)] w fun e w'=>e = .returned (.tuple #[]) ∧ (∃ l':List xb7,l'.Perm l ∧ dk7 w' B q g l') ∧ cc7 B w w' ∧ di7 q g w w':=by
 go_enter Try.func91,Try.ntmps91
 go_wp2
 go_loopw [1] (fun jv wr => ∃ (i:Nat) (l':List xb7),jv = .int .i64 i ∧ i < l.length ∧ l'.Perm l ∧ dk7 wr B q g l' ∧ cc7 B w wr ∧ di7 q g w wr) (fun jv _=>(intOf jv).toNat)
 case atStart=>exact ⟨j,l,rfl,hj,List.Perm.refl _,h,cc7.refl _ _,di7.refl _ _ _⟩
 case round =>
  obtain ⟨i,l',rfl,hi,hp,hP,hK,hM⟩:=hrel
  have HM:=hid hM
  clear hM
  by_cases h0:i = 0
  ·subst h0
   go_wp2
   go_end0
   exact ⟨rfl,⟨l',hp,hP⟩,hK,HM.out⟩
  ·have hii:1 ≤ (i:Int):=by omega
   obtain ⟨k,hk⟩:∃ k,k = (i - 1) / 2:=⟨_,rfl⟩
   have hki:k < i:=by omega
   have hdv:Int.tdiv ((i:Int) - 1) 2 = (k:Int):=by rw [Int.tdiv_eq_ediv_of_nonneg (by omega)]; omega
   have hne:((k:Int) == (i:Int)) = false:=by simp; omega
   have hil:(i:Int) ≤ 1000000:=by omega
   have hpl:=hp.length_eq
   obtain ⟨c,R,O,hq⟩:=hP
   have hR:=Row.of_items O
   have p0:=R.cell (j:=0) (by simp)
   simp only [List.getElem_cons_zero] at p0
   have hml:=ok7 p0
   have hms:=fun m=>jk7 (w:=wr.drewN m) (q:=q) p0
   have hi':i < l'.length:=by omega
   have hk':k < l'.length:=by omega
   have HR:=hid R
   have HO:=hid O
   have HI:=hid (lq7 hR)
   have HP:=hid hp
   have HK:=hid hK
   have HPL:=hid hpl
   have hR0:=hid (R.ne hR (by decide))
   clear hk R O hR hp hK h hpl
   go_wp2_with fail
   refine (ck7 HI.out hi' hk').mono ?_
   rintro e w1 ⟨b,m,rfl,rfl⟩
   have HO2:=hid (in7 HO.out m)
   cases b
   ·go_wp2
    go_end0
    exact ⟨rfl,⟨l',HP.out,⟨_,HR.out.drewN m,HO.out,hq⟩⟩,HK.out.drewN m,HM.out.drewN m⟩
   ·go_wp2_with fail
    refine (fk7 HO2.out hk' hi').mono ?_
    rintro e w2 ⟨rfl,hO2,hK2,hG2⟩
    have HS:=hid (swap_perm l' hk' hi')
    have HL:=hid (sv7 l' k i l'[k] l'[i])
    generalize xw7 l' k i l'[k] l'[i] = l2 at hO2 HS HL
    have hqg:q ≠ g:=hR0.out
    have R2:=(HR.out.drewN m).keep (hG2.block q (HR.out.drewN m).lt (fun e=>hqg (Option.some.inj e)))
    have hll:l2.length = l'.length:=HL.out
    rw [← hll] at R2 hO2
    have HM2:=hid ((HM.out.drewN m).trans (di7.grown hG2))
    have HP2:=hid (show dk7 w2 B q g l2 from ⟨_,R2,hO2,hq⟩)
    have HK2:=hid ((HK.out.drewN m).trans hK2)
    clear hO2 hK2 hG2 R2 hll hqg
    go_wp2
    exact ⟨⟨k,l2,rfl,by omega,HS.out.trans HP.out,HP2.out,HK2.out,HM2.out⟩,by simp [intOf]; omega⟩
theorem nib7 {w:World} {B q:Nat} {l:List xb7} (h:ed7 w B q l) (hl:l.length ≤ 100000) (s:xb7) :
  Calls Try.prog 88 #[.iface 171 (.pointer (some ⟨q,0,none⟩)), .iface 158 (.agg #[.int .i64 s.1, .int .i64 s.2])] w fun e w'=>e = .returned (.tuple #[]) ∧ (∃ l':List xb7,l'.Perm (s :: l) ∧ ed7 w' B q l') ∧ cc7 B w w' ∧ nf7 q w w':=by
 have HPU:=hid (wib7 h (by omega) s)
 have hmp:=ufb7
 obtain ⟨s1,s2⟩:=s
 simp only [] at HPU
 clear h
 go_enter Try.func88,Try.ntmps88
 go_wp2_with fail
 refine HPU.out.mono ?_
 rintro e w1 ⟨rfl,hP1,hK1,hA1⟩
 obtain ⟨l1,hl1⟩:∃ l1,l1 = l ++ [(s1,s2)]:=⟨_,rfl⟩
 rw [← hl1] at hP1
 have hpe:l1.Perm ((s1,s2) :: l):=by rw [hl1]; exact List.perm_append_comm
 have hln:l1.length = l.length + 1:=by rw [hl1]; simp
 obtain ⟨g,hG1⟩:=hP1.g (by omega)
 have hP1':=hG1
 obtain ⟨c,R,O,hq⟩:=hP1'
 have p0:=R.cell (j:=0) (by simp)
 simp only [List.getElem_cons_zero] at p0
 have hml:=wx7 p0
 have HG1:=hid hG1
 have hb1:(l1.length:Int) ≤ 1000000:=by omega
 have HUP:=hid (show Calls Try.prog 91 #[.iface 171 (.pointer (some ⟨q,0,none⟩)), .int .i64 ((l1.length:Int) - 1)] w1 _ from by
  have:=zec7 hG1 (by omega) (j:=l1.length - 1) (by omega)
  rw [show ((l1.length - 1:Nat):Int) = (l1.length:Int) - 1 by omega] at this
  exact this)
 have hb0:(1:Int) ≤ (l1.length:Int):=by omega
 have HLN:=hid hln
 have HPE:=hid hpe
 clear hl1 hpe hln hP1 hG1 R O HPU hl
 go_wp2_with fail
 refine qbb7.mono ?_
 rintro e w2 ⟨rfl,rfl⟩
 go_wp2_with fail
 refine HUP.out.mono ?_
 rintro e w3 ⟨rfl,⟨l',hp',hP'⟩,hK',hM'⟩
 go_wp2
 go_end0
 exact ⟨rfl,⟨l',hp'.trans HPE.out,hP'.at⟩,hK1.trans hK',hA1.trans (nf7.of_keep2 hM' HG1.out hP')⟩
theorem zwb7 {w:World} {B q:Nat} {g:Nat} {l:List xb7} (h:dk7 w B q g l) (hl:l.length ≤ 1000000) {i0 n:Nat} (hi0:i0 < l.length) (hnl:n ≤ l.length) :
  Calls Try.prog 92 #[.iface 171 (.pointer (some ⟨q,0,none⟩)), .int .i64 (i0:Int), .int .i64 (n:Int)] w fun e w'=>(∃ b,e = .returned (.bool b)) ∧ (∃ l':List xb7,l'.Perm l ∧ dk7 w' B q g l') ∧ cc7 B w w' ∧ di7 q g w w':=by
 go_enter Try.func92,Try.ntmps92
 go_wp2
 go_loopw [7] (fun jv wr => ∃ (i:Nat) (l':List xb7),jv = .int .i64 i ∧ i < l.length ∧ l'.Perm l ∧ dk7 wr B q g l' ∧ cc7 B w wr ∧ di7 q g w wr) (fun jv _=>l.length - (intOf jv).toNat)
 case atStart=>exact ⟨i0,l,rfl,hi0,List.Perm.refl _,h,cc7.refl _ _,di7.refl _ _ _⟩
 case round =>
  obtain ⟨i,l',rfl,hi,hp,hP,hK,hM⟩:=hrel
  have hpl:=hp.length_eq
  have HM:=hid hM
  clear hM
  have hil:(i:Int) ≤ 1000000:=by omega
  have hnn:(n:Int) ≤ 1000000:=by omega
  obtain ⟨j1,hj1⟩:∃ j1:Nat,j1 = 2 * i + 1:=⟨_,rfl⟩
  obtain ⟨j2,hj2⟩:∃ j2:Nat,j2 = j1 + 1:=⟨_,rfl⟩
  have e1:2 * (i:Int) + 1 = (j1:Int):=by omega
  have e2:(j1:Int) + 1 = (j2:Int):=by omega
  by_cases hend:n ≤ j1
  ·have hee:(n:Int) ≤ (j1:Int):=by omega
   have HP:=hid hP
   have HK:=hid hK
   have HPP:=hid hp
   have hjb:(j1:Int) ≤ 2000001:=by omega
   clear hj1 hj2 e2 hpl h hP hK hp
   go_wp2
   go_ret
   exact ⟨⟨_,rfl⟩,⟨l',HPP.out,HP.out⟩,HK.out,HM.out⟩
  ·have hee:(j1:Int) < (n:Int):=by omega
   obtain ⟨c,R,O,hq⟩:=hP
   have hR:=Row.of_items O
   have p0:=R.cell (j:=0) (by simp)
   simp only [List.getElem_cons_zero] at p0
   have hml:=ok7 p0
   have hml2:=fun m=>ok7 (w:=wr.drewN m) (q:=q) p0
   have hml3:=fun m m'=>ok7 (w:=(wr.drewN m).drewN m') (q:=q) p0
   have hms2:=fun m=>jk7 (w:=wr.drewN m) (q:=q) p0
   have hms3:=fun m m'=>jk7 (w:=(wr.drewN m).drewN m') (q:=q) p0
   have hi':i < l'.length:=by omega
   have h1':j1 < l'.length:=by omega
   have HR:=hid R
   have HO:=hid O
   have HI:=hid (lq7 hR)
   have HP:=hid hp
   have HK:=hid hK
   have HPL:=hid hpl
   have hR0:=hid (R.ne hR (by decide))
   have hi12:i < j1 ∧ j1 < j2:=by omega
   have hjb:(0:Int) ≤ (j1:Int):=by omega
   have hj2n:j2 < n → j2 < l'.length:=by omega
   clear hj1 hj2 R O hR hp hK h hpl
   by_cases hj2l:j2 < n
   ·have h2':=hj2n hj2l
    have hee2:(j2:Int) < (n:Int):=by omega
    go_wp2_with fail
    refine (ck7 HI.out h2' h1').mono ?_
    rintro e w1 ⟨b,m,rfl,rfl⟩
    cases b
    ·go_wp2_with fail
     refine (ck7 (w:=wr.drewN m) HI.out h1' hi').mono ?_
     rintro e w3 ⟨b2,m2,rfl,rfl⟩
     have HO2:=hid (in7 HO.out (m + m2))
     cases b2
     ·go_wp2
      go_ret
      exact ⟨⟨_,rfl⟩,⟨l',HP.out,⟨_,HR.out.drewN (m + m2),HO2.out,hq⟩⟩,HK.out.drewN (m + m2),HM.out.drewN (m + m2)⟩
     ·go_wp2_with fail
      refine (fk7 HO2.out hi' h1').mono ?_
      rintro e w4 ⟨rfl,hO4,hK4,hG4⟩
      have HSW:=hid (tq7 HP.out HPL.out hR0.out (HR.out.drewN (m + m2)) hO4 (HK.out.drewN (m + m2)) hK4 hG4 (HM.out.drewN (m + m2)) hi' h1' hq)
      clear hO4 hK4 hG4
      go_wp2
      exact ⟨⟨j1,_,rfl,by have:=HPL.out; omega,HSW.out⟩,by simp [intOf]; have:=HPL.out; omega⟩
    ·go_wp2_with fail
     refine (ck7 (w:=wr.drewN m) HI.out h2' hi').mono ?_
     rintro e w3 ⟨b2,m2,rfl,rfl⟩
     have HO2:=hid (in7 HO.out (m + m2))
     cases b2
     ·go_wp2
      go_ret
      exact ⟨⟨_,rfl⟩,⟨l',HP.out,⟨_,HR.out.drewN (m + m2),HO2.out,hq⟩⟩,HK.out.drewN (m + m2),HM.out.drewN (m + m2)⟩
     ·go_wp2_with fail
      refine (fk7 HO2.out hi' h2').mono ?_
      rintro e w4 ⟨rfl,hO4,hK4,hG4⟩
      have HSW:=hid (tq7 HP.out HPL.out hR0.out (HR.out.drewN (m + m2)) hO4 (HK.out.drewN (m + m2)) hK4 hG4 (HM.out.drewN (m + m2)) hi' h2' hq)
      clear hO4 hK4 hG4
      go_wp2
      exact ⟨⟨j2,_,rfl,by have:=HPL.out; omega,HSW.out⟩,by simp [intOf]; have:=HPL.out; omega⟩
   ·have hee2:(n:Int) ≤ (j2:Int):=by omega
    go_wp2_with fail
    refine (ck7 HI.out h1' hi').mono ?_
    rintro e w3 ⟨b2,m2,rfl,rfl⟩
    have HO2:=hid (in7 HO.out m2)
    cases b2
    ·go_wp2
     go_ret
     exact ⟨⟨_,rfl⟩,⟨l',HP.out,⟨_,HR.out.drewN m2,HO2.out,hq⟩⟩,HK.out.drewN m2,HM.out.drewN m2⟩
    ·go_wp2_with fail
     refine (fk7 HO2.out hi' h1').mono ?_
     rintro e w4 ⟨rfl,hO4,hK4,hG4⟩
     have HSW:=hid (tq7 HP.out HPL.out hR0.out (HR.out.drewN m2) hO4 (HK.out.drewN m2) hK4 hG4 (HM.out.drewN m2) hi' h1' hq)
     clear hO4 hK4 hG4
     go_wp2
     exact ⟨⟨j1,_,rfl,by have:=HPL.out; omega,HSW.out⟩,by simp [intOf]; have:=HPL.out; omega⟩
theorem hlb7 {w:World} {B q:Nat} {g:Nat} {l:List xb7} (h:dk7 w B q g l) (hl:l.length ≤ 100000) (hpos:0 < l.length) :
  Calls Try.prog 89 #[.iface 171 (.pointer (some ⟨q,0,none⟩))] w fun e w' => ∃ (s:xb7) (l':List xb7),e = .returned (.iface 158 (.agg #[.int .i64 s.1, .int .i64 s.2])) ∧ (s :: l').Perm l ∧ dk7 w' B q g l' ∧ cc7 B w w' ∧ di7 q g w w':=by
 obtain ⟨c,R,O,hq⟩:=h
 have hR:=Row.of_items O
 have p0:=R.cell (j:=0) (by simp)
 simp only [List.getElem_cons_zero] at p0
 have hml:=wx7 p0
 have hms:=jk7 p0
 have hmp:=yib7
 have HO:=hid O
 have HR:=hid R
 have hR0:=hid (R.ne hR (by decide))
 obtain ⟨n,hnn⟩:∃ n,n = l.length - 1:=⟨_,rfl⟩
 have hn1:(l.length:Int) - 1 = (n:Int):=by omega
 have hb0:(l.length:Int) ≤ 100000:=by omega
 have hb1:(1:Int) ≤ (l.length:Int):=by omega
 have hni:n < l.length:=by omega
 have hl2:l.length ≤ 1000000:=by omega
 clear R O hR hnn hl
 go_enter Try.func89,Try.ntmps89
 go_wp2_with fail
 refine qbb7.mono ?_
 rintro e w1 ⟨rfl,rfl⟩
 go_wp2_with fail
 refine (fk7 (i:=0) HO.out hpos hni).mono ?_
 rintro e w2 ⟨rfl,hO2,hK2,hG2⟩
 obtain ⟨hp2,hP2,hK2',hM2⟩:=tq7 (List.Perm.refl l) rfl hR0.out HR.out hO2 (cc7.refl B w1) hK2 hG2 (di7.refl _ _ _) hpos hni hq
 have hll:=sv7 l 0 n l[0] l[n]
 have HK2:=hid hK2'
 generalize xw7 l 0 n l[0] l[n] = l2 at hp2 hP2 hll
 have HDN:=hid (zwb7 hP2 (by omega) (i0:=0) (n:=n) (by omega) (by omega))
 have HP2:=hid hp2
 have HLL:=hid hll
 clear hO2 hK2 hG2 hP2 hp2 hK2' hll
 go_wp2_with fail
 refine HDN.out.mono ?_
 rintro e w3 ⟨⟨b,rfl⟩,⟨l3,hp3,hP3⟩,hK3,hM3⟩
 have hl3:=hp3.length_eq
 obtain ⟨l4,s,hl4⟩:=ddb7 (l:=l3) (by have:=HLL.out; omega)
 subst hl4
 have hl4:l4.length ≤ 1000000:=by have:=HLL.out; simp only [List.length_append,List.length_singleton] at hl3; omega
 have HPO:=hid (zkb7 hP3 hl4)
 have HP3:=hid hp3
 clear hp3 hP3 hl3 hl4 HDN
 go_wp2_with fail
 refine HPO.out.mono ?_
 rintro e w4 ⟨rfl,hP4,hK4,hM4⟩
 go_wp2
 go_ret
 refine ⟨s,l4,rfl, ?_,hP4,(HK2.out.trans hK3).trans hK4,(hM2.trans hM3).trans hM4⟩
 exact (List.perm_append_comm (l₁:=[s]) (l₂:=l4)).trans (HP3.out.trans HP2.out)
end Go.Proofs.Ytahffcepagopmaa
