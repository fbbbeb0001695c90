/- Contracts: container/heap over a pile's row: whatever they do, the things stay the same. -/
import Derived.Test.YtabadfkikdefeaaGreatPile
set_option linter.all false
set_option maxRecDepth 100000
set_option maxHeartbeats 6400000
namespace Go.Proofs.YtabadfkikdefeaaGreat
open Go.RowKit
section
variable {w:World} {q:Nat} {a:Option Addr} {n c:Nat}
theorem nl7 (h : w.cell? ⟨q, 0, none⟩ = some (.slice a n c)) (f : Nat) : (method (f + 1) 329 (.pointer (some ⟨q, 0, none⟩)) "Less").run Tryz.prog w = .ok (271, .slice a n c) w := by
 have e : (method (f + 1) 329 (.pointer (some ⟨q, 0, none⟩)) "Less").run Tryz.prog w = ((do let v ← load ⟨q, 0, none⟩; pure (271, v)) : Sem _).run Tryz.prog w := by kernel_rfl
 rw[e,Sem.run_bind]
 simp only[h,run_load,Result.andThen]
 rfl
theorem uy7 (h : w.cell? ⟨q, 0, none⟩ = some (.slice a n c)) (f : Nat) : (method (f + 1) 329 (.pointer (some ⟨q, 0, none⟩)) "Len").run Tryz.prog w = .ok (270, .slice a n c) w := by
 have e : (method (f + 1) 329 (.pointer (some ⟨q, 0, none⟩)) "Len").run Tryz.prog w = ((do let v ← load ⟨q, 0, none⟩; pure (270, v)) : Sem _).run Tryz.prog w := by kernel_rfl
 rw[e,Sem.run_bind]
 simp only[h,run_load,Result.andThen]
 rfl
theorem il7 (h : w.cell? ⟨q, 0, none⟩ = some (.slice a n c)) (f : Nat) : (method (f + 1) 329 (.pointer (some ⟨q, 0, none⟩)) "Swap").run Tryz.prog w = .ok (272, .slice a n c) w := by
 have e : (method (f + 1) 329 (.pointer (some ⟨q, 0, none⟩)) "Swap").run Tryz.prog w = ((do let v ← load ⟨q, 0, none⟩; pure (272, v)) : Sem _).run Tryz.prog w := by kernel_rfl
 rw[e,Sem.run_bind]
 simp only[h,run_load,Result.andThen]
 rfl
theorem dib7 (w : World) (q f : Nat) : (method (f + 1) 329 (.pointer (some ⟨q, 0, none⟩)) "Push").run Tryz.prog w = .ok (274, .pointer (some ⟨q, 0, none⟩)) w := by kernel_rfl
theorem dob7 (w : World) (q f : Nat) : (method (f + 1) 329 (.pointer (some ⟨q, 0, none⟩)) "Pop").run Tryz.prog w = .ok (273, .pointer (some ⟨q, 0, none⟩)) w := by kernel_rfl
end
theorem wc7.drewN {w:World}{B q:Nat}{l:List sa7}(h:wc7 w B q l) (n:Nat):wc7 (w.drewN n) B q l:=h
theorem rn7 {w:World}{B e k n:Nat}{v:Value}{xs:List Value}(h:w.ownsRow B e k v n xs) (m:Nat):(w.drewN m).ownsRow B e k v n xs:=h
theorem wc7.drew {w:World}{B q:Nat}{l:List sa7}(h:wc7 w B q l):wc7 w.drew B q l:=h
theorem zb7.drewN {B:Nat}{w w':World}(h:zb7 B w w') (n:Nat):zb7 B w (w'.drewN n):=⟨below_drewN h.bel n,h.old⟩
theorem udb7 {α:Type}{l:List α}(h:0<l.length):∃l' a,l=l'++[a]:=⟨l.dropLast,l.getLast (List.ne_nil_of_length_pos h),(List.dropLast_concat_getLast _).symm⟩
theorem mp7 {w wr w4:World}{B q g c i j:Nat}{l l':List sa7}(hp:l'.Perm l) (hpl:l'.length=l.length) (hqg:q≠g) (hR:Row wr q 327 [.slice (some ⟨g,0,none⟩) l'.length c]) {hi:i<l'.length}{hj:j<l'.length}
  (hO:w4.ownsRow B 307 2 (.slice (some ⟨g,0,none⟩) l'.length c) l'.length ((zm7 l' i j l'[i] l'[j]).flatMap itemV)) (hK:zb7 B w wr) (hK4:zb7 B wr w4) (hG:wr.grownBy w4 (some g)) (hM:zh7 q g w wr) (_:i<l'.length) (_:j<l'.length) (hq:B≤q) :
  (zm7 l' i j l'[i] l'[j]).Perm l∧uk7 w4 B q g (zm7 l' i j l'[i] l'[j])∧zb7 B w w4∧zh7 q g w w4:=by
 have R2:=hR.keep (hG.block q hR.lt (fun e=>hqg (Option.some.inj e)))
 have hll:=ix7 l' i j l'[i] l'[j]
 rw[← hll]at R2 hO
 exact⟨(swap_perm l' hi hj).trans hp,⟨_,R2,hO,hq⟩,hK.trans hK4,hM.trans (zh7.grown hG)⟩
theorem woc7 {w:World}{B q:Nat}{g:Nat}{l:List sa7}(h:uk7 w B q g l) (hl:l.length≤1000000) {j:Nat}(hj:j<l.length) :
  Calls Tryz.prog 230 #[.iface 329 (.pointer (some ⟨q,0,none⟩)),.int .i64 (j:Int)] w fun e w'=>e = .returned (.tuple #[])∧(∃l':List sa7,UpR l j l'∧l'.Perm l∧uk7 w' B q g l')∧zb7 B w w'∧zh7 q g w w':=by
 go_enter Tryz.func230,Tryz.ntmps230
 go_wp2
 go_loopw [1] (fun jv wr=>∃(i:Nat) (l':List sa7),jv = .int .i64 i∧i<l.length∧Hid (∀l'',UpR l' i l''→UpR l j l'')∧l'.Perm l∧uk7 wr B q g l'∧zb7 B w wr∧zh7 q g w wr) (fun jv _=>(intOf jv).toNat)
 case atStart=>exact⟨j,l,rfl,hj,hid fun _ h=>h,List.Perm.refl _,h,zb7.refl _ _,zh7.refl _ _ _⟩
 case round =>
  obtain⟨i,l',rfl,hi,HU,hp,hP,hK,hM⟩:=hrel
  have HM:=hid hM
  clear hM
  by_cases h0:i=0
  ·subst h0
   go_wp2
   go_end0
   exact⟨rfl,⟨l',HU.out _ (.zero _),hp,hP⟩,hK,HM.out⟩
  ·have hii:1≤(i:Int):=by omega
   obtain⟨k,hk⟩:∃k,k=(i-1) / 2:=⟨_,rfl⟩
   have hki:k<i:=by omega
   have hdv:Int.tdiv ((i:Int)-1) 2=(k:Int):=by rw[Int.tdiv_eq_ediv_of_nonneg (by omega)];omega
   have hne:((k:Int)==(i:Int))=false:=by simp;omega
   have hil:(i:Int)≤1000000:=by omega
   have hpl:=hp.length_eq
   obtain⟨c,R,O,hq⟩:=hP
   have hR:=Row.of_items O
   have p0:=R.cell (j:=0) (by simp)
   simp only[List.getElem_cons_zero]at p0
   have hml:=nl7 p0
   have hms:=fun m=>il7 (w:=wr.drewN m) (q:=q) p0
   have hi':i<l'.length:=by omega
   have hk':k<l'.length:=by omega
   have HR:=hid R
   have HO:=hid O
   have HI:=hid (zq7 hR)
   have HP:=hid hp
   have HK:=hid hK
   have HPL:=hid hpl
   have hR0:=hid (R.ne hR (by decide))
   have HKK:=hid hk
   have H0:=hid (show 0<i by omega)
   clear hk R O hR hp hK h hpl
   go_wp2_with fail
   refine (tk7 HI.out hi' hk').mono ?_
   rintro e w1 ⟨m,rfl,rfl⟩
   have HO2:=hid (rn7 HO.out m)
   obtain⟨b,hbb⟩:∃b,b=yd7 l'[i] l'[k]:=⟨_,rfl⟩
   rw[← hbb]
   have HBB:=hid hbb
   clear hbb
   cases b
   ·go_wp2
    go_end0
    exact⟨rfl,⟨l',HU.out _ (icc7 HKK.out hi' hk' HBB.out.symm),HP.out,⟨_,HR.out.drewN m,HO.out,hq⟩⟩,HK.out.drewN m,HM.out.drewN m⟩
   ·go_wp2_with fail
    refine (ok7 HO2.out hk' hi').mono ?_
    rintro e w2 ⟨rfl,hO2,hK2,hG2⟩
    have HS:=hid (swap_perm l' hk' hi')
    have HL:=hid (ix7 l' k i l'[k] l'[i])
    have HUS:Hid (∀l'',UpR (zm7 l' k i l'[k] l'[i]) k l''→UpR l j l''):=hid fun l'' hr=>HU.out _ (fdc7 H0.out HKK.out hi' hk' HBB.out.symm hr)
    clear HU HBB HKK
    generalize zm7 l' k i l'[k] l'[i]=l2 at hO2 HS HL HUS
    have hqg:q≠g:=hR0.out
    have R2:=(HR.out.drewN m).keep (hG2.block q (HR.out.drewN m).lt (fun e=>hqg (Option.some.inj e)))
    have hll:l2.length=l'.length:=HL.out
    rw[← hll]at R2 hO2
    have HM2:=hid ((HM.out.drewN m).trans (zh7.grown hG2))
    have HP2:=hid (show uk7 w2 B q g l2 from ⟨_,R2,hO2,hq⟩)
    have HK2:=hid ((HK.out.drewN m).trans hK2)
    clear hO2 hK2 hG2 R2 hll hqg
    go_wp2
    exact⟨⟨k,l2,rfl,by omega,HUS,HS.out.trans HP.out,HP2.out,HK2.out,HM2.out⟩,by simp[intOf];omega⟩
theorem znb7 {w:World}{B q:Nat}{l:List sa7}(h:wc7 w B q l) (hl:l.length≤100000) (s:sa7) :
  Calls Tryz.prog 218 #[.iface 329 (.pointer (some ⟨q,0,none⟩)),.iface 307 (.agg #[.int .i64 s.1,.int .i64 s.2])] w fun e w'=>e = .returned (.tuple #[])∧(∃l':List sa7,l'.Perm (s::l)∧(do7 l→do7 l')∧wc7 w' B q l')∧zb7 B w w'∧if7 q w w':=by
 have HPU:=hid (tnb7 h (by omega) s)
 have hmp:=dib7
 obtain⟨s1,s2⟩:=s
 simp only[]at HPU
 clear h
 go_enter Tryz.func218,Tryz.ntmps218
 go_wp2_with fail
 refine HPU.out.mono ?_
 rintro e w1 ⟨rfl,hP1,hK1,hA1⟩
 obtain⟨l1,hl1⟩:∃l1,l1=l++[(s1,s2)]:=⟨_,rfl⟩
 rw[← hl1]at hP1
 have hpe:l1.Perm ((s1,s2)::l):=by rw[hl1];exact List.perm_append_comm
 have hln:l1.length=l.length+1:=by rw[hl1];simp
 obtain⟨g,hG1⟩:=hP1.g (by omega)
 have hP1':=hG1
 obtain⟨c,R,O,hq⟩:=hP1'
 have p0:=R.cell (j:=0) (by simp)
 simp only[List.getElem_cons_zero]at p0
 have hml:=uy7 p0
 have HG1:=hid hG1
 have hb1:(l1.length:Int)≤1000000:=by omega
 have HUP:=hid (show Calls Tryz.prog 230 #[.iface 329 (.pointer (some ⟨q,0,none⟩)),.int .i64 ((l1.length:Int)-1)] w1 _ from by
  have:=woc7 hG1 (by omega) (j:=l1.length-1) (by omega)
  rw[show ((l1.length-1:Nat):Int)=(l1.length:Int)-1 by omega]at this
  exact this)
 have hb0:(1:Int)≤(l1.length:Int):=by omega
 have HLN:=hid hln
 have HPE:=hid hpe
 have HPP:Hid (∀l',UpR l1 (l1.length-1) l'→do7 l→do7 l'):=hid fun l' hu ho=>by
  have hpp:=zwb7 (s:=(s1,s2)) ho
  rw[← hl1]at hpp
  rw[hln,Nat.add_sub_cancel]at hu
  exact adc7 hu (by omega) hpp
 clear hl1 hpe hln hP1 hG1 R O HPU hl
 go_wp2_with fail
 refine aeb7.mono ?_
 rintro e w2 ⟨rfl,rfl⟩
 go_wp2_with fail
 refine HUP.out.mono ?_
 rintro e w3 ⟨rfl,⟨l',hu',hp',hP'⟩,hK',hM'⟩
 go_wp2
 go_end0
 exact⟨rfl,⟨l',hp'.trans HPE.out,HPP.out _ hu',hP'.at⟩,hK1.trans hK',hA1.trans (if7.of_keep2 hM' HG1.out hP')⟩
theorem wfc7 {w:World}{B q:Nat}{g:Nat}{l:List sa7}(h:uk7 w B q g l) (hl:l.length≤1000000) {i0 n:Nat}(hi0:i0<l.length) (hnl:n≤l.length) :
  Calls Tryz.prog 231 #[.iface 329 (.pointer (some ⟨q,0,none⟩)),.int .i64 (i0:Int),.int .i64 (n:Int)] w fun e w'=>(∃b,e = .returned (.bool b))∧(∃l':List sa7,sr7 n l i0 l'∧l'.Perm l∧uk7 w' B q g l')∧zb7 B w w'∧zh7 q g w w':=by
 go_enter Tryz.func231,Tryz.ntmps231
 go_wp2
 go_loopw [7] (fun jv wr=>∃(i:Nat) (l':List sa7),jv = .int .i64 i∧i<l.length∧Hid (∀l'',sr7 n l' i l''→sr7 n l i0 l'')∧l'.Perm l∧uk7 wr B q g l'∧zb7 B w wr∧zh7 q g w wr) (fun jv _=>l.length-(intOf jv).toNat)
 case atStart=>exact⟨i0,l,rfl,hi0,hid fun _ h=>h,List.Perm.refl _,h,zb7.refl _ _,zh7.refl _ _ _⟩
 case round =>
  obtain⟨i,l',rfl,hi,HD,hp,hP,hK,hM⟩:=hrel
  have hpl:=hp.length_eq
  have HM:=hid hM
  clear hM
  have hil:(i:Int)≤1000000:=by omega
  have hnn:(n:Int)≤1000000:=by omega
  obtain⟨j1,hj1⟩:∃j1:Nat,j1=2*i+1:=⟨_,rfl⟩
  obtain⟨j2,hj2⟩:∃j2:Nat,j2=j1+1:=⟨_,rfl⟩
  have e1:2*(i:Int)+1=(j1:Int):=by omega
  have e2:(j1:Int)+1=(j2:Int):=by omega
  by_cases hend:n≤j1
  ·have hee:(n:Int)≤(j1:Int):=by omega
   have HP:=hid hP
   have HK:=hid hK
   have HPP:=hid hp
   have hjb:(j1:Int)≤2000001:=by omega
   have HST:=hid (HD.out _ (sr7.stop (l:=l') (i:=i) (by omega)))
   clear hj1 hj2 e2 hpl h hP hK hp
   go_wp2
   go_ret
   exact⟨⟨_,rfl⟩,⟨l',HST.out,HPP.out,HP.out⟩,HK.out,HM.out⟩
  ·have hee:(j1:Int)<(n:Int):=by omega
   obtain⟨c,R,O,hq⟩:=hP
   have hR:=Row.of_items O
   have p0:=R.cell (j:=0) (by simp)
   simp only[List.getElem_cons_zero]at p0
   have hml:=nl7 p0
   have hml2:=fun m=>nl7 (w:=wr.drewN m) (q:=q) p0
   have hml3:=fun m m'=>nl7 (w:=(wr.drewN m).drewN m') (q:=q) p0
   have hms2:=fun m=>il7 (w:=wr.drewN m) (q:=q) p0
   have hms3:=fun m m'=>il7 (w:=(wr.drewN m).drewN m') (q:=q) p0
   have hi':i<l'.length:=by omega
   have h1':j1<l'.length:=by omega
   have HR:=hid R
   have HO:=hid O
   have HI:=hid (zq7 hR)
   have HP:=hid hp
   have HK:=hid hK
   have HPL:=hid hpl
   have hR0:=hid (R.ne hR (by decide))
   have hi12:i<j1∧j1<j2:=by omega
   have hjb:(0:Int)≤(j1:Int):=by omega
   have hj2n:j2<n→j2<l'.length:=by omega
   have HJ1:=hid hj1
   have HJ2:=hid hj2
   have HL0:=hid (show 2*i+1<n by omega)
   clear hj1 hj2 R O hR hp hK h hpl
   by_cases hj2l:j2<n
   ·have h2':=hj2n hj2l
    have hee2:(j2:Int)<(n:Int):=by omega
    go_wp2_with fail
    refine (tk7 HI.out h2' h1').mono ?_
    rintro e w1 ⟨m,rfl,rfl⟩
    obtain⟨b,hbb⟩:∃b,b=yd7 l'[j2] l'[j1]:=⟨_,rfl⟩
    rw[← hbb]
    have HBB:=hid hbb
    clear hbb
    cases b
    ·go_wp2_with fail
     refine (tk7 (w:=wr.drewN m) HI.out h1' hi').mono ?_
     rintro e w3 ⟨m2,rfl,rfl⟩
     have HO2:=hid (rn7 HO.out (m+m2))
     have HKD:=hid (vob7 (n:=n) HJ1.out HJ2.out h1' (fun _=>⟨h2',HBB.out.symm⟩))
     obtain⟨b2,hb2⟩:∃b2,b2=yd7 l'[j1] l'[i]:=⟨_,rfl⟩
     rw[← hb2]
     have HB2:=hid hb2
     clear hb2
     cases b2
     ·go_wp2
      go_ret
      exact⟨⟨_,rfl⟩,⟨l',HD.out _ (pu7 HKD.out HL0.out hi' h1' HB2.out.symm),HP.out,⟨_,HR.out.drewN (m+m2),HO2.out,hq⟩⟩,HK.out.drewN (m+m2),HM.out.drewN (m+m2)⟩
     ·go_wp2_with fail
      refine (ok7 HO2.out hi' h1').mono ?_
      rintro e w4 ⟨rfl,hO4,hK4,hG4⟩
      have HSW:=hid (mp7 HP.out HPL.out hR0.out (HR.out.drewN (m+m2)) hO4 (HK.out.drewN (m+m2)) hK4 hG4 (HM.out.drewN (m+m2)) hi' h1' hq)
      clear hO4 hK4 hG4
      go_wp2
      exact⟨⟨j1,_,rfl,by have:=HPL.out;omega,hid (fun l'' hr=>HD.out _ (nx7 HKD.out HL0.out hi' h1' HB2.out.symm hr)),HSW.out⟩,by simp[intOf];have:=HPL.out;omega⟩
    ·go_wp2_with fail
     refine (tk7 (w:=wr.drewN m) HI.out h2' hi').mono ?_
     rintro e w3 ⟨m2,rfl,rfl⟩
     have HO2:=hid (rn7 HO.out (m+m2))
     have HKD:=hid (vcc7 (n:=n) HJ1.out HJ2.out h1' h2' hj2l HBB.out.symm)
     obtain⟨b2,hb2⟩:∃b2,b2=yd7 l'[j2] l'[i]:=⟨_,rfl⟩
     rw[← hb2]
     have HB2:=hid hb2
     clear hb2
     cases b2
     ·go_wp2
      go_ret
      exact⟨⟨_,rfl⟩,⟨l',HD.out _ (pu7 HKD.out HL0.out hi' h2' HB2.out.symm),HP.out,⟨_,HR.out.drewN (m+m2),HO2.out,hq⟩⟩,HK.out.drewN (m+m2),HM.out.drewN (m+m2)⟩
     ·go_wp2_with fail
      refine (ok7 HO2.out hi' h2').mono ?_
      rintro e w4 ⟨rfl,hO4,hK4,hG4⟩
      have HSW:=hid (mp7 HP.out HPL.out hR0.out (HR.out.drewN (m+m2)) hO4 (HK.out.drewN (m+m2)) hK4 hG4 (HM.out.drewN (m+m2)) hi' h2' hq)
      clear hO4 hK4 hG4
      go_wp2
      exact⟨⟨j2,_,rfl,by have:=HPL.out;omega,hid (fun l'' hr=>HD.out _ (nx7 HKD.out HL0.out hi' h2' HB2.out.symm hr)),HSW.out⟩,by simp[intOf];have:=HPL.out;omega⟩
   ·have hee2:(n:Int)≤(j2:Int):=by omega
    go_wp2_with fail
    refine (tk7 HI.out h1' hi').mono ?_
    rintro e w3 ⟨m2,rfl,rfl⟩
    have HO2:=hid (rn7 HO.out m2)
    have HKD:=hid (vob7 (n:=n) HJ1.out HJ2.out h1' (fun h=>absurd h hj2l))
    obtain⟨b2,hb2⟩:∃b2,b2=yd7 l'[j1] l'[i]:=⟨_,rfl⟩
    rw[← hb2]
    have HB2:=hid hb2
    clear hb2
    cases b2
    ·go_wp2
     go_ret
     exact⟨⟨_,rfl⟩,⟨l',HD.out _ (pu7 HKD.out HL0.out hi' h1' HB2.out.symm),HP.out,⟨_,HR.out.drewN m2,HO2.out,hq⟩⟩,HK.out.drewN m2,HM.out.drewN m2⟩
    ·go_wp2_with fail
     refine (ok7 HO2.out hi' h1').mono ?_
     rintro e w4 ⟨rfl,hO4,hK4,hG4⟩
     have HSW:=hid (mp7 HP.out HPL.out hR0.out (HR.out.drewN m2) hO4 (HK.out.drewN m2) hK4 hG4 (HM.out.drewN m2) hi' h1' hq)
     clear hO4 hK4 hG4
     go_wp2
     exact⟨⟨j1,_,rfl,by have:=HPL.out;omega,hid (fun l'' hr=>HD.out _ (nx7 HKD.out HL0.out hi' h1' HB2.out.symm hr)),HSW.out⟩,by simp[intOf];have:=HPL.out;omega⟩
theorem pqb7 {w:World}{B q:Nat}{g:Nat}{l:List sa7}(h:uk7 w B q g l) (hl:l.length≤100000) (hpos:0<l.length) :
  Calls Tryz.prog 219 #[.iface 329 (.pointer (some ⟨q,0,none⟩))] w fun e w'=>∃(s:sa7) (l':List sa7),e = .returned (.iface 307 (.agg #[.int .i64 s.1,.int .i64 s.2]))∧(s::l').Perm l∧(do7 l→do7 l'∧∀t∈l,leI s t)∧uk7 w' B q g l'∧zb7 B w w'∧zh7 q g w w':=by
 obtain⟨c,R,O,hq⟩:=h
 have hR:=Row.of_items O
 have p0:=R.cell (j:=0) (by simp)
 simp only[List.getElem_cons_zero]at p0
 have hml:=uy7 p0
 have hms:=il7 p0
 have hmp:=dob7
 have HO:=hid O
 have HR:=hid R
 have hR0:=hid (R.ne hR (by decide))
 obtain⟨n,hnn⟩:∃n,n=l.length-1:=⟨_,rfl⟩
 have hn1:(l.length:Int)-1=(n:Int):=by omega
 have hb0:(l.length:Int)≤100000:=by omega
 have hb1:(1:Int)≤(l.length:Int):=by omega
 have hni:n<l.length:=by omega
 have hl2:l.length≤1000000:=by omega
 have HNN:=hid hnn
 clear R O hR hnn hl
 go_enter Tryz.func219,Tryz.ntmps219
 go_wp2_with fail
 refine aeb7.mono ?_
 rintro e w1 ⟨rfl,rfl⟩
 go_wp2_with fail
 refine (ok7 (i:=0) HO.out hpos hni).mono ?_
 rintro e w2 ⟨rfl,hO2,hK2,hG2⟩
 obtain⟨hp2,hP2,hK2',hM2⟩:=mp7 (List.Perm.refl l) rfl hR0.out HR.out hO2 (zb7.refl B w1) hK2 hG2 (zh7.refl _ _ _) hpos hni hq
 have hll:=ix7 l 0 n l[0] l[n]
 have HK2:=hid hK2'
 have HSI:=hid (vhb7 (l:=l) hpos hni)
 generalize zm7 l 0 n l[0] l[n]=l2 at hp2 hP2 hll HSI
 have HDN:=hid (wfc7 hP2 (by omega) (i0:=0) (n:=n) (by omega) (by omega))
 have HP2:=hid hp2
 have HLL:=hid hll
 clear hO2 hK2 hG2 hP2 hp2 hK2' hll
 go_wp2_with fail
 refine HDN.out.mono ?_
 rintro e w3 ⟨⟨b,rfl⟩,⟨l3,hd3,hp3,hP3⟩,hK3,hM3⟩
 have HD3:=hid hd3
 clear hd3
 have hl3:=hp3.length_eq
 obtain⟨l4,s,hl4⟩:=udb7 (l:=l3) (by have:=HLL.out;omega)
 subst hl4
 have hl4:l4.length≤1000000:=by have:=HLL.out;simp only[List.length_append,List.length_singleton]at hl3;omega
 have HPO:=hid (cub7 hP3 hl4)
 have HP3:=hid hp3
 clear hp3 hP3 hl3 hl4 HDN
 go_wp2_with fail
 refine HPO.out.mono ?_
 rintro e w4 ⟨rfl,hP4,hK4,hM4⟩
 go_wp2
 go_ret
 refine⟨s,l4,rfl, ?_,fun ho=>?_,hP4,(HK2.out.trans hK3).trans hK4,(hM2.trans hM3).trans hM4⟩
 ·exact (List.perm_append_comm (l₁:=[s]) (l₂:=l4)).trans (HP3.out.trans HP2.out)
 ·have hd:=HD3.out
  rw[HSI.out,HNN.out]at hd
  exact gxb7 hd hpos rfl ho
end Go.Proofs.YtabadfkikdefeaaGreat
