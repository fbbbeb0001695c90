/- clock.Early. -/
import Derived.Test.YtabadfkikdefeaaGreatLate
set_option linter.all false
set_option maxRecDepth 100000
set_option maxHeartbeats 6400000
namespace Go.Proofs.YtabadfkikdefeaaGreat
open Go.RowKit
theorem jtb7 {x:ba7}{p:ab7}(h:ya7 x p=0):0<p.bikes.length:=by
 have gd:=li7 (aj7 h).inst
 have hin:=(aj7 h).inst
 cases hb:p.bikes with
 | cons b l=>exact Nat.succ_pos _
 | nil =>
  unfold ya7 at h
  rw[hb,if_neg (by simpa using hin)]at h
  split at h
  ·cases h
  split at h
  ·cases h
  have:(le7 x []).2.1=false:=by
   show decide (Lib.onesCount 0=x.custs.length)=false
   have h0:Lib.onesCount 0=0:=by decide
   rw[h0]
   exact decide_eq_false (by have:=gd.custs;omega)
  rw[if_pos this]at h;cases h
theorem lpb7:(Tryz.prog.info? 136).map (fun i=>(i.zero,i.size,i.bytes))=some (some (.agg #[.int .i64 0,.slice none 0 0,.int .i64 0]),3,40):=by kernel_rfl
def fm7 (x:ba7) (p:ab7):qb7:=if ra7 x p (eb7 x p)=0 then eb7 x p else ⟨[],[]⟩
structure EL (w0:World) (qi qp qr qt go:Nat) (ic pc dv tc:List Value) (w:World):Prop where
 inst:Row w qi 57 ic
 plan:Row w qp 37 pc
 res:Row w qr 41 [.slice none 0 0,.slice none 0 0]
 tms:Row w qt 41 tc
 row:Row w go 2 dv
 bel:Below w0.heap.size w0 w
 ne:qr≠qt
 qtB:w0.heap.size≤qt
section
variable {w0 w w':World} {qi qp qr qt go:Nat} {ic pc dv tc:List Value}
theorem EL.below (h:EL w0 qi qp qr qt go ic pc dv tc w) (hb:Below w.heap.size w w'):EL w0 qi qp qr qt go ic pc dv tc w' :=
 ⟨h.inst.below hb,h.plan.below hb,h.res.below hb,h.tms.below hb,h.row.below hb,ca7 h.bel hb,h.ne,h.qtB⟩
theorem EL.grown {B T k n:Nat}{v:Value}{xs:List Value}(h:EL w0 qi qp qr qt go ic pc dv tc w) (hown:w.ownsRow B T k v n xs) (hT:57≠T∧37≠T∧41≠T∧2≠T) (hg:w.grownBy w' v.ownBlock) (hB:w0.heap.size≤B):EL w0 qi qp qr qt go ic pc dv tc w' :=
 ⟨h.inst.grown hown hT.1 hg,h.plan.grown hown hT.2.1 hg,h.res.grown hown hT.2.2.1 hg,h.tms.grown hown hT.2.2.1 hg,h.row.grown hown hT.2.2.2 hg,ce7 h.bel hown h.bel.size hB hg,h.ne,h.qtB⟩
theorem EL.setT (h:EL w0 qi qp qr qt go ic pc dv tc w) {j:Nat}(hj:j<tc.length) (u:Value):EL w0 qi qp qr qt go ic pc dv (tc.set j u) (w.setCell ⟨qt,j,none⟩ u) :=
 ⟨h.inst.setOther (a:=⟨qt,j,none⟩) (h.inst.ne h.tms (by decide)) u,h.plan.setOther (a:=⟨qt,j,none⟩) (h.plan.ne h.tms (by decide)) u,h.res.setOther (a:=⟨qt,j,none⟩) h.ne u,h.tms.set hj u,h.row.setOther (a:=⟨qt,j,none⟩) (h.row.ne h.tms (by decide)) u,
  h.bel.setCell (p:=⟨qt,j,none⟩) h.qtB u,h.ne,h.qtB⟩
theorem Row.noAlias {w:World}{g:Nat}{e:TypeId}{cs:List Value}(h:Row w g e cs):g≠w.heap.size:=Nat.ne_of_lt h.lt
end
structure E0 (w0:World) (qi qp qr:Nat) (ic pc:List Value) (w:World):Prop where
 inst:Row w qi 57 ic
 plan:Row w qp 37 pc
 res:Row w qr 41 [.slice none 0 0,.slice none 0 0]
 bel:Below w0.heap.size w0 w
 resB:w0.heap.size≤qr
theorem E0.below {w0 w w':World}{qi qp qr:Nat}{ic pc:List Value}(h:E0 w0 qi qp qr ic pc w) (hb:Below w.heap.size w w'):E0 w0 qi qp qr ic pc w' :=
 ⟨h.inst.below hb,h.plan.below hb,h.res.below hb,ca7 h.bel hb,h.resB⟩
theorem E0.start (w:World) (ic pc:List Value):E0 w w.heap.size (w.heap.size+1) (w.heap.size+1+1) ic pc
  (((w.alloc (.cells ic.toArray 57)).alloc (.cells pc.toArray 37)).alloc (.cells #[.slice none 0 0,.slice none 0 0] 41)):=by
 have h0:=FSt.start w 57 37 ic pc
 have h3:=Row.new (w:=(w.alloc (.cells ic.toArray 57)).alloc (.cells pc.toArray 37)) (e:=41) (cs:=[.slice none 0 0,.slice none 0 0]) rfl
 rw[show ((w.alloc (.cells ic.toArray 57)).alloc (.cells pc.toArray 37)).heap.size=w.heap.size+1+1 by simp]at h3
 have hb:Below _ _ (((w.alloc (.cells ic.toArray 57)).alloc (.cells pc.toArray 37)).alloc (.cells #[.slice none 0 0,.slice none 0 0] 41)):=(Below.refl _ _).alloc (Nat.le_refl _) _
 have h1:=h0.below hb
 exact⟨h1.one,h1.two,h3,h1.bel,by omega⟩
theorem bub7 {w:World}{F G:Nat→Prop}{x:ba7}{p:ab7}{cs ps:List Value}(h:kb7.rep w F x cs) (hp:wd7.rep w G p ps) (hn:check x=0→x.custs.length≤6) (hsm:bd7 p) :
  Calls Tryz.prog 85 #[.agg cs.toArray,.agg ps.toArray] w fun e w'=>∃a b,e = .returned (.tuple #[.agg #[a,b],.int .i64 (ra7 x p (eb7 x p))])∧ng7.rep w' (fun k=>w.heap.size≤k) (fm7 x p) [a,b]∧Below w.heap.size w w':=by
 have hrep:=h
 have hprep:=hp
 obtain⟨s,c,co,ti,rfl,-,-,-,-,-⟩:=h
 obtain⟨tv,bv,rfl,h3,h4⟩:=hp
 obtain⟨a2,b2,off2,c2,hs2,hlc2,hc2,ha2,-,hcell2⟩:=lc7 h3
 obtain rfl:=List.cons.inj hs2 |>.1
 obtain⟨a4,b4,off4,c4,hs4,hlc4,hc4,ha4,-,hcell4⟩:=zc7 h4
 obtain rfl:=List.cons.inj hs4 |>.1
 have HCELL2:=hid hcell2
 have HCELL4:=hid hcell4
 have HREP:=hid hrep
 have HPREP:=hid hprep
 have HN:=hid hn
 have HSM:=hid hsm
 obtain⟨ic,hic⟩:∃ic:List Value,ic=[.int .i64 x.fin,.int .i64 x.tmany,.int .i64 x.troom,.int .i64 x.bmany,.int .i64 x.broom,s,c,co,ti]:=⟨_,rfl⟩
 obtain⟨pc,hpc⟩:∃pc:List Value,pc=[.slice a2 p.trucks.length c2,.slice a4 p.bikes.length c4]:=⟨_,rfl⟩
 have hs0:=E0.start w ic pc
 rw[hic,hpc]at hs0
 go_enter Tryz.func85,Tryz.ntmps85
 go_upto_region 1 with fail
 generalize ((w.alloc (.cells #[.int .i64 x.fin,.int .i64 x.tmany,.int .i64 x.troom,.int .i64 x.bmany,.int .i64 x.broom,s,c,co,ti] 57)).alloc (.cells #[.slice a2 p.trucks.length c2,.slice a4 p.bikes.length c4] 37)).alloc
  (.cells #[.slice none 0 0,.slice none 0 0] 41)=w1 at hs0 ⊢
 obtain⟨qi,hqi⟩:∃q,q=w.heap.size:=⟨_,rfl⟩
 rw[← hic,← hpc]at hs0
 obtain⟨qp,hqp⟩:∃q,q=w.heap.size+1:=⟨_,rfl⟩
 obtain⟨qr,hqr⟩:∃q,q=w.heap.size+1+1:=⟨_,rfl⟩
 rw[← hqr,← hqp,← hqi]at hs0 ⊢
 have HIC:=hid hic
 have HPC:=hid hpc
 have HS1:=hid hs0
 clear hs2 hs4 h3 h4 hcell2 hcell4 hrep hprep hn hsm hic hpc hs0 hqi hqp hqr
 have RI:=HS1.out.inst
 rw[HIC.out]at RI
 obtain⟨q0,q1,q2,q3,q4,q5,q6,q7,q8⟩:=wh7 RI
 have RP:=HS1.out.plan
 rw[HPC.out]at RP
 obtain⟨p0,p1⟩:=gf7 RP
 clear RI RP
 go_wp2_with fail
 refine (jh7 (kb7.below HREP.out HS1.out.bel) (wd7.below HPREP.out HS1.out.bel) HN.out HSM.out).mono ?_
 rintro e w2 ⟨rfl,hb2⟩
 have HS2:=hid (HS1.out.below hb2)
 clear HS1 q0 q1 q2 q3 q4 q5 q6 q7 q8 p0 p1 hb2
 by_cases hpk:ya7 x p≠0
 ·as_aux_lemma =>
   have HE:=hid (show ra7 x p (eb7 x p)=ya7 x p from by unfold ra7;rw[if_pos hpk])
   have HE2:=hid (show fm7 x p=⟨[],[]⟩ from by unfold fm7;rw[if_neg (by rw[HE.out];exact hpk)])
   have hpk2:=xl7 hpk
   have R:=HS2.out.res
   obtain⟨r0,r1⟩:=gf7 R
   have f0:=R.frozen 0
   have f1:=R.frozen 1
   clear hpk
   go_wp2
   refine bodyPost_ret (v:=.tuple #[.agg #[.slice none 0 0,.slice none 0 0],.int .i64 (ya7 x p)]) (by simp[results,Tryz.results85,go_sem,r0,r1]) rfl ⟨.slice none 0 0,.slice none 0 0,by rw[HE.out], ?_, ?_⟩
   ·rw[HE2.out]
    exact⟨_,_,rfl,fh7 _ _ _,fh7 _ _ _⟩
   ·exact (HS2.out.bel.setCell (p:=⟨qr,0,none⟩) HS2.out.resB _).setCell (p:=⟨qr,1,none⟩) HS2.out.resB _
 ·have hpk0:ya7 x p=0:=by simpa using hpk
  have bd:=ux7 hpk0 (HN.out (aj7 hpk0).inst)
  have HBD:=hid bd
  have HBP:=hid (jtb7 hpk0)
  have HPK:=hid hpk0
  have RI:=HS2.out.inst
  rw[HIC.out]at RI
  obtain⟨q0,q1,q2,q3,q4,q5,q6,q7,q8⟩:=wh7 RI
  have RP:=HS2.out.plan
  rw[HPC.out]at RP
  obtain⟨p0,p1⟩:=gf7 RP
  rw[hpk0]
  clear RP RI hpk hpk0 bd
  go_wp2_with fail
  refine (uvb7 (kb7.below HREP.out HS2.out.bel) (wd7.below HPREP.out HS2.out.bel) HBD.out.ok (by have:=HBD.out.t;omega) (by have:=HBD.out.b;omega) (by have:=HBD.out.s;omega)).mono ?_
  rintro e w3 ⟨aa,ca,af,cf,rfl,O1,O2,hb3⟩
  have HS3:=hid (HS2.out.below hb3)
  have HFR:=hid HBD.out.fr
  have hz3:=hb3.size
  have HO1:=hid O1
  have HO2:=hid O2
  obtain⟨N,hN⟩:∃N,N=(zf7 x p).fr.length:=⟨_,rfl⟩
  obtain⟨A,hA⟩:∃A,A=(zf7 x p).arcs.length:=⟨_,rfl⟩
  rw[← hA]at HO1
  rw[← hN]at HO2
  rw[← hN,← hA]
  have hal:Below w3.heap.size w3 (w3.alloc (.cells #[.int .i64 (N:Int),.slice aa A ca] 243)):=(Below.refl _ _).alloc (Nat.le_refl _) _
  have RG:=Row.new (w:=w3) (e:=243) (cs:=[.int .i64 (N:Int),.slice aa A ca]) rfl
  have HS4:=hid (HS3.out.below hal)
  have HO1':=hid (oa7 HO1.out hal)
  have HO2':=hid (oa7 HO2.out hal)
  have HNE:=hid (show N=(zf7 x p).fr.length∧A=(zf7 x p).arcs.length from ⟨hN,hA⟩)
  obtain⟨qg,hqg⟩:∃q,q=w3.heap.size:=⟨_,rfl⟩
  rw[← hqg]at RG
  have HRG:=hid RG
  clear q0 q1 q2 q3 q4 q5 q6 q7 q8 p0 p1 hN hA O1 O2 HS3 hal hb3 HO1 HO2 RG hz3
  go_upto_region 5 with fail
  rw[← hqg]
  generalize w3.alloc (.cells #[.int .i64 (N:Int),.slice aa A ca] 243)=w4 at HS4 HRG HO1' HO2' ⊢
  clear hqg HS2
  obtain⟨g0,g1⟩:=gf7 HRG.out
  have HGR:=hid (show po7.rep w4 (fun b=>w2.heap.size≤b) ⟨(zf7 x p).fr.length,(zf7 x p).arcs⟩ [.int .i64 (N:Int),.slice aa A ca] from by
   obtain⟨e1,e2⟩:=HNE.out
   refine⟨_,by rw[e1], ?_⟩
   have:=HO1'.out
   rw[e2]at this ⊢
   exact vbb7 (S:=mvb7) gdc7 (fun _=>rfl) (fun s hs=>rfl) this)
  have HSI:=hid (rp7 HBD.out.ok)
  have HFRep:=hid (show (ia7 hf7).rep w4 (fun b=>w2.heap.size≤b) (zf7 x p).fr [.slice af N cf] from by
   have:=HO2'.out
   rw[HNE.out.1]at this ⊢
   exact kk7 this (fun v hv=>by have:=HSI.out.frB v hv;unfold za7;omega))
  have HLT:=hid (ajc7 HGR.out HFRep.out HBD.out.graph rfl (by show 0<(zf7 x p).fr.length;rw[HFR.out.1];have:=HBP.out;omega) (fun n hn=>by have:=HSI.out.frB n hn;omega))
  clear HO1' HO2'
  go_wp2_with fail
  refine HLT.out.mono ?_
  rintro e w5 ⟨go,d,rfl,hld,hrow,hgo,hb5⟩
  have HS5:=hid (HS4.out.below hb5)
  have hde:=HBD.out.late hld
  subst hde
  obtain⟨e1,-⟩:=HNE.out
  have HWF:=hid (show ∀v∈sj7 (eb7 x p),za7 v from fun v hv=>by have:=HSI.out.wf (by rw[HFR.out.1];have:=HBD.out.t;have:=HBD.out.b;have:=HBD.out.s;omega) v hv;unfold za7;omega)
  have HLE:=hid (show (sj7 (eb7 x p)).length=N from by rw[HSI.out.len,e1])
  have hNb:N≤1000:=by rw[e1,HFR.out.1];have:=HBD.out.t;have:=HBD.out.b;have:=HBD.out.s;omega
  rw[← e1]
  have hgo2:w.heap.size≤go:=Nat.le_trans HS4.out.bel.size hgo
  have hz5:w.heap.size≤w5.heap.size:=HS5.out.bel.size
  have hal:Below w5.heap.size w5 (w5.alloc (.cells #[.slice none 0 0,.slice none 0 0] 41)):=(Below.refl _ _).alloc (Nat.le_refl _) _
  have HS6:=hid (show EL w qi qp qr w5.heap.size go ic pc ((sj7 (eb7 x p)).map ib7) [.slice none 0 0,.slice none 0 0] (w5.alloc (.cells #[.slice none 0 0,.slice none 0 0] 41)) from
   ⟨(HS5.out.below hal).inst,(HS5.out.below hal).plan,(HS5.out.below hal).res,Row.new rfl,hrow.below hal,(HS5.out.below hal).bel,HS5.out.res.noAlias,hz5⟩)
  obtain⟨qt,hqt⟩:∃q,q=w5.heap.size:=⟨_,rfl⟩
  rw[← hqt]at HS6
  have hqrB:w.heap.size≤qr:=HS5.out.resB
  clear hal e1 HNE HLT HGR HFRep g0 g1 hrow hld hgo hb5 HFR HRG HS4 HS5 HSI hz5
  go_upto_region 10 with fail
  rw[← hqt]
  generalize w5.alloc (.cells #[.slice none 0 0,.slice none 0 0] 41)=w6 at HS6 ⊢
  clear hqt
  have RP:=HS6.out.plan
  rw[HPC.out]at RP
  obtain⟨p0,p1⟩:=gf7 RP
  clear RP
  go_wp2
  go_loopw [9,12,45] (fun lv ov kv wr=>∃(k q:Nat) (ta:Option Addr) (tc:Nat),k≤p.trucks.length∧kv = .int .i64 k∧lv = .slice (some ⟨go,q,none⟩) (N-hgb7 x p k) (N-hgb7 x p k)∧(hgb7 x p k<N→q=hgb7 x p k) ∧
    EL w qi qp qr qt go ic pc ((sj7 (eb7 x p)).map ib7) [.slice ta k tc,.slice none 0 0] wr∧wr.ownsRow w.heap.size 78 1 (.slice ta k tc) k (izb7 x p go k)) (fun _ _ kv _=>p.trucks.length-(intOf kv).toNat)
  case atStart=>exact⟨0,0,none,0,Nat.zero_le _,rfl,rfl,fun _=>rfl,HS6.out,World.ownsRow_nil _ _ _ _⟩
  case round =>
   clear p0 p1 HS6
   obtain⟨k,q,ta,tc,hk,rfl,rfl,hq,hel,hown⟩:=hrel
   obtain⟨wo,rfl⟩:∃wo:World,wo=wr:=⟨_,rfl⟩
   have HEL:=hid hel
   have HOWN:=hid hown
   clear hel hown
   by_cases hlt:k<p.trucks.length
   ·as_aux_lemma =>
     have hx:=ka7 (c:=c2) Tryz.underlying34 kh7 (ha2 (by omega)) hlt
     obtain⟨sv,g0,hr⟩:=HCELL2.out k hlt
     obtain⟨a3,b3,off3,c3,hs3,hl3,hc3,-,-,-,-⟩:=sd7 hr
     obtain rfl:=List.cons.inj hs3 |>.1
     have hpos:=(HBD.out.ok.truck _ (List.getElem_mem hlt)).1
     have hnx:=mdb7 (x:=x) hlt
     have hbd:=ncc7 (x:=x) (p:=p) (k:=k+1) (by omega)
     rw[HLE.out]at hbd
     have HSG:=hid (uub7 (x:=x) go hlt)
     obtain⟨n,hn⟩:∃n,n=p.trucks[k].length:=⟨_,rfl⟩
     rw[← hn]at g0 hl3 hpos hnx HSG
     have hqo:q=hgb7 x p k:=hq (by omega)
     obtain⟨o,ho⟩:∃o,o=hgb7 x p k:=⟨_,rfl⟩
     rw[← ho]at hqo hnx HSG ⊢
     subst hqo
     have HNX:=hid hnx
     have HBO:=hid (show q+n≤N from by omega)
     have g0:=aa7 HEL.out.bel g0
     have hal:Below wo.heap.size wo (wo.alloc (.cells #[.slice a3 n c3] 124)):=(Below.refl _ _).alloc (Nat.le_refl _) _
     have HE1:=hid (HEL.out.below hal)
     have HO1:=hid (oa7 HOWN.out hal)
     have y0:=(Row.new (w:=wo) (e:=124) (cs:=[.slice a3 n c3]) rfl).cell (j:=0) (by simp)
     simp only[List.getElem_cons_zero]at y0
     obtain⟨X,hX⟩:∃X,X=wo.heap.size:=⟨_,rfl⟩
     rw[← hX]at y0
     clear hs3 hr hn ho hq hnx hbd hal HEL HOWN
     go_upto_region 13 with fail
     rw[← hX]
     generalize wo.alloc (.cells #[.slice a3 n c3] 124)=w7 at HE1 HO1 y0 ⊢
     clear hX g0
     have HCUT:=hid (fun (wx:World)=>sfc7 (w:=wx) (g:=go) (o:=q) (m:=N-q) (n:=n) (by have:=HBO.out;omega) (by omega))
     go_wp2_with fail
     refine (HCUT.out _).mono ?_
     rintro e w8 ⟨q2,rfl,hq2,hb8⟩
     have hbo:=HBO.out
     have HQ2:=hid (show (q+n<N→q2=q+n) from fun h=>hq2 (by omega))
     rw[show N-q-n=N-(q+n) by omega]
     have HE2:=hid (HE1.out.below hb8)
     have HO2:=hid (oa7 HO1.out hb8)
     clear y0 HE1 HO1 hq2 hb8 hx
     have RT:=HE2.out.tms
     obtain⟨t0,t1⟩:=gf7 RT
     have ft0:=RT.frozen 0
     have hown1:=HO2.out.alloc (.cells #[.slice (some ⟨go,q,none⟩) n n] 78)
     have hE3:=HE2.out.below ((Below.refl w8.heap.size w8).alloc (Nat.le_refl _) (.cells #[.slice (some ⟨go,q,none⟩) n n] 78))
     have hz8:=HE2.out.bel.size
     obtain⟨i1,hi,hi0,hi1,hi2⟩:=info_parts tjb7
     have hk60:=HBD.out.tl
     clear RT
     go_wp2_with (at_builtin;refine wpList_append_own _ rfl _ _ 38 rfl w.heap.size 78 i1 (.slice none 0 0) 1 24 Tryz.underlying38 hi hi0 hi1 hi2 rfl (by decide) _ _ _ rfl hown1 ⟨w8.heap.size,0,none⟩ 1 1 [.slice (some ⟨go,q,none⟩) n n] rfl rfl ?c1 ?c2 ?c3 ?c4 ?c5 ?_)
     case c1=>exact cell_one_new _ _ _
     case c2=>intro u hu;simp at hu;subst hu;rfl
     case c3=>unfold maxLen;omega
     case c4=>omega
     case c5=>simp;omega
     intro v' w9 hown' hgrow _
     obtain⟨ao',cp',hv',-,-⟩:=xa7 hown'
     subst hv'
     have hE4:=hE3.grown hown1 (by decide) hgrow (Nat.le_refl _)
     have HE5:=hid (hE4.setT (j:=0) (by simp) (.slice ao' (k+1) cp'))
     have HO5:=hid (la7 hown' hE4.tms (by decide) 0 (.slice ao' (k+1) cp'))
     obtain⟨d0,d1⟩:=gf7 hE4.tms
     have fd0:=hE4.tms.frozen 0
     clear hown' hgrow hown1 hi hi0 hi1 hi2 hE3 hE4 t0 t1 ft0 HE2 HO2
     go_wp2
     go_roundw
     case rel =>
      refine⟨k+1,q2,ao',cp',by omega,by go_num,by rw[HNX.out],fun h=>by rw[HNX.out]at h ⊢; exact HQ2.out h,HE5.out, ?_⟩
      rw[HSG.out];exact HO5.out
     case measure=>simp[intOf];omega
   ·obtain rfl:k=p.trucks.length:=by omega
    rw[← mcb7]at hq ⊢
    obtain⟨K,hK⟩:∃K,K=p.trucks.length:=⟨_,rfl⟩
    have HK:=hid hK
    rw[← hK]at HEL HOWN
    have RP:=HEL.out.plan
    rw[HPC.out]at RP
    obtain⟨p0,p1⟩:=gf7 RP
    have HQ:=hid hq
    clear RP hq hK
    go_wp2
    go_loopw [9,12,67] (fun lv ov kv wr=>∃(k q:Nat) (ba:Option Addr) (bc:Nat) (vs:List Value),k≤p.bikes.length∧kv = .int .i64 k∧lv = .slice (some ⟨go,q,none⟩) (N-nz7 x p k) (N-nz7 x p k)∧(nz7 x p k<N→q=nz7 x p k) ∧
      EL w qi qp qr qt go ic pc ((sj7 (eb7 x p)).map ib7) [.slice ta K tc,.slice ba k bc] wr∧wr.ownsRow w.heap.size 78 1 (.slice ta K tc) K (izb7 x p go K) ∧
      xx7 136 2 wr w.heap.size (.slice ba k bc) ((eb7 x p).bikes.take k) vs) (fun _ _ kv _=>p.bikes.length-(intOf kv).toNat)
    case atStart=>exact⟨0,q,none,0,[],Nat.zero_le _,rfl,rfl,HQ.out,HEL.out,HOWN.out,xx7.nil _ _ _ _⟩
    case round =>
     clear p0 p1 HEL HOWN HQ
     obtain⟨k,q,ba,bc,vs,hk,rfl,rfl,hq,hel,hown,hrown⟩:=hrel
     obtain⟨wo,rfl⟩:∃wo:World,wo=wr:=⟨_,rfl⟩
     have HEL:=hid hel
     have HOWN:=hid hown
     have HROWN:=hid hrown
     clear hel hown hrown
     by_cases hlt:k<p.bikes.length
     ·as_aux_lemma =>
       have hx:=vb7 (c:=c4) Tryz.underlying35 vj7 (ha4 (by omega)) hlt
       obtain⟨sv,g0,g00,-,hr⟩:=HCELL4.out k hlt
       obtain⟨a3,b3,off3,c3,hs3,hl3,hc3,-,-,-,-⟩:=bb7 hr
       obtain rfl:=List.cons.inj hs3 |>.1
       have hlt':k<(eb7 x p).bikes.length:=by rw[xv7];exact hlt
       have hsl:=etb7 x p hlt hlt'
       have hnx:=zfb7 (x:=x) hlt
       have hbd:=xub7 (x:=x) (p:=p) (k:=k+1) (by omega)
       rw[HLE.out]at hbd
       have hs6:p.bikes[k].stops.length≤6:=by
        have h1:=HBD.out.s
        have h2:=ei7 (List.getElem_mem hlt)
        omega
       have HOU:=hid (fun (wx:World) (hr:Row wx go 2 ((sj7 (eb7 x p)).map ib7))=>ssb7 hr hlt')
       have HST:=hid (fun (wx:World) (c:Nat) (hr:Row wx go 2 ((sj7 (eb7 x p)).map ib7)) (hc:(eb7 x p).bikes[k].starts.length≤c) (hm:c≤1000000)=>feb7 (F:=fun _=>True) hr trivial HWF.out hlt' hc hm)
       have HTK:=hid (show (eb7 x p).bikes.take (k+1)=(eb7 x p).bikes.take k++[(eb7 x p).bikes[k]] from dr7 hlt')
       have HTKL:=hid (show ((eb7 x p).bikes.take k).length=k from by rw[List.length_take];omega)
       obtain⟨rd,hrd⟩:∃r,r=(eb7 x p).bikes[k]:=⟨_,rfl⟩
       rw[← hrd]at hsl HOU HST HTK
       rw[← hsl]at g00 hl3 hnx hs6
       obtain⟨sa,hsa⟩:∃b,b=p.bikes[k].sat:=⟨_,rfl⟩
       rw[← hsa]at g0
       obtain⟨n,hn⟩:∃n,n=rd.starts.length:=⟨_,rfl⟩
       rw[← hn]at g00 hl3 hnx hs6 HOU HST
       have hqo:q=nz7 x p k:=hq (by omega)
       obtain⟨o,ho⟩:∃o,o=nz7 x p k:=⟨_,rfl⟩
       rw[← ho]at hqo hnx HOU HST ⊢
       subst hqo
       have HNX:=hid hnx
       have HBO:=hid (show q+(n+2)≤N from by omega)
       have HNN:=hid hn
       have g0:=aa7 HEL.out.bel g0
       have g00:=aa7 HEL.out.bel g00
       have hal:Below wo.heap.size wo (wo.alloc (.cells #[.int .i64 sa,.slice a3 n c3] 70)):=(Below.refl _ _).alloc (Nat.le_refl _) _
       have HE1:=hid (HEL.out.below hal)
       have HO1:=hid (oa7 HOWN.out hal)
       have HR1:=hid (HROWN.out.below hal)
       have y0:=(Row.new (w:=wo) (e:=70) (cs:=[.int .i64 sa,.slice a3 n c3]) rfl).cell (j:=1) (by simp)
       simp only[List.getElem_cons_zero,List.getElem_cons_succ]at y0
       obtain⟨X,hX⟩:∃X,X=wo.heap.size:=⟨_,rfl⟩
       rw[← hX]at y0
       clear hs3 hr hn ho hq hnx hbd hal HEL HOWN HROWN hrd hsa hsl hlt'
       go_upto_region 19 with fail
       rw[← hX]
       generalize wo.alloc (.cells #[.int .i64 sa,.slice a3 n c3] 70)=w7 at HE1 HO1 HR1 y0 ⊢
       clear hX g0 g00
       have HCUT:=hid (fun (wx:World)=>sfc7 (w:=wx) (g:=go) (o:=q) (m:=N-q) (n:=n+2) (by have:=HBO.out;omega) (by omega))
       have hpc:((n+2:Nat):Int)=(n:Int)+2:=by omega
       rw[hpc]at HCUT
       clear hpc
       go_wp2_with fail
       refine (HCUT.out _).mono ?_
       rintro e w8 ⟨q2,rfl,hq2,hb8⟩
       have hbo:=HBO.out
       have HQ2:=hid (show (q+(n+2)<N→q2=q+(n+2)) from fun h=>hq2 (by omega))
       rw[show N-q-(n+2)=N-(q+(n+2)) by omega]
       have HE2:=hid (HE1.out.below hb8)
       have HO2:=hid (oa7 HO1.out hb8)
       have HR2:=hid (HR1.out.below hb8)
       clear y0 HE1 HO1 HR1 hq2 hb8 hx
       go_upto_region 21 with fail
       rw[show ((n:Int)+2-1)=((n+1:Nat):Int) by omega]
       have hou:=HOU.out w8 HE2.out.row
       obtain⟨gc0,gc1⟩:=hou
       have RT:=HE2.out.tms
       obtain⟨t0,t1⟩:=gf7 RT
       have hrow:=HR2.out.own
       have o1:some qt≠(Value.slice ba k bc).ownBlock:=ec7 hrow RT (by decide)
       have o2:some go≠(Value.slice ba k bc).ownBlock:=ec7 hrow HE2.out.row (by decide)
       generalize hro:(Value.slice ba k bc).ownBlock=row at o1 o2
       have HRO:=hid hro
       have HROWN:=hid hrow
       have ix0:∀w,(Instr.indexAt 78 (.slice (some ⟨go,q,none⟩) (n+2) (n+2)) (.int .i64 0)).run Tryz.prog w = .ok (.pointer (some ⟨go,q,none⟩)) w:=fun w=>by
        have:=ka7 (c:=n+2) Tryz.underlying78 qc7 (a:=some ⟨go,q,none⟩) rfl (k:=0) (n:=n+2) (by omega) w
        simpa using this
       have ix1:=ka7 (c:=n+2) Tryz.underlying78 qc7 (a:=some ⟨go,q,none⟩) rfl (k:=n+1) (n:=n+2) (by omega)
       have hne1:¬n+2=1:=by omega
       clear RT hrow hro
       go_wp2
       have z0:∀e:At (sb7 row w8),_:=fun e=>e.ok.cell t1 o1
       have z1:∀e:At (sb7 row w8),_:=fun e=>e.ok.cell gc0 o2
       have z2:∀e:At (sb7 row w8),_:=fun e=>e.ok.cell gc1 o2
       refine ma7 (sb7 row w8) [17] [([0,1,2,3,4,5,6,7,9,10,11,12],8,false),([13],14,false),([],15,false),([],16,false),([],17,true)] (by kernel_rfl) (by kernel_rfl) (fun _ _ d _ _ h=>by cases d <;> exact h) (sb7.refl _ _).drew ?_
       simp only[gd7,List.map_cons,List.map_nil,Array.getD_eq_getD_getElem?,List.getElem?_toArray,List.getElem?_cons_succ,List.getElem?_cons_zero,Option.getD_some,me7]
       repeat (go_big_quiet_step (fail))
       refine wpQuiet_nil ?_
       go_wp2_with fail
       have hS0:sb7 row w8 w8.drew:=(sb7.refl _ _).drew
       have hD0:Below w8.heap.size w8 w8.drew:=(Below.refl _ _).drew
       have hstr:=HST.out w8.drew (n+1) HE2.out.row.drew (by have:=HNN.out;omega) (by omega)
       refine (hob7 hstr (by have:=HNN.out;omega)).mono ?_
       rintro e w10 ⟨u,rfl,hu,hb10⟩
       rw[← HNN.out]at hu
       obtain⟨au,cu,hul,-,-⟩:=xa7 hu
       subst hul
       have hS1:=hS0.below hb10
       have hb10':Below w8.heap.size w8 w10:=ca7 hD0 hb10
       have hu2:=mc7 (B':=w.heap.size) hu (by show w.heap.size≤w8.heap.size;exact HE2.out.bel.size)
       have HU:=hid hu2
       clear hstr hu hu2 hb10 hD0 hS0
       go_wp2_with fail
       refine⟨hS1, ?_⟩
       repeat (go_big_quiet_step (fail))
       refine wpQuiet_nil ?_
       go_wp2_with fail
       have hal2:Below w10.heap.size w10 (w10.alloc (.cells #[.int .i64 rd.out,.slice au n cu,.int .i64 rd.back] 136)):=(Below.refl _ _).alloc (Nat.le_refl _) _
       have hb11:Below w8.heap.size w8 (w10.alloc (.cells #[.int .i64 rd.out,.slice au n cu,.int .i64 rd.back] 136)):=ca7 hb10' hal2
       refine⟨hS1.below hal2,wpQuiet_nil ?_⟩
       have hE3:=HE2.out.below hb11
       have hO3:=oa7 HO2.out hb11
       have hR3:=HR2.out.below hb11
       have hU3:=oa7 HU.out hal2
       have hown1:=hR3.own
       rw[HTKL.out]at hown1
       have hz8:=HE2.out.bel.size
       have hz10:=hb10'.size
       have hb6:=HBD.out.b
       obtain⟨i1,hi,hi0,hi1,hi2⟩:=info_parts lpb7
       go_wp2_with (at_builtin;refine wpList_append_own _ rfl _ _ 39 rfl w.heap.size 136 i1 (.agg #[.int .i64 0,.slice none 0 0,.int .i64 0]) 3 40 Tryz.underlying39 hi hi0 hi1 hi2 rfl (by decide) _ _ _ rfl hown1 ⟨w10.heap.size,0,none⟩ 1 1 [.int .i64 rd.out,.slice au n cu,.int .i64 rd.back] rfl rfl ?c1 ?c2 ?c3 ?c4 ?c5 ?_)
       case c1=>exact ak7 (cs:=[.int .i64 rd.out,.slice au n cu,.int .i64 rd.back]) rfl _
       case c2=>intro u hu;simp at hu;rcases hu with rfl | rfl | rfl <;> rfl
       case c3=>unfold maxLen;omega
       case c4=>omega
       case c5=>simp;omega
       intro v' w12 hown' hgrow _
       obtain⟨ao',cp',hv',-,-⟩:=xa7 hown'
       subst hv'
       have hS3:=(hS1.below hal2).grown (by rw[HRO.out]at hgrow;exact hgrow)
       have hRp:=hR3.push (r:=rd) (u:=.slice au n cu) (by decide) hgrow (by rw[HTKL.out];exact hown') (by rw[← HNN.out];exact hU3)
       have hOk:=hO3.kept hgrow (fb7 hO3 hown1 (by decide))
       have hE4:=hE3.grown hown1 (by decide) hgrow (Nat.le_refl _)
       have HE5:=hid (hE4.setT (j:=1) (by simp) (.slice ao' (k+1) cp'))
       have HO5:=hid (la7 hOk hE4.tms (by decide) 1 (.slice ao' (k+1) cp'))
       have HR5:=hid (show xx7 136 2 (w12.setCell ⟨qt,1,none⟩ (.slice ao' (k+1) cp')) w.heap.size (.slice ao' (k+1) cp') ((eb7 x p).bikes.take (k+1)) (vs++[.slice au n cu]) from by
        rw[HTK.out];exact hRp.keptSet hE4.tms (by decide) (by decide))
       obtain⟨d0,d1⟩:=gf7 hE4.tms
       have fd1:=hE4.tms.frozen 1
       clear hown' hgrow hown1 hi hi0 hi1 hi2 hE3 hE4 t0 t1 HE2 HO2 HR2 hRp hOk hR3 hO3 hU3 hb11 hal2 hb10' hS1
       refine⟨hS3,wpQuiet_nil ?_⟩
       go_wp2_with fail
       refine⟨hS3,wpQuiet_nil ?_⟩
       go_wp2
       go_roundw
       case rel =>
        exact⟨k+1,q2,ao',cp',vs++[.slice au n cu],by omega,by go_num,by rw[HNX.out],fun h=>by rw[HNX.out]at h ⊢; exact HQ2.out h,HE5.out,HO5.out,HR5.out⟩
       case measure=>simp[intOf];omega
     ·obtain rfl:k=p.bikes.length:=by omega
      as_aux_lemma =>
       have HBK:=hid (show (eb7 x p).bikes.take p.bikes.length=(eb7 x p).bikes from by rw[← xv7 x p,List.take_length])
       have HSGT:=hid (show izb7 x p go K=icb7 go 0 (eb7 x p).trucks from by unfold izb7;rw[HK.out,← ww7 x p,List.take_length])
       have HTL:=hid (show (eb7 x p).trucks.length=K from by rw[ww7,HK.out])
       have HBL:=hid (xv7 x p)
       have HTREP:=hid (fun (wx:World) (ho:wx.ownsRow w.heap.size 78 1 (.slice ta K tc) K (izb7 x p go K)) (hr:Row wx go 2 ((sj7 (eb7 x p)).map ib7)) (hw:xx7 136 2 wx w.heap.size (.slice ba p.bikes.length bc) ((eb7 x p).bikes.take p.bikes.length) vs) =>
        show ng7.rep wx (fun b=>w.heap.size≤b) (eb7 x p) [.slice ta K tc,.slice ba p.bikes.length bc] from
        ⟨_,_,rfl,pdc7 (R:=(eb7 x p).bikes.flatMap cj7) (by rw[HTL.out,← HSGT.out];exact ho) hr rfl HWF.out hgo2 (by rw[HLE.out];omega),by
         have:=hw.rep (by rw[HBK.out];exact gyb7 HWF.out)
         rw[HBK.out]at this
         exact this⟩)
       have RI:=HEL.out.inst
       rw[HIC.out]at RI
       obtain⟨q0,q1,q2,q3,q4,q5,q6,q7,q8⟩:=wh7 RI
       have RP:=HEL.out.plan
       rw[HPC.out]at RP
       obtain⟨p0,p1⟩:=gf7 RP
       obtain⟨t0,t1⟩:=gf7 HEL.out.tms
       have hb0:=HEL.out.bel
       clear RI RP hq
       go_wp2_with fail
       refine (qm7 (kb7.below HREP.out hb0) (wd7.below HPREP.out hb0) (HTREP.out _ HOWN.out HEL.out.row HROWN.out) HN.out HSM.out).mono ?_
       rintro e w10 ⟨rfl,hb10⟩
       have HE2:=hid (HEL.out.below hb10)
       have HO2:=hid (oa7 HOWN.out hb10)
       have HR2:=hid (HROWN.out.below hb10)
       have HED:=hid (show fm7 x p=if ra7 x p (eb7 x p)=0 then eb7 x p else ⟨[],[]⟩ from rfl)
       obtain⟨cc,hcc⟩:∃c,c=ra7 x p (eb7 x p):=⟨_,rfl⟩
       rw[← hcc]at HED ⊢
       have HCC:=hid hcc
       clear hcc
       have R:=HE2.out.res
       obtain⟨r0,r1⟩:=gf7 R
       have f0:=R.frozen 0
       have f1:=R.frozen 1
       clear HEL HOWN HROWN q0 q1 q2 q3 q4 q5 q6 q7 q8 p0 p1 t0 t1 hb0 hb10
       have hzr:w.heap.size≤qr:=hqrB
       by_cases h0:cc=0
       ·subst h0
        have hed:=HED.out
        rw[if_pos rfl]at hed
        obtain⟨t0,t1⟩:=gf7 HE2.out.tms
        have R1:=R.set (j:=0) (by simp) (.slice ta K tc)
        have HW:=hid (show ng7.rep ((w10.setCell ⟨qr,0,none⟩ (.slice ta K tc)).setCell ⟨qr,1,none⟩ (.slice ba p.bikes.length bc)) (fun b=>w.heap.size≤b) (eb7 x p) [.slice ta K tc,.slice ba p.bikes.length bc] from
         HTREP.out _ (la7 (la7 HO2.out R (by decide) 0 _) R1 (by decide) 1 _)
          ((HE2.out.row.setOther (a:=⟨qr,0,none⟩) (HE2.out.row.ne R (by decide)) _).setOther (a:=⟨qr,1,none⟩) (HE2.out.row.ne R (by decide)) _) ((HR2.out.keptSet R (by decide) (by decide)).keptSet R1 (by decide) (by decide)))
        have HB:=hid ((HE2.out.bel.setCell (p:=⟨qr,0,none⟩) hzr (.slice ta K tc)).setCell (p:=⟨qr,1,none⟩) hzr (.slice ba p.bikes.length bc))
        have HED2:=hid hed
        clear hed R1 HED
        go_wp2
        refine bodyPost_ret (v:=.tuple #[.agg #[.slice ta K tc,.slice ba p.bikes.length bc],.int .i64 0]) (by simp[results,Tryz.results85,go_sem,r0,r1]) rfl ⟨.slice ta K tc,.slice ba p.bikes.length bc,by rw[← HCC.out], ?_,HB.out⟩
        rw[HED2.out];exact HW.out
       ·have h0':=xl7 h0
        have HED2:=hid (show fm7 x p=⟨[],[]⟩ from by rw[HED.out,if_neg h0])
        have HB:=hid ((HE2.out.bel.setCell (p:=⟨qr,0,none⟩) hzr (.slice none 0 0)).setCell (p:=⟨qr,1,none⟩) hzr (.slice none 0 0))
        clear h0 HED
        go_wp2
        refine bodyPost_ret (v:=.tuple #[.agg #[.slice none 0 0,.slice none 0 0],.int .i64 cc]) (by simp[results,Tryz.results85,go_sem,r0,r1]) rfl ⟨.slice none 0 0,.slice none 0 0,by rw[← HCC.out], ?_,HB.out⟩
        rw[HED2.out]
        exact⟨_,_,rfl,fh7 _ _ _,fh7 _ _ _⟩
end Go.Proofs.YtabadfkikdefeaaGreat
