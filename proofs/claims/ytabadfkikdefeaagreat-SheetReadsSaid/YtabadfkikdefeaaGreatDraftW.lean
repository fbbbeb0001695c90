/- Contract: clock.draft, of a plan that may be. -/
import Derived.BigRegion
import Derived.Test.YtabadfkikdefeaaGreatP4
set_option linter.all false
set_option maxRecDepth 100000
set_option maxHeartbeats 6400000
namespace Go.Proofs.YtabadfkikdefeaaGreat
open Go.RowKit
instance (ts:List TypeId) (B:Nat) (W:World):Nonempty (At (Mut ts B W)):=⟨⟨W,Mut.refl _ _ _⟩⟩
structure GSt (w0:World) (ga qd qr:Nat) (ic pc:List Value) (d:DrS) (vs:List Value) (w:World):Prop where
 inst:Row w w0.heap.size 57 ic
 plan:Row w (w0.heap.size+1) 37 pc
 res:Row w qr 243 [.int .i64 0,.slice none 0 0]
 own:ynb7 w (w0.heap.size+3) qd d.fr d.arcs
 att:anb7 w (w0.heap.size+3) ga d.att vs
 bel:Below w0.heap.size w0 w
 gaB:w0.heap.size≤ga
 resB:w0.heap.size≤qr
section
variable {w0:World} {ga qd qr:Nat} {ic pc:List Value} {d:DrS} {vs:List Value} {w w':World}
theorem GSt.below (h:GSt w0 ga qd qr ic pc d vs w) (hb:Below w.heap.size w w'):GSt w0 ga qd qr ic pc d vs w':=⟨h.inst.below hb,h.plan.below hb,h.res.below hb,h.own.below hb,h.att.below hb,ca7 h.bel hb,h.gaB,h.resB⟩
theorem GSt.mut {fr':List Int}{arcs':List ay7}(h:GSt w0 ga qd qr ic pc d vs w) (hm:Mut dts (w0.heap.size+3) w w') (ho:ynb7 w' (w0.heap.size+3) qd fr' arcs'):GSt w0 ga qd qr ic pc ⟨fr',arcs',d.att⟩ vs w' :=
 ⟨hm.row h.inst (by decide),hm.row h.plan (by decide),hm.row h.res (by decide),ho,h.att.mut hm,h.bel.trans (hm.bel.mono (by omega)),h.gaB,h.resB⟩
end
theorem Row.of_own {w:World}{B g c n:Nat}{xs:List Value}{e k:Nat}(h:w.ownsRow B e k (.slice (some ⟨g,0,none⟩) n c) n xs):Row w g e xs:=by
 obtain⟨h1,h2⟩:=h
 rcases h2 with ⟨e,_⟩ | h2
 ·cases e
 ·obtain⟨g',cap,cur,e,hg,hh,hn1,hc,hs,ht⟩:=h2
  simp only[Value.slice.injEq,Option.some.injEq,Addr.mk.injEq]at e
  obtain⟨⟨rfl,-,-⟩,-,rfl⟩:=e
  exact⟨cur,cur.toList.drop (n*k),hh,by rw[← ht,List.take_append_drop]⟩
theorem GSt.setFr {w0:World}{ga qd qr gf m cf:Nat}{ic pc:List Value}{fr:List Int}{arcs:List ay7}{att:List (List Nat)}{vs:List Value}{w:World}(h:GSt w0 ga qd qr ic pc ⟨fr,arcs,att⟩ vs w)
  (hc:w.cell? ⟨qd,2,none⟩=some (.slice (some ⟨gf,0,none⟩) m cf)) {j:Nat} (hj:j<fr.length) (v:Int):GSt w0 ga qd qr ic pc ⟨fr.set j v,arcs,att⟩ vs (w.setCell ⟨gf,j,none⟩ (.int .i64 v)):=by
 obtain⟨aa,ca,af,cf',R,O1,O2,hq⟩:=h.own
 have c2:=R.cell (j:=2) (by simp)
 simp only[List.getElem_cons_succ,List.getElem_cons_zero]at c2
 rw[hc]at c2
 simp only[Option.some.injEq,Value.slice.injEq]at c2
 obtain⟨rfl,rfl,rfl⟩:=c2
 have RF:=Row.of_own O2
 have hgB:=(O2.lt gf rfl).1
 have hne:∀{g e cs},Row w g e cs→e≠2→g≠gf:=fun hr he=>hr.ne RF he
 have hlen:(fr.set j v).length=fr.length:=List.length_set
 refine⟨h.inst.setOther (hne h.inst (by decide)) _,h.plan.setOther (hne h.plan (by decide)) _,h.res.setOther (hne h.res (by decide)) _,⟨aa,ca,some ⟨gf,0,none⟩,cf, ?_,la7 O1 RF (by decide) _ _, ?_,hq⟩,⟨h.att.row.setOther (hne h.att.row (by decide)) _,h.att.len,fun i h1 h2=>la7 (h.att.rows i h1 h2) RF (by decide) _ _,h.att.apart⟩,h.bel.setCell (by show w0.heap.size≤gf;omega) _,h.gaB,h.resB⟩
 ·show Row _ qd _ [.int .i64 ((fr.set j v).length:Int),_,.slice _ (fr.set j v).length _]
  rw[hlen];exact R.setOther (hne R (by decide)) _
 ·show World.ownsRow _ _ _ _ (.slice _ (fr.set j v).length _) (fr.set j v).length ((fr.set j v).map ib7)
  rw[hlen,List.map_set];exact (O2.stored j (.int .i64 v)).1
theorem GSt.push {w0:World}{ga qd qr s n:Nat}{ic pc:List Value}{d:DrS}{vs:List Value}{w w1:World}{u:Value}(h:GSt w0 ga qd qr ic pc d vs w) (hs:s<d.att.length) (hsv:s<vs.length)
  (hg:w.grownBy w1 vs[s].ownBlock) (hu:w1.ownsRow (w0.heap.size+3) 3 1 u (d.att[s].length+1) (d.att[s].map ev7++[ev7 n])) (hat:u.ownBlock=vs[s].ownBlock∨∃b,u.ownBlock=some b∧w.heap.size≤b) :
  GSt w0 ga qd qr ic pc ⟨d.fr,d.arcs,zg7 d.att s n⟩ (vs.set s u) (w1.setCell ⟨ga,s,none⟩ u):=by
 have hrow:=h.att.rows _ hs hsv
 have hA:=h.att.push hs hsv hg hu hat
 have R1:Row w1 ga 68 vs:=h.att.row.grown hrow (by decide) hg
 have keep:∀{g e cs},Row w g e cs→e≠3→e≠68→Row (w1.setCell ⟨ga,s,none⟩ u) g e cs:=fun hr he he2=>by
  have h1:=hr.grown hrow he hg
  exact h1.setOther (h1.ne R1 he2) _
 have hbel:Below w0.heap.size w0 w1:=h.bel.grown hg h.bel.size fun k hk=>by have:=(hrow.lt k hk).1;omega
 obtain⟨aa,ca,af,cf,R,O1,O2,hq⟩:=h.own
 refine⟨keep h.inst (by decide) (by decide),keep h.plan (by decide) (by decide),keep h.res (by decide) (by decide),⟨aa,ca,af,cf,keep R (by decide) (by decide), ?_, ?_,hq⟩,hA, ?_,h.gaB,h.resB⟩
 ·exact la7 (O1.kept hg (fb7 O1 hrow (by decide))) R1 (by decide) _ _
 ·exact la7 (O2.kept hg (fb7 O2 hrow (by decide))) R1 (by decide) _ _
 ·exact hbel.setCell (by show w0.heap.size≤ga;exact h.gaB) _
theorem Mut.cell {ts:List TypeId}{B:Nat}{w w':World}{g j:Nat}{e:TypeId}{cs:List Value}{v:Value}(h:Mut ts B w w') (hr:Row w g e cs) (he:e ∉ ts) (hv:cs[j]? = some v):w'.cell? ⟨g,j,none⟩=some v:=by
 have hj:j<cs.length:=(List.getElem?_eq_some_iff.1 hv).1
 rw[(h.row hr he).cell hj]
 rw[List.getElem?_eq_getElem hj]at hv
 exact hv
theorem tub7 (w:World) (ic pc:List Value) (n:Nat):GSt w (w.heap.size+1+1+1+1) (w.heap.size+1+1+1) (w.heap.size+1+1) ic pc ⟨[],[],List.replicate n []⟩ (List.replicate n (.slice none 0 0))
  (((((w.alloc (.cells ic.toArray 57)).alloc (.cells pc.toArray 37)).alloc (.cells #[.int .i64 0,.slice none 0 0] 243)).alloc (.cells #[.int .i64 0,.slice none 0 0,.slice none 0 0] 288)).alloc (.cells (Array.replicate n (.slice none 0 0)) 68)):=by
 have h1:=Row.new (w:=w) (g:=w.heap.size) (e:=57) (cs:=ic) rfl
 have b1:Below w.heap.size w (w.alloc (.cells ic.toArray 57)):=(Below.refl _ _).alloc (Nat.le_refl _) _
 have z1:(w.alloc (.cells ic.toArray 57)).heap.size=w.heap.size+1:=by simp
 generalize w.alloc (.cells ic.toArray 57)=w1 at *
 have h2:=Row.new (w:=w1) (g:=w.heap.size+1) (e:=37) (cs:=pc) z1.symm
 have h1:=h1.alloc (.cells pc.toArray 37)
 have b2:=b1.alloc (by omega) (.cells pc.toArray 37)
 have z2:(w1.alloc (.cells pc.toArray 37)).heap.size=w.heap.size+2:=by simp[z1]
 generalize w1.alloc (.cells pc.toArray 37)=w2 at *
 have h3:=Row.new (w:=w2) (g:=w.heap.size+2) (e:=243) (cs:=[.int .i64 0,.slice none 0 0]) z2.symm
 have h1:=h1.alloc (.cells #[.int .i64 0,.slice none 0 0] 243)
 have h2:=h2.alloc (.cells #[.int .i64 0,.slice none 0 0] 243)
 have b3:=b2.alloc (by omega) (.cells #[.int .i64 0,.slice none 0 0] 243)
 have z3:(w2.alloc (.cells #[.int .i64 0,.slice none 0 0] 243)).heap.size=w.heap.size+3:=by simp[z2]
 generalize w2.alloc (.cells #[.int .i64 0,.slice none 0 0] 243)=w3 at *
 have h4:=Row.new (w:=w3) (g:=w.heap.size+3) (e:=288) (cs:=[.int .i64 0,.slice none 0 0,.slice none 0 0]) z3.symm
 have h1:=h1.alloc (.cells #[.int .i64 0,.slice none 0 0,.slice none 0 0] 288)
 have h2:=h2.alloc (.cells #[.int .i64 0,.slice none 0 0,.slice none 0 0] 288)
 have h3:=h3.alloc (.cells #[.int .i64 0,.slice none 0 0,.slice none 0 0] 288)
 have b4:=b3.alloc (by omega) (.cells #[.int .i64 0,.slice none 0 0,.slice none 0 0] 288)
 have z4:(w3.alloc (.cells #[.int .i64 0,.slice none 0 0,.slice none 0 0] 288)).heap.size=w.heap.size+4:=by simp[z3]
 generalize w3.alloc (.cells #[.int .i64 0,.slice none 0 0,.slice none 0 0] 288)=w4 at *
 have h5:=anb7.new w4 (w.heap.size+3) n
 rw[z4]at h5
 exact⟨h1.alloc _,h2.alloc _,h3.alloc _,⟨none,0,none,0,h4.alloc _,World.ownsRow_nil _ _ _ _,World.ownsRow_nil _ _ _ _,Nat.le_refl _⟩,h5,b4.alloc (by omega) _,by omega,by omega⟩
theorem uvb7 {w:World}{F G:Nat→Prop}{x:ba7}{p:ab7}{cs ps:List Value}(h:kb7.rep w F x cs) (hp:wd7.rep w G p ps) (hok:jdb7 x p) (hT:gb7 p.trucks p.trucks.length≤1000) (hbl:p.bikes.length≤10) (hbs:pb7 p.bikes p.bikes.length≤10) :
  Calls Tryz.prog 146 #[.agg cs.toArray,.agg ps.toArray] w fun e w'=>∃aa ca af cf,e = .returned (.tuple #[.agg #[.int .i64 ((zf7 x p).fr.length:Int),.slice aa (zf7 x p).arcs.length ca],.slice af (zf7 x p).fr.length cf]) ∧
   w'.ownsRow w.heap.size 260 3 (.slice aa (zf7 x p).arcs.length ca) (zf7 x p).arcs.length ((zf7 x p).arcs.flatMap gdc7)∧w'.ownsRow w.heap.size 2 1 (.slice af (zf7 x p).fr.length cf) (zf7 x p).fr.length ((zf7 x p).fr.map ib7)∧Below w.heap.size w w':=by
 have hrep:=h
 have gd:=li7 hok.inst
 obtain⟨s,c,co,ti,rfl,-,h1,h2,-,h7⟩:=h
 obtain⟨a,b,off,c1,hs,hlc,hc,ha,-,hcell,-⟩:=td7 h1
 obtain rfl:=List.cons.inj hs |>.1
 obtain⟨a',b',off',c1',hs',hlc',hc',ha',-,hcell',-⟩:=dh7 h2
 obtain rfl:=List.cons.inj hs' |>.1
 obtain⟨b7,off7,c7,hs7,htime⟩:=tv7 h7 gd
 obtain rfl:=List.cons.inj hs7 |>.1
 obtain⟨tv,bv,rfl,h3,h4⟩:=hp
 obtain⟨a2,b2,off2,c2,hs2,hl2,hc2,ha2,-,hcell2⟩:=lc7 h3
 obtain rfl:=List.cons.inj hs2 |>.1
 obtain⟨a4,b4,off4,c4,hs4,hl4,hc4,ha4,-,hcell4⟩:=zc7 h4
 obtain rfl:=List.cons.inj hs4 |>.1
 clear hs hs' hs2 hs4 hs7 h1 h2 h3 h4 h7
 have R0:=(((Row.new (w:=w) (e:=57) (cs:=[.int .i64 x.fin,.int .i64 x.tmany,.int .i64 x.troom,.int .i64 x.bmany,.int .i64 x.broom,.slice a x.sats.length c1,.slice a' x.custs.length c1',co,.slice (some ⟨b7,off7,none⟩) (nodes x) c7]) rfl).alloc (.cells #[.slice a2 p.trucks.length c2,.slice a4 p.bikes.length c4] 37)).alloc (.cells #[.int .i64 0,.slice none 0 0] 243)).alloc (.cells #[.int .i64 0,.slice none 0 0,.slice none 0 0] 288)
 have hsm:x.sats.length≤1000000:=by have:=gd.sats;omega
 obtain⟨i1,hi,hi0,hi1,hi2⟩:=info_parts asb7
 have hmk:=usb7 Tryz.underlying289 hi hi0 hi1 hi2 (n:=x.sats.length) hsm
 clear hi hi0 hi1 hi2 i1
 obtain⟨q0,q1,q2,q3,q4,q5,q6,q7,q8⟩:=wh7 R0
 have hs0:=tub7 w [.int .i64 x.fin,.int .i64 x.tmany,.int .i64 x.troom,.int .i64 x.bmany,.int .i64 x.broom,.slice a x.sats.length c1,.slice a' x.custs.length c1',co,.slice (some ⟨b7,off7,none⟩) (nodes x) c7] [.slice a2 p.trucks.length c2,.slice a4 p.bikes.length c4] x.sats.length
 have HCELL:=hid hcell
 have HCELL':=hid hcell'
 have HTIME:=hid htime
 have HCELL2:=hid hcell2
 have HCELL4:=hid hcell4
 have HOK:=hid hok
 have HREP:=hid hrep
 have GD:=hid gd
 have hss:=gd.sats
 have hcc:=gd.custs
 clear hcell hcell' htime hcell2 hcell4 hok hrep gd R0
 go_enter Tryz.func146,Tryz.ntmps146
 go_upto_region 3 with fail
 generalize ((((w.alloc (.cells #[.int .i64 x.fin,.int .i64 x.tmany,.int .i64 x.troom,.int .i64 x.bmany,.int .i64 x.broom,.slice a x.sats.length c1,.slice a' x.custs.length c1',co,.slice (some ⟨b7,off7,none⟩) (nodes x) c7] 57)).alloc (.cells #[.slice a2 p.trucks.length c2,.slice a4 p.bikes.length c4] 37)).alloc
  (.cells #[.int .i64 0,.slice none 0 0] 243)).alloc (.cells #[.int .i64 0,.slice none 0 0,.slice none 0 0] 288)).alloc (.cells (Array.replicate x.sats.length (.slice none 0 0)) 68)=wz at hs0 ⊢
 clear q0 q1 q2 q3 q4 q5 q6 q7 q8
 obtain⟨qr,hqr⟩:∃q,q=w.heap.size+1+1:=⟨_,rfl⟩
 obtain⟨qd,hqd⟩:∃q,q=w.heap.size+1+1+1:=⟨_,rfl⟩
 obtain⟨ga,hga⟩:∃q,q=w.heap.size+1+1+1+1:=⟨_,rfl⟩
 rw[← hga,← hqd,← hqr]at hs0
 rw[← hga,← hqd,← hqr]
 obtain⟨ic,hic⟩:∃ic:List Value,ic=[.int .i64 x.fin,.int .i64 x.tmany,.int .i64 x.troom,.int .i64 x.bmany,.int .i64 x.broom,.slice a x.sats.length c1,.slice a' x.custs.length c1',co,.slice (some ⟨b7,off7,none⟩) (nodes x) c7]:=⟨_,rfl⟩
 obtain⟨pc,hpc⟩:∃pc:List Value,pc=[.slice a2 p.trucks.length c2,.slice a4 p.bikes.length c4]:=⟨_,rfl⟩
 rw[← hic,← hpc]at hs0
 have HIC:=hid hic
 have HPC:=hid hpc
 have pR:=hs0.plan
 rw[hpc]at pR
 obtain⟨p0,p1⟩:=gf7 pR
 have HS0:=hid hs0
 clear hic hpc hqr hqd hga pR hs0 hmk
 have hnn:1≤nodes x:=by unfold nodes;omega
 go_wp2
 go_loopw [34] (fun kv wr=>∃(k:Nat) (vs:List Value),k≤p.trucks.length∧kv = .int .i64 k∧GSt w ga qd qr ic pc ((p.trucks.take k).foldl (lg7 x) (ag7 x)) vs wr) (fun kv _=>p.trucks.length-(intOf kv).toNat)
 case atStart=>exact⟨0,_,Nat.zero_le _,rfl,HS0.out⟩
 case round =>
  clear p0 p1 HS0
  obtain⟨k,vs,hk,rfl,hst⟩:=hrel
  obtain⟨wo,rfl⟩:∃wo:World,wo=wr:=⟨_,rfl⟩
  have HST:=hid hst
  clear hst
  by_cases hlt:k<p.trucks.length
  ·
   as_aux_lemma =>
    have hx:=ka7 (c:=c2) Tryz.underlying34 kh7 (ha2 (by omega)) hlt
    obtain⟨sv,g0,hr0⟩:=HCELL2.out k hlt
    have htok:=HOK.out.truck _ (List.getElem_mem hlt)
    have hok0:=xp7 (x:=x) (l:=p.trucks) (fun t ht=>(HOK.out.truck t ht).2) k hk
    have htu:=ip7 (l:=p.trucks) (k:=k+1)
    rw[df7 hlt]at htu
    have HFT:=hid (wa7 (lg7 x) (ag7 x) p.trucks k hlt)
    obtain⟨tr,htr⟩:∃tr,tr=p.trucks[k]:=⟨_,rfl⟩
    rw[← htr]at hr0 htok htu HFT
    obtain⟨dk,hdk⟩:∃dk,dk=(p.trucks.take k).foldl (lg7 x) (ag7 x):=⟨_,rfl⟩
    rw[← hdk]at HST hok0 HFT
    obtain⟨n0,hn0⟩:∃n0,n0=gb7 p.trucks k:=⟨_,rfl⟩
    rw[← hn0]at hok0 htu
    obtain⟨a3,b3,off3,c3,hs3,hl3,hc3,ha3,-,hcell3,-⟩:=sd7 hr0
    obtain rfl:=List.cons.inj hs3 |>.1
    have hb:=HST.out.bel
    have g1:=aa7 hb g0
    have HCELL3:=hid hcell3
    have htl:(tr.length:Int)≤1000:=by omega
    have HTOK:=hid htok.2
    have HOK0:=hid hok0
    have hal:Below wo.heap.size wo (wo.alloc (.cells #[.slice a3 tr.length c3] 124)):=(Below.refl _ _).alloc (Nat.le_refl _) _
    have HS1:=hid (HST.out.below hal)
    have HT1:=hid (Row.new (w:=wo) (g:=wo.heap.size) (e:=124) (cs:=[.slice a3 tr.length c3]) rfl)
    have z0:=HT1.out.cell (j:=0) (by simp)
    simp only[List.getElem_cons_zero]at z0
    obtain⟨X,hX⟩:∃X,X=wo.heap.size:=⟨_,rfl⟩
    rw[← hX]at z0 HT1
    clear hs3 hr0 g0 htr hdk hn0 htok hcell3 hok0 hal hb
    go_upto_region 7 with fail
    rw[← hX]
    generalize wo.alloc (.cells #[.slice a3 tr.length c3] 124)=w1 at HS1 HT1 z0 ⊢
    clear hX g1
    go_wp2
    go_loopw [10,11,41] (fun lv nv jv wr=>∃(j:Nat) (st:StT) (vs:List Value),j≤tr.length∧jv = .int .i64 j∧st=(tr.take j).foldl (nc7 x) ⟨dk,-1,0⟩∧lv = .int .i64 st.last∧nv = .int .i64 st.node∧GSt w ga qd qr ic pc st.d vs wr) (fun _ _ jv _=>tr.length-(intOf jv).toNat)
    case atStart=>exact⟨0,_,vs,Nat.zero_le _,rfl,rfl,rfl,rfl,HS1.out⟩
    case round =>
     clear z0 HS1 HT1
     obtain⟨j,st,vs,hj,rfl,hste,rfl,rfl,hst⟩:=hrel
     obtain⟨wi,rfl⟩:∃wi:World,wi=wr:=⟨_,rfl⟩
     have HSTE:=hid hste
     have HST:=hid hst
     by_cases hjt:j<tr.length
     ·as_aux_lemma =>
       have hsok:=bab7 HTOK.out HOK0.out j hj
       rw[← hste]at hsok
       have HNX:=hid (wa7 (nc7 x) ⟨dk,-1,0⟩ tr j hjt)
       rw[← hste]at HNX
       have hss:=HTOK.out _ (List.getElem_mem hjt)
       have hy:=vb7 (c:=c3) Tryz.underlying122 vo7 (ha3 (by omega)) hjt
       have hb:=hst.bel
       have g3:=aa7 hb (HCELL3.out j hjt).1
       have g4:=aa7 hb (HCELL3.out j hjt).2
       obtain⟨so,hso⟩:∃so,so=tr[j]:=⟨_,rfl⟩
       rw[← hso]at g3 g4 hss HNX
       obtain⟨sa,lo⟩:=so
       simp only[]at g3 g4
       unfold de7 at hss
       simp only[]at hss
       have hal:Below wi.heap.size wi (wi.alloc (.cells #[.int .i64 sa,.int .i64 lo] 121)):=(Below.refl _ _).alloc (Nat.le_refl _) _
       have HS2:=hid (hst.below hal)
       have HP2:=hid (Row.new (w:=wi) (g:=wi.heap.size) (e:=121) (cs:=[.int .i64 sa,.int .i64 lo]) rfl)
       have hfl:=hsok.ok.frL
       have hal2:=hsok.ok.arL
       obtain⟨n1,hn1⟩:∃n,n=st.d.fr.length:=⟨_,rfl⟩
       have hnb:n1≤1000:=by omega
       have HN1:=hid hn1
       have HFL:=hid (show n1=n0+j from by omega)
       obtain⟨Y,hY⟩:∃Y,Y=wi.heap.size:=⟨_,rfl⟩
       rw[← hY]at HP2
       have HSOK:=hid hsok
       have HSS:=hid hss
       have hal3:st.d.arcs.length≤1000:=by omega
       clear hst hso hste hal hb hss hsok HSTE HST hfl hal2 hn1
       go_upto_region 10 with fail
       rw[← hY]
       generalize wi.alloc (.cells #[.int .i64 sa,.int .i64 lo] 121)=w2 at HS2 HP2 ⊢
       clear hY g3 g4
       go_wp2_with fail
       refine (zz7 HS2.out.own (by rw[← HN1.out];omega) 0).mono ?_
       rintro e w3 ⟨rfl,hD3,hM3⟩
       rw[← HN1.out]
       have HS3:=hid (HS2.out.mut hM3 hD3)
       have HP3:=hid (hM3.row HP2.out (by decide))
       have hlb:=HSOK.out.lastB
       have hnd:=HSOK.out.nodeB
       clear hD3 hM3 HS2 HP2
       have RI:=HS3.out.inst
       rw[HIC.out]at RI
       obtain⟨q0,q1,q2,q3,q4,q5,q6,q7,q8⟩:=wh7 RI
       have y0:=HP3.out.cell (j:=0) (by simp)
       simp only[List.getElem_cons_zero]at y0
       have hsr:=HSS.out.1
       have hcn:(1+sa).toNat<nodes x:=by unfold nodes;omega
       have hcn0:(0:Int)≤1+sa:=by omega
       have hB3:=HS3.out.bel
       have HINS:=hid (kb7.below HREP.out hB3)
       clear RI
       go_upto_if 48 with fail
       go_cut [] (fun wx=>GSt w ga qd qr ic pc ⟨if st.last<0 then st.d.fr++[cb7 x 0 (1+sa)] else st.d.fr++[0],if st.last<0 then st.d.arcs else st.d.arcs++[⟨st.last.toNat,st.d.fr.length,cb7 x st.node (1+sa)⟩],st.d.att⟩ vs wx∧Row wx Y 121 [.int .i64 sa,.int .i64 lo])
       case first =>
        by_cases hl0:st.last<0
        ·as_aux_lemma =>
          obtain⟨aa,ca,af,cf,RD,O1,O2,hq⟩:=HS3.out.own
          have hfr1:(st.d.fr++[0]).length=n1+1:=by rw[List.length_append,List.length_singleton,HN1.out]
          obtain⟨gf,cf',hse,-,-,-,-⟩:=Row.of_owns O2 (by show 0<(st.d.fr++[0]).length;omega)
          simp only[Value.slice.injEq]at hse
          obtain⟨rfl,-,rfl⟩:=hse
          have c2d:=RD.cell (j:=2) (by simp)
          simp only[List.getElem_cons_succ,List.getElem_cons_zero]at c2d
          rw[hfr1]at c2d
          have RF:=Row.of_own O2
          obtain⟨br,orr,cr,t0,tc⟩:=HTIME.out 0 (by omega)
          have t1:=aa7 hB3 t0
          have t2:=aa7 hB3 (tc (1+sa).toNat hcn)
          rw[Int.toNat_of_nonneg hcn0]at t2
          have it0:∀w,(Instr.indexAt 38 (.slice (some ⟨b7,off7,none⟩) (nodes x) c7) (.int .i64 0)).run Tryz.prog w = .ok (.pointer (some ⟨b7,off7,none⟩)) w:=fun w=>by
           have:=ka7 (c:=c7) Tryz.underlying38 ah7 (a:=some ⟨b7,off7,none⟩) rfl (k:=0) (n:=nodes x) (by omega) w
           simpa using this
          have it1:=ka7 (c:=cr) Tryz.underlying78 qc7 (a:=some ⟨br,orr,none⟩) rfl hcn
          rw[Int.toNat_of_nonneg hcn0]at it1
          have if1:=ka7 (c:=cf) Tryz.underlying78 qc7 (a:=some ⟨gf,0,none⟩) rfl (k:=n1) (n:=n1+1) (by omega)
          rw[Nat.zero_add]at if1
          rw[Nat.add_zero]at t1
          obtain⟨tv,htv⟩:∃tv,tv=cb7 x 0 (1+sa):=⟨_,rfl⟩
          have t2':w3.cell? ⟨br,orr+(1+sa).toNat,none⟩=some (.int .i64 tv):=by rw[htv];exact t2
          have HTV:=hid htv
          have fz:=RF.frozen n1
          obtain⟨uv,cf0⟩:∃u,w3.cell? ⟨gf,n1,none⟩=some u:=⟨_,RF.cell (j:=n1) (by rw[List.length_map];show n1<(st.d.fr++[0]).length;omega)⟩
          have HOO:=hid O2
          have HRD:=hid RD
          clear t2 tc O1 O2 RD RF htv t0 hq hfr1
          go_wp2
          have z0:∀e:At (Old w3),_:=fun e=>e.cell q0
          have z1:∀e:At (Old w3),_:=fun e=>e.cell q1
          have z2:∀e:At (Old w3),_:=fun e=>e.cell q2
          have z3:∀e:At (Old w3),_:=fun e=>e.cell q3
          have z4:∀e:At (Old w3),_:=fun e=>e.cell q4
          have z5:∀e:At (Old w3),_:=fun e=>e.cell q5
          have z6:∀e:At (Old w3),_:=fun e=>e.cell q6
          have z7:∀e:At (Old w3),_:=fun e=>e.cell q7
          have z8:∀e:At (Old w3),_:=fun e=>e.cell q8
          have z9:∀e:At (Old w3),_:=fun e=>e.cell c2d
          have za:∀e:At (Old w3),_:=fun e=>e.cell t1
          have zb:∀e:At (Old w3),_:=fun e=>e.cell t2'
          have zc:∀e:At (Old w3),_:=fun e=>e.cell y0
          refine ma7 (Old w3) [16] [([0,1,2,3,4,5,6,7,8,9,10,11],12,false),([13,14],15,false),([],16,true)] (by kernel_rfl) (by kernel_rfl) (fun _ _ d _ _ h=>by cases d <;> exact h) (Old.drew _) ?_
          simp only[gd7,List.map_cons,List.map_nil,Array.getD_eq_getD_getElem?,List.getElem?_toArray,List.getElem?_cons_succ,List.getElem?_cons_zero,Option.getD_some,me7]
          repeat (go_big_quiet_step (fail))
          refine wpQuiet_nil ?_
          have hO0:=Old.drew w3
          go_wp2_with fail
          refine (ve7 (kb7.below HINS.out hO0) (by omega)).mono ?_
          rintro e w4 ⟨rfl,hb4⟩
          have hO4:=hO0.step hb4
          go_wp2_with fail
          refine⟨hO4, ?_⟩
          repeat (go_big_quiet_step (fail))
          refine wpQuiet_nil ?_
          go_wp2_with fail
          refine⟨hO4,wpQuiet_nil ?_⟩
          have fz4:=(Row.of_own (oa7 HOO.out hO4)).frozen n1
          have cf4:=aa7 hO4 cf0
          have HS4:=hid (HS3.out.below hO4)
          have c2d4:=aa7 hO4 c2d
          have HP4:=hid (HP3.out.below hO4)
          have HRF:=hid (Row.of_own (oa7 HOO.out hO4))
          go_wp2
          go_meet
          have hset:(st.d.fr++[0]).set n1 tv=st.d.fr++[cb7 x 0 (1+sa)]:=by
           rw[HN1.out,List.set_append_right _ _ (Nat.le_refl _),Nat.sub_self,HTV.out];rfl
          have h5:=HS4.out.setFr c2d4 (j:=n1) (by rw[List.length_append,List.length_singleton,← HN1.out];omega) tv
          rw[hset]at h5
          rw[if_pos hl0,if_pos hl0]
          exact⟨h5,HP4.out.setOther (HP4.out.ne HRF.out (by decide)) _⟩
        ·as_aux_lemma =>
          obtain⟨l0,hl⟩:=Int.eq_ofNat_of_zero_le (show 0≤st.last by omega)
          obtain⟨br,orr,cr,t0,tc⟩:=HTIME.out st.node.toNat (by omega)
          have t1:=aa7 hB3 t0
          have t2:=aa7 hB3 (tc (1+sa).toNat hcn)
          rw[Int.toNat_of_nonneg hcn0,Int.toNat_of_nonneg hnd.1]at t2
          have it0:=ka7 (c:=c7) Tryz.underlying38 ah7 (a:=some ⟨b7,off7,none⟩) rfl (k:=st.node.toNat) (n:=nodes x) (by omega)
          rw[Int.toNat_of_nonneg hnd.1]at it0
          have it1:=ka7 (c:=cr) Tryz.underlying78 qc7 (a:=some ⟨br,orr,none⟩) rfl hcn
          rw[Int.toNat_of_nonneg hcn0]at it1
          obtain⟨tv,htv⟩:∃tv,tv=cb7 x st.node (1+sa):=⟨_,rfl⟩
          rw[← htv]at t2
          have HTV:=hid htv
          have HL:=hid hl
          clear tc htv t0
          have hge:0≤st.last:=by omega
          clear hl
          go_wp2
          have z0:∀e:At (Old w3),_:=fun e=>e.cell q0
          have z1:∀e:At (Old w3),_:=fun e=>e.cell q1
          have z2:∀e:At (Old w3),_:=fun e=>e.cell q2
          have z3:∀e:At (Old w3),_:=fun e=>e.cell q3
          have z4:∀e:At (Old w3),_:=fun e=>e.cell q4
          have z5:∀e:At (Old w3),_:=fun e=>e.cell q5
          have z6:∀e:At (Old w3),_:=fun e=>e.cell q6
          have z7:∀e:At (Old w3),_:=fun e=>e.cell q7
          have z8:∀e:At (Old w3),_:=fun e=>e.cell q8
          have za:∀e:At (Old w3),_:=fun e=>e.cell t1
          have zb:∀e:At (Old w3),_:=fun e=>e.cell t2
          have zc:∀e:At (Old w3),_:=fun e=>e.cell y0
          refine ma7 (Old w3) [14] [([0,1,2,3,4,5,6,7,8,9,10],11,false),([12],13,false),([],14,true)] (by kernel_rfl) (by kernel_rfl) (fun _ _ d _ _ h=>by cases d <;> exact h) (Old.drew _) ?_
          simp only[gd7,List.map_cons,List.map_nil,Array.getD_eq_getD_getElem?,List.getElem?_toArray,List.getElem?_cons_succ,List.getElem?_cons_zero,Option.getD_some,me7]
          repeat (go_big_quiet_step (fail))
          refine wpQuiet_nil ?_
          have hO0:=Old.drew w3
          go_wp2_with fail
          refine (ve7 (kb7.below HINS.out hO0) (by omega)).mono ?_
          rintro e w4 ⟨rfl,hb4⟩
          have hO4:=hO0.step hb4
          have t24:=aa7 hO4 t2
          go_wp2_with fail
          refine⟨hO4, ?_⟩
          repeat (go_big_quiet_step (fail))
          refine wpQuiet_nil ?_
          go_wp2_with fail
          refine⟨hO4,wpQuiet_nil ?_⟩
          have HS4:=hid (HS3.out.below hO4)
          have HP4:=hid (HP3.out.below hO4)
          go_wp2_with fail
          have hbc:=yt7 HS4.out.own (by show st.d.arcs.length≤100000;omega) ⟨st.last.toNat,n1,tv⟩
          rw[show (((⟨st.last.toNat,n1,tv⟩:ay7).frm:Nat):Int)=st.last from Int.toNat_of_nonneg hge]at hbc
          refine hbc.mono ?_
          rintro e w5 ⟨rfl,hD5,hM5⟩
          have HS5:=hid (HS4.out.mut hM5 hD5)
          have HP5:=hid (hM5.row HP4.out (by decide))
          clear hD5 hM5
          go_wp2
          go_meet
          rw[if_neg (show ¬st.last<0 by omega),if_neg (show ¬st.last<0 by omega)]
          refine⟨?_,HP5.out⟩
          have:=HS5.out
          rw[HTV.out,HN1.out]at this
          exact this
       case rest =>
        obtain⟨hS5,hP5⟩:=hcut
        have HS5:=hid hS5
        have HP5:=hid hP5
        clear hS5 hP5 HS3 HP3 q0 q1 q2 q3 q4 q5 q6 q7 q8 y0 hB3 HINS
        obtain⟨w5,rfl⟩:∃w5:World,w5=wc:=⟨_,rfl⟩
        obtain⟨fr5,hfr5⟩:∃f,f=if st.last<0 then st.d.fr++[cb7 x 0 (1+sa)] else st.d.fr++[0]:=⟨_,rfl⟩
        obtain⟨ar5,har5⟩:∃f,f=if st.last<0 then st.d.arcs else st.d.arcs++[⟨st.last.toNat,st.d.fr.length,cb7 x st.node (1+sa)⟩]:=⟨_,rfl⟩
        rw[← hfr5,← har5]at HS5
        have HF5:=hid hfr5
        have HA5:=hid har5
        clear hfr5 har5
        have RI:=HS5.out.inst
        rw[HIC.out]at RI
        obtain⟨q0,q1,q2,q3,q4,q5,q6,q7,q8⟩:=wh7 RI
        have y0:=HP5.out.cell (j:=0) (by simp)
        simp only[List.getElem_cons_zero]at y0
        have HINS:=hid (kb7.below HREP.out HS5.out.bel)
        clear RI
        go_wp2_with fail
        refine (ve7 HINS.out (by omega)).mono ?_
        rintro e w6 ⟨rfl,hb6⟩
        have HS6:=hid (HS5.out.below hb6)
        have HP6:=hid (HP5.out.below hb6)
        clear HS5 HP5 q0 q1 q2 q3 q4 q5 q6 q7 q8 y0 HINS hb6
        go_upto_region 15 with fail
        as_aux_lemma =>
         have hatl:=HSOK.out.ok.atL
         have hsa:sa.toNat<st.d.att.length:=by omega
         have hsv:sa.toNat<vs.length:=by rw[HS6.out.att.len];exact hsa
         have hrow:=HS6.out.att.rows _ hsa hsv
         have hgl:=(HSOK.out.ok.at' _ (List.getElem_mem hsa)).1
         obtain⟨m0,hm0⟩:∃m,m=(st.d.att[sa.toNat]).length:=⟨_,rfl⟩
         have hm1:m0≤1000:=by have:=HFL.out;omega
         obtain⟨ao,cp,hvs,-,-⟩:=xa7 hrow
         have cg:=HS6.out.att.row.cell hsv
         have fg:=HS6.out.att.row.frozen sa.toNat
         have y0:=HP6.out.cell (j:=0) (by simp)
         simp only[List.getElem_cons_zero]at y0
         have o1:some ga≠vs[sa.toNat].ownBlock:=ec7 hrow HS6.out.att.row (by decide)
         have o2:some Y≠vs[sa.toNat].ownBlock:=ec7 hrow HP6.out (by decide)
         have HVS:=hid hvs
         have HM0:=hid hm0
         obtain⟨row,hro⟩:∃row,row=vs[sa.toNat].ownBlock:=⟨_,rfl⟩
         rw[← hro]at o1 o2
         have HRO:=hid hro
         rw[hvs,← hm0]at cg
         have ix:=ka7 (c:=x.sats.length) Tryz.underlying289 mpb7 (a:=some ⟨ga,0,none⟩) rfl (k:=sa.toNat) (n:=x.sats.length) (by omega)
         rw[Int.toNat_of_nonneg HSS.out.1.1,Nat.zero_add]at ix
         have HROW:=hid (show w6.ownsRow (w.heap.size+3) 3 1 (.slice ao m0 cp) m0 (st.d.att[sa.toNat].map ev7) from by rw[hvs]at hrow;rw[hm0];exact hrow)
         have hB6:=HS6.out.own.le
         clear hvs hm0 hro hrow hatl hgl
         go_wp2
         have z1:∀e:At (sb7 row w6),_:=fun e=>e.ok.cell cg o1
         have z2:∀e:At (sb7 row w6),_:=fun e=>e.ok.cell y0 o2
         refine ma7 (sb7 row w6) [12] [([0,1,2,3,4,5,6,7,8],9,false),([],10,false),([],11,false),([],12,true)] (by kernel_rfl) (by kernel_rfl) (fun _ _ d _ _ h=>by cases d <;> exact h) (sb7.refl _ _).drew ?_
         simp only[gd7,List.map_cons,List.map_nil,Array.getD_eq_getD_getElem?,List.getElem?_toArray,List.getElem?_cons_succ,List.getElem?_cons_zero,Option.getD_some,me7]
         repeat (go_big_quiet_step (fail))
         refine wpQuiet_nil ?_
         go_wp2_with fail
         have hS0:sb7 row w6 (w6.alloc (.cells #[.int .i64 (n1:Int)] 3)).drew:=((sb7.refl row w6).below ((Below.refl _ _).alloc (Nat.le_refl _) _)).drew
         have hown1:=(HROW.out.alloc (.cells #[.int .i64 (n1:Int)] 3)).drew
         refine⟨hS0,wpQuiet_nil ?_⟩
         obtain⟨i1,hi,hi0,hi1,hi2⟩:=info_parts ql7
         go_wp2_with (at_builtin;refine wpList_append_own_at _ rfl _ _ 68 rfl (w.heap.size+3) 3 i1 (.int .i64 0) 1 8 Tryz.underlying68 hi hi0 hi1 hi2 rfl (by decide) _ _ _ rfl hown1 ⟨w6.heap.size,0,none⟩ 1 1 [.int .i64 (n1:Int)] rfl rfl ?k1 ?k2 ?k3 ?k4 ?k5 ?_)
         case k1=>exact cell_one_new _ _ _
         case k2=>first | rfl | (intro u hu;simp at hu;subst hu;rfl)
         case k3=>unfold maxLen;omega
         case k4=>omega
         case k5=>first | omega | (simp;omega)
         intro v' w7 hown' hgrow _ hat
         obtain⟨ao',cp',hv',-,-⟩:=xa7 hown'
         subst hv'
         have hal:Below w6.heap.size w6 ((w6.alloc (.cells #[.int .i64 (n1:Int)] 3)).drew):=((Below.refl _ _).alloc (Nat.le_refl _) _).drew
         have HS7:=hid ((HS6.out.below hal).push (s:=sa.toNat) (n:=n1) (u:=.slice ao' (m0+1) cp') hsa hsv (by rw[HVS.out,← HM0.out];exact hgrow) (by rw[← HM0.out];exact hown') (by
          rw[HVS.out,← HM0.out]
          rcases hat with h | h
          ·exact .inl h
          ·exact .inr ⟨_,h,by simp⟩))
         have hS1:=hS0.grown (by rw[HRO.out,HVS.out,← HM0.out];exact hgrow)
         have cg7:=hS1.cell cg o1
         have R7:=(HS6.out.below hal).att.row.grown hown1 (by decide) hgrow
         have fg7:=R7.frozen sa.toNat
         clear hown' hgrow hown1 hi hi0 hi1 hi2 hat hS0 R7
         refine⟨hS1,wpQuiet_nil ?_⟩
         go_wp2_with fail
         refine wpQuiet_nil ?_
         go_wp2
         go_roundw
         case rel =>
          refine⟨j+1,nc7 x st ⟨sa,lo⟩,vs.set sa.toNat (.slice ao' (m0+1) cp'),by omega,by go_num,by rw[HNX.out], ?_,rfl, ?_⟩
          ·show _=Value.int .i64 ((st.d.fr.length:Nat):Int)
           rw[HN1.out]
          ·have:=HS7.out
           rw[HF5.out,HA5.out,HN1.out]at this
           exact this
         case measure=>simp[intOf];omega
     ·as_aux_lemma =>
       have hje:j=tr.length:=by omega
       subst hje
       have HE:=hid (show ((p.trucks.take (k+1)).foldl (lg7 x) (ag7 x))=st.d from by rw[HFT.out,HSTE.out,List.take_length];rfl)
       clear hst hste
       go_wp2
       go_roundw
       case rel=>exact⟨k+1,vs,by omega,by go_num,by rw[HE.out];exact HST.out⟩
       case measure=>simp[intOf];omega
  ·have hke:k=p.trucks.length:=by omega
   subst hke
   have hD0:(p.trucks.take p.trucks.length).foldl (lg7 x) (ag7 x)=xbb7 x p.trucks:=by rw[List.take_length];rfl
   have hok0:=xp7 (x:=x) (l:=p.trucks) (fun t ht=>(HOK.out.truck t ht).2) p.trucks.length (Nat.le_refl _)
   rw[hD0]at HST hok0
   obtain⟨T,hTe⟩:∃T,T=gb7 p.trucks p.trucks.length:=⟨_,rfl⟩
   rw[← hTe]at hok0 hT
   obtain⟨D0,hD0e⟩:∃D0,D0=xbb7 x p.trucks:=⟨_,rfl⟩
   rw[← hD0e]at HST hok0
   have HDA:=hid (show zf7 x p=p.bikes.foldl (we7 x) D0 from by rw[hD0e];rfl)
   have HOK0:=hid hok0
   have pR:=HST.out.plan
   rw[HPC.out]at pR
   obtain⟨p0,p1⟩:=gf7 pR
   clear hD0 hTe hD0e hok0 pR
   go_wp2
   go_loopw [102] (fun kv wr=>∃(k:Nat),k≤p.bikes.length∧kv = .int .i64 k∧GSt w ga qd qr ic pc ((p.bikes.take k).foldl (we7 x) D0) vs wr) (fun kv _=>p.bikes.length-(intOf kv).toNat)
   case atStart=>exact⟨0,Nat.zero_le _,rfl,HST.out⟩
   case round =>
    clear p0 p1 HST
    obtain⟨k,hk,rfl,hst⟩:=hrel
    obtain⟨wo,rfl⟩:∃wo:World,wo=wr:=⟨_,rfl⟩
    have HST:=hid hst
    clear hst
    by_cases hlt:k<p.bikes.length
    ·
     as_aux_lemma =>
      have hx:=vb7 (c:=c4) Tryz.underlying35 vj7 (ha4 (by omega)) hlt
      obtain⟨bv,g0,g1,-,hr0⟩:=HCELL4.out k hlt
      have hbok:=HOK.out.bike _ (List.getElem_mem hlt)
      obtain⟨mA,hm,hdok⟩:=aab7 GD.out HOK.out.bike HOK0.out k hk
      have hev:enb7 T p.bikes k≤1030:=by
       have h1:=qn7 (l:=p.bikes) (k:=k+1)
       have h2:=re7 hlt
       unfold enb7;omega
      have hm2:mA≤11330:=Nat.le_trans hm (Nat.le_trans (Nat.mul_le_mul hev (show k+1≤11 by omega)) (by decide))
      have hbsl:=bp7 (List.getElem_mem hlt)
      have HFT:=hid (wa7 (we7 x) D0 p.bikes k hlt)
      obtain⟨bk,hbk⟩:∃bk,bk=p.bikes[k]:=⟨_,rfl⟩
      rw[← hbk]at g0 hr0 hbok hbsl HFT
      obtain⟨dk,hdk⟩:∃dk,dk=(p.bikes.take k).foldl (we7 x) D0:=⟨_,rfl⟩
      rw[← hdk]at HST hdok HFT
      obtain⟨n0,hn0⟩:∃n0,n0=enb7 T p.bikes k:=⟨_,rfl⟩
      rw[← hn0]at hdok hev
      obtain⟨bs,bp⟩:=bk
      simp only[]at g0 hr0 hbsl
      obtain⟨hbs1,hbs2,hbs3⟩:=hbok
      simp only[]at hbs1 hbs2 hbs3
      obtain⟨a5,b5,off5,c5,hs5,hl5,hc5,ha5,-,hcell5,-⟩:=bb7 hr0
      obtain rfl:=List.cons.inj hs5 |>.1
      have hb:=HST.out.bel
      have p0:=aa7 hb g0
      have p1:=aa7 hb g1
      have HCELL5:=hid hcell5
      have hbpl:bp.length≤10:=by omega
      obtain rfl:=ha5 hbs2
      have hal:Below wo.heap.size wo (wo.alloc (.cells #[.int .i64 bs,.slice (some ⟨b5,off5,none⟩) bp.length c5] 70)):=(Below.refl _ _).alloc (Nat.le_refl _) _
      have HS1:=hid (HST.out.below hal)
      have HZ1:=hid (Row.new (w:=wo) (g:=wo.heap.size) (e:=70) (cs:=[.int .i64 bs,.slice (some ⟨b5,off5,none⟩) bp.length c5]) rfl)
      obtain⟨Z,hZ⟩:∃Z,Z=wo.heap.size:=⟨_,rfl⟩
      rw[← hZ]at HZ1
      have HDOK:=hid hdok
      have HBOK:=hid (show ko7 x ⟨bs,bp⟩ from ⟨hbs1,hbs2,hbs3⟩)
      obtain⟨n1,hn1⟩:∃n,n=dk.fr.length:=⟨_,rfl⟩
      have hn1b:n1≤1030:=by rw[hn1,hdok.frL];exact hev
      have harb:dk.arcs.length≤11330:=Nat.le_trans hdok.arL hm2
      have HN1:=hid hn1
      have HN0:=hid (show n1=n0 from by rw[hn1,hdok.frL])
      have hatl:=hdok.atL
      have hsa:bs.toNat<dk.att.length:=by omega
      have hsv:bs.toNat<vs.length:=by rw[HS1.out.att.len];exact hsa
      have HATG:=hid (hdok.at' _ (List.getElem_mem hsa))
      clear hs5 hr0 g0 g1 hbk hdk hn0 hcell5 hbsl hm hdok hal hb hn1 hbs3
      go_upto_region 21 with fail
      rw[← hZ]
      generalize wo.alloc (.cells #[.int .i64 bs,.slice (some ⟨b5,off5,none⟩) bp.length c5] 70)=w1 at HS1 HZ1 ⊢
      clear hZ p0 p1
      have RI:=HS1.out.inst
      rw[HIC.out]at RI
      have z9:∀e:At (Mut dts (w.heap.size+3) w1),_:=fun e=>Mut.cell (j:=0) e.ok HZ1.out (by decide) rfl
      have z0:∀e:At (Mut dts (w.heap.size+3) w1),_:=fun e=>Mut.cell (j:=0) e.ok RI (by decide) rfl
      have z1:∀e:At (Mut dts (w.heap.size+3) w1),_:=fun e=>Mut.cell (j:=1) e.ok RI (by decide) rfl
      have z2:∀e:At (Mut dts (w.heap.size+3) w1),_:=fun e=>Mut.cell (j:=2) e.ok RI (by decide) rfl
      have z3:∀e:At (Mut dts (w.heap.size+3) w1),_:=fun e=>Mut.cell (j:=3) e.ok RI (by decide) rfl
      have z4:∀e:At (Mut dts (w.heap.size+3) w1),_:=fun e=>Mut.cell (j:=4) e.ok RI (by decide) rfl
      have z5:∀e:At (Mut dts (w.heap.size+3) w1),_:=fun e=>Mut.cell (j:=5) e.ok RI (by decide) rfl
      have z6:∀e:At (Mut dts (w.heap.size+3) w1),_:=fun e=>Mut.cell (j:=6) e.ok RI (by decide) rfl
      have z7:∀e:At (Mut dts (w.heap.size+3) w1),_:=fun e=>Mut.cell (j:=7) e.ok RI (by decide) rfl
      have z8:∀e:At (Mut dts (w.heap.size+3) w1),_:=fun e=>Mut.cell (j:=8) e.ok RI (by decide) rfl
      refine ma7 (Mut dts (w.heap.size+3) w1) [6,7,8] [([0,2,3,4],1,false),([],5,false),([],6,true),([],7,true),([],8,true)] (by kernel_rfl) (by kernel_rfl) (fun _ _ d _ _ h=>by cases d <;> exact h) (Mut.refl _ _ _).drew ?_
      simp only[gd7,List.map_cons,List.map_nil,Array.getD_eq_getD_getElem?,List.getElem?_toArray,List.getElem?_cons_succ,List.getElem?_cons_zero,Option.getD_some,me7]
      repeat (go_big_quiet_step (fail))
      refine wpQuiet_nil ?_
      go_wp2_with fail
      have hSd:GSt w ga qd qr ic pc dk vs w1.drew:=HS1.out.below (Below.refl _ _).drew
      refine (zz7 hSd.own (by rw[← HN1.out];omega) 0).mono ?_
      rintro e w2 ⟨rfl,hD2,hM2⟩
      rw[← HN1.out]
      have HS2:=hid (hSd.mut hM2 hD2)
      have hMM:=(Mut.refl dts (w.heap.size+3) w1).drew.trans hM2
      have HZ2:=hid (hMM.row HZ1.out (by decide))
      clear hD2 hM2 hSd
      go_wp2_with fail
      refine⟨hMM,wpQuiet_nil ?_⟩
      go_wp2_with fail
      refine (ve7 (kb7.below HREP.out HS2.out.bel) (by omega)).mono ?_
      rintro e w3 ⟨rfl,hb3⟩
      have HS3:=hid (HS2.out.below hb3)
      have HZ3:=hid (HZ2.out.below hb3)
      have hMM3:=hMM.trans (Mut.below hb3 (by have:=HS2.out.own.le;omega))
      go_wp2_with fail
      refine⟨hMM3,wpQuiet_nil ?_⟩
      clear hMM hMM3 hb3 HS2 HZ2 RI z0 z1 z2 z3 z4 z5 z6 z7 z8 z9 HS1 HZ1
      go_wp2_with fail
      refine wpQuiet_nil ?_
      go_wp2_with fail
      refine wpQuiet_nil ?_
      have hrow:=HS3.out.att.rows _ hsa hsv
      obtain⟨m0,hm0⟩:∃m,m=(dk.att[bs.toNat]).length:=⟨_,rfl⟩
      obtain⟨ao,cp,hvs,-,-⟩:=xa7 hrow
      have cg:=HS3.out.att.row.cell hsv
      rw[hvs,← hm0]at cg
      have HVS:=hid hvs
      have HM0:=hid hm0
      have hm1:m0≤1030:=by have:=HATG.out.1;omega
      have ix:=ka7 (c:=x.sats.length) Tryz.underlying289 mpb7 (a:=some ⟨ga,0,none⟩) rfl (k:=bs.toNat) (n:=x.sats.length) (by omega)
      rw[Int.toNat_of_nonneg hbs1.1,Nat.zero_add]at ix
      have hgd:dk.att.getD bs.toNat []=dk.att[bs.toNat]:=by rw[List.getD_eq_getElem?_getD,List.getElem?_eq_getElem hsa];rfl
      obtain⟨L,hL⟩:∃L,L=dk.att[bs.toNat]:=⟨_,rfl⟩
      rw[← hL]at hm0 hgd HATG hrow
      have HL:=hid hL
      have HGD2:=hid hgd
      have HM1:=hid hm0
      have y0:=HZ3.out.cell (j:=0) (by simp)
      have y1:=HZ3.out.cell (j:=1) (by simp)
      simp only[List.getElem_cons_zero,List.getElem_cons_succ]at y0 y1
      clear hvs hm0 hrow hL hgd
      go_wp2
      go_loopw [118] (fun mv wr=>∃m:Nat,m≤m0∧mv = .int .i64 m∧GSt w ga qd qr ic pc ⟨dk.fr++[0],dk.arcs++cf7 x dk ⟨bs,bp⟩ m,dk.att⟩ vs wr∧Row wr Z 70 [.int .i64 bs,.slice (some ⟨b5,off5,none⟩) bp.length c5]) (fun mv _=>m0-(intOf mv).toNat)
      case atStart=>exact⟨0,Nat.zero_le _,rfl,by have:=HS3.out;simpa[cf7]using this,HZ3.out⟩
      case round =>
       clear HS3 HZ3 y0 y1 cg
       obtain⟨m,hm,rfl,hst,hz⟩:=hrel
       obtain⟨wi,rfl⟩:∃wi:World,wi=wr:=⟨_,rfl⟩
       have HST:=hid hst
       have HZ:=hid hz
       by_cases hmt:m<m0
       ·as_aux_lemma =>
         have hrow:=hst.att.rows _ hsa hsv
         have hmL:m<L.length:=by rw[← HM1.out];exact hmt
         obtain⟨g7,c7',hse,-,-,hg7,hR7⟩:=Row.of_owns hrow (by show 0<(dk.att[bs.toNat]).length;have:=HM0.out;omega)
         have hse2:vs[bs.toNat] = .slice ao m0 cp:=by rw[HM0.out];exact HVS.out
         rw[hse2]at hse
         simp only[Value.slice.injEq]at hse
         obtain⟨rfl,-,rfl⟩:=hse
         have hRL:Row wi g7 3 (L.map ev7):=by rw[HL.out];exact hR7
         have cL:=hRL.cell (j:=m) (by rw[List.length_map];exact hmL)
         rw[List.getElem_map]at cL
         have hnl:=HATG.out.2 _ (List.getElem_mem hmL)
         obtain⟨nm,hnm⟩:∃nm,nm=L[m]:=⟨_,rfl⟩
         rw[← hnm]at cL hnl
         have HNM:=hid hnm
         unfold ev7 at cL
         have iL:=ka7 (c:=cp) Tryz.underlying68 di7 (a:=some ⟨g7,0,none⟩) rfl hmt
         rw[Nat.zero_add]at iL
         have RI:=hst.inst
         rw[HIC.out]at RI
         obtain⟨q0,q1,q2,q3,q4,q5,q6,q7,q8⟩:=wh7 RI
         have y0:=hz.cell (j:=0) (by simp)
         simp only[List.getElem_cons_zero]at y0
         have hbs9:bs.toNat<x.sats.length:=by omega
         have hcl:=aa7 hst.bel (HCELL.out bs.toNat hbs9).2
         have is:=vb7 (c:=c1) Tryz.underlying54 xdb7 (ha (by omega)) hbs9
         rw[Int.toNat_of_nonneg hbs1.1]at is
         have hho:qf7 x bs=(x.sats[bs.toNat]).hold:=by unfold qf7;rw[List.getD_eq_getElem?_getD,List.getElem?_eq_getElem hbs9];rfl
         obtain⟨ho,hhoe⟩:∃ho,ho=(x.sats[bs.toNat]).hold:=⟨_,rfl⟩
         rw[← hhoe]at hcl hho
         have HHO:=hid hho
         have hal9:(dk.arcs++cf7 x dk ⟨bs,bp⟩ m).length≤100000:=by
          rw[List.length_append];unfold cf7;rw[List.length_map,List.length_take];omega
         have HBC:=hid (yt7 hst.own hal9 ⟨nm,n1,ho⟩)
         simp only[]at HBC
         have HST2:=hid (show cf7 x dk ⟨bs,bp⟩ (m+1)=cf7 x dk ⟨bs,bp⟩ m++[⟨nm,n1,ho⟩] from by
          unfold cf7
          rw[HGD2.out,List.take_succ_eq_append_getElem hmL,List.map_append,← hnm,HN1.out,HHO.out];rfl)
         clear hst hz hrow hR7 hRL hnm hhoe hho hal9 RI hse2
         go_wp2_with fail
         refine HBC.out.mono ?_
         rintro e w5 ⟨rfl,hD5,hM5⟩
         have HS5:=hid (HST.out.mut hM5 hD5)
         have HZ5:=hid (hM5.row HZ.out (by decide))
         clear hD5 hM5 HBC
         go_wp2
         go_roundw
         case rel =>
          refine⟨m+1,by omega,by go_num, ?_,HZ5.out⟩
          have:=HS5.out
          rw[HST2.out,← List.append_assoc]
          exact this
         case measure=>simp[intOf];omega
       ·as_aux_lemma =>
         have hme:m=m0:=by omega
         subst hme
         have hS5:GSt w ga qd qr ic pc (tb7 x dk ⟨bs,bp⟩).d vs wi:=by
          have:=hst
          unfold tb7
          simp only[]
          rw[HGD2.out,← HM1.out]
          exact this
         have HS5:=hid hS5
         have HBD:Hid ((tb7 x dk ⟨bs,bp⟩).last=n1∧(tb7 x dk ⟨bs,bp⟩).node=1+bs∧(tb7 x dk ⟨bs,bp⟩).stay=0):=hid ⟨HN1.out.symm,rfl,rfl⟩
         obtain⟨st0,hst0⟩:∃st0,st0=tb7 x dk ⟨bs,bp⟩:=⟨_,rfl⟩
         rw[← hst0]at HS5 HBD
         have HST0:=hid hst0
         have y0:=hz.cell (j:=0) (by simp)
         have y1:=hz.cell (j:=1) (by simp)
         simp only[List.getElem_cons_zero,List.getElem_cons_succ]at y0 y1
         have hz0:=hid hz
         clear hS5 hst hz HST HZ hst0
         have hl0:Value.int .i64 ((n1:Nat):Int) = .int .i64 ((st0.last:Nat):Int):=by rw[HBD.out.1]
         have hl1:Value.int .i64 (1+bs) = .int .i64 st0.node:=by rw[HBD.out.2.1]
         have hl2:Value.int .i64 0 = .int .i64 st0.stay:=by rw[HBD.out.2.2]
         have HL0:=hid hl0
         have HL1:=hid hl1
         have HL2:=hid hl2
         have hn0b:n0≤1030:=hev
         clear hl0 hl1 hl2
         go_wp2
         go_loopw [17,18,19,137] (fun lv nv sv jv wr=>∃(j:Nat) (st:StB),j≤bp.length∧jv = .int .i64 j∧st=(bp.take j).foldl (gc7 x) st0∧lv = .int .i64 ((st.last:Nat):Int)∧nv = .int .i64 st.node∧sv = .int .i64 st.stay∧GSt w ga qd qr ic pc st.d vs wr ∧
           Row wr Z 70 [.int .i64 bs,.slice (some ⟨b5,off5,none⟩) bp.length c5]) (fun _ _ _ jv _=>bp.length-(intOf jv).toNat)
         case atStart=>exact⟨0,st0,Nat.zero_le _,rfl,rfl,HL0.out,HL1.out,HL2.out,HS5.out,hz0.out⟩
         case round =>
          clear HS5 HL0 HL1 HL2 hz0 y0 y1
          obtain⟨j,st,hj,rfl,hste,rfl,rfl,rfl,hst,hz⟩:=hrel
          obtain⟨wi,rfl⟩:∃wi:World,wi=wr:=⟨_,rfl⟩
          have hsok:=lbb7 GD.out HBOK.out HDOK.out j hj
          rw[← HST0.out,← hste]at hsok
          have HSTE:=hid hste
          obtain⟨n2,hn2⟩:∃n,n=st.d.fr.length:=⟨_,rfl⟩
          have hn2b:n2≤1050:=by rw[hn2,hsok.ok.frL];omega
          have har2:st.d.arcs.length≤12400:=by have:=hsok.ok.arL;omega
          have HN2:=hid hn2
          have hnd:=hsok.nodeB
          have hsty:=hsok.stayB
          have HST:=hid hst
          have HZ:=hid hz
          clear hn2 hste hst hz hsok
          by_cases hjt:j<bp.length
          ·as_aux_lemma =>
            have hy:=ka7 (c:=c5) Tryz.underlying68 di7 (a:=some ⟨b5,off5,none⟩) rfl hjt
            have g3:=aa7 HST.out.bel (HCELL5.out j hjt)
            have hco:=HBOK.out.2.2 _ (List.getElem_mem hjt)
            have HNX:=hid (wa7 (gc7 x) st0 bp j hjt)
            rw[← HSTE.out]at HNX
            obtain⟨cu,hcu⟩:∃cu,cu=bp[j]:=⟨_,rfl⟩
            rw[← hcu]at g3 HNX
            have hco2:gg7 x cu:=by rw[hcu];exact hco
            unfold gg7 at hco2
            have hcl:cu.toNat<x.custs.length:=by omega
            obtain⟨k0,k1,k2,k3⟩:=HCELL'.out cu.toNat hcl
            have hcus:=GD.out.cust _ (List.getElem_mem hcl)
            have hcd:vd7 x cu=x.custs[cu.toNat]:=by unfold vd7;rw[List.getD_eq_getElem?_getD,List.getElem?_eq_getElem hcl];rfl
            obtain⟨cc,hcc2⟩:∃cc,cc=x.custs[cu.toNat]:=⟨_,rfl⟩
            rw[← hcc2]at k0 k1 k2 k3 hcus hcd
            obtain⟨cl,cop,ccl,cst⟩:=cc
            simp only[]at k0 k1 k2 k3 hcus
            have o1:=aa7 HST.out.bel k1
            have ic2:=vb7 (c:=c1') Tryz.underlying55 cs7 (ha' (by omega)) hcl
            rw[Int.toNat_of_nonneg hco2.1]at ic2
            have HCD:=hid hcd
            have RI:=HST.out.inst
            rw[HIC.out]at RI
            obtain⟨q0,q1,q2,q3,q4,q5,q6,q7,q8⟩:=wh7 RI
            clear hcu hco hcc2 hcd k0 k2 RI
            go_wp2_with fail
            refine (zz7 HST.out.own (by rw[← HN2.out];omega) cop).mono ?_
            rintro e w3 ⟨rfl,hD3,hM3⟩
            rw[← HN2.out]
            have HS3:=hid (HST.out.mut hM3 hD3)
            have HZ3:=hid (hM3.row HZ.out (by decide))
            clear hD3 hM3 q0 q1 q2 q3 q4 q5 q6 q7 q8 o1 g3
            have RI:=HS3.out.inst
            rw[HIC.out]at RI
            obtain⟨q0,q1,q2,q3,q4,q5,q6,q7,q8⟩:=wh7 RI
            have hB3:=HS3.out.bel
            have HINS:=hid (kb7.below HREP.out hB3)
            have hcn:(1+x.sats.length+cu).toNat<nodes x:=by unfold nodes;omega
            have hcn0:(0:Int)≤1+x.sats.length+cu:=by omega
            obtain⟨br,orr,cr,t0,tc⟩:=HTIME.out st.node.toNat (by omega)
            have t1:=aa7 hB3 t0
            have t2:=aa7 hB3 (tc (1+x.sats.length+cu).toNat hcn)
            rw[Int.toNat_of_nonneg hcn0,Int.toNat_of_nonneg hnd.1]at t2
            have it0:=ka7 (c:=c7) Tryz.underlying38 ah7 (a:=some ⟨b7,off7,none⟩) rfl (k:=st.node.toNat) (n:=nodes x) (by omega)
            rw[Int.toNat_of_nonneg hnd.1]at it0
            have it1:=ka7 (c:=cr) Tryz.underlying78 qc7 (a:=some ⟨br,orr,none⟩) rfl hcn
            rw[Int.toNat_of_nonneg hcn0]at it1
            have htb:=md7 GD.out st.node (1+x.sats.length+cu)
            obtain⟨tv,htv⟩:∃tv,tv=cb7 x st.node (1+x.sats.length+cu):=⟨_,rfl⟩
            rw[← htv]at t2 htb
            have HTV:=hid htv
            clear tc htv t0 RI
            go_wp2
            have z0:∀e:At (Old w3),_:=fun e=>e.cell q0
            have z1:∀e:At (Old w3),_:=fun e=>e.cell q1
            have z2:∀e:At (Old w3),_:=fun e=>e.cell q2
            have z3:∀e:At (Old w3),_:=fun e=>e.cell q3
            have z4:∀e:At (Old w3),_:=fun e=>e.cell q4
            have z5:∀e:At (Old w3),_:=fun e=>e.cell q5
            have z6:∀e:At (Old w3),_:=fun e=>e.cell q6
            have z7:∀e:At (Old w3),_:=fun e=>e.cell q7
            have z8:∀e:At (Old w3),_:=fun e=>e.cell q8
            have za:∀e:At (Old w3),_:=fun e=>e.cell t1
            have zb:∀e:At (Old w3),_:=fun e=>e.cell t2
            refine ma7 (Old w3) [15] [([0,1,2,3,4,5,6,7,8,9,10],11,false),([12,13],14,false),([],15,true)] (by kernel_rfl) (by kernel_rfl) (fun _ _ d _ _ h=>by cases d <;> exact h) (Old.drew _) ?_
            simp only[gd7,List.map_cons,List.map_nil,Array.getD_eq_getD_getElem?,List.getElem?_toArray,List.getElem?_cons_succ,List.getElem?_cons_zero,Option.getD_some,me7]
            repeat (go_big_quiet_step (fail))
            refine wpQuiet_nil ?_
            have hO0:=Old.drew w3
            go_wp2_with fail
            refine (vk7 (kb7.below HINS.out hO0) hsm (by omega)).mono ?_
            rintro e w4 ⟨rfl,hb4⟩
            have hO4:=hO0.step hb4
            go_wp2_with fail
            refine⟨hO4, ?_⟩
            repeat (go_big_quiet_step (fail))
            refine wpQuiet_nil ?_
            go_wp2_with fail
            refine⟨hO4,wpQuiet_nil ?_⟩
            have HS4:=hid (HS3.out.below hO4)
            have HZ4:=hid (HZ3.out.below hO4)
            go_wp2_with fail
            refine (yt7 HS4.out.own (by show st.d.arcs.length≤100000;omega) ⟨st.last,n2,st.stay+tv⟩).mono ?_
            rintro e w5 ⟨rfl,hD5,hM5⟩
            have HS5:=hid (HS4.out.mut hM5 hD5)
            have HZ5:=hid (hM5.row HZ4.out (by decide))
            clear hD5 hM5 z0 z1 z2 z3 z4 z5 z6 z7 z8 za zb q0 q1 q2 q3 q4 q5 q6 q7 q8 hO0 hO4 hb4 HINS t1 t2 it0 it1 HS4 HZ4 hB3
            have RI:=HS5.out.inst
            rw[HIC.out]at RI
            obtain⟨q0,q1,q2,q3,q4,q5,q6,q7,q8⟩:=wh7 RI
            have HINS:=hid (kb7.below HREP.out HS5.out.bel)
            have o3:=aa7 HS5.out.bel k3
            clear RI k1
            go_wp2
            have z0:∀e:At (Old w5),_:=fun e=>e.cell q0
            have z1:∀e:At (Old w5),_:=fun e=>e.cell q1
            have z2:∀e:At (Old w5),_:=fun e=>e.cell q2
            have z3:∀e:At (Old w5),_:=fun e=>e.cell q3
            have z4:∀e:At (Old w5),_:=fun e=>e.cell q4
            have z5:∀e:At (Old w5),_:=fun e=>e.cell q5
            have z6:∀e:At (Old w5),_:=fun e=>e.cell q6
            have z7:∀e:At (Old w5),_:=fun e=>e.cell q7
            have z8:∀e:At (Old w5),_:=fun e=>e.cell q8
            have za:∀e:At (Old w5),_:=fun e=>e.cell o3
            refine ma7 (Old w5) [] [([0,1,2,4,5,6,7,8,9],3,false),([10,11],12,false)] (by kernel_rfl) (by kernel_rfl) (fun _ _ d _ _ h=>by cases d <;> exact h) (Old.drew _) ?_
            simp only[gd7,List.map_cons,List.map_nil,Array.getD_eq_getD_getElem?,List.getElem?_toArray,List.getElem?_cons_succ,List.getElem?_cons_zero,Option.getD_some,me7]
            repeat (go_big_quiet_step (fail))
            refine wpQuiet_nil ?_
            have hO0:=Old.drew w5
            go_wp2_with fail
            refine (vk7 (kb7.below HINS.out hO0) hsm (by omega)).mono ?_
            rintro e w6 ⟨rfl,hb6⟩
            have hO6:=hO0.step hb6
            have HS6:=hid (HS5.out.below hO6)
            have HZ6:=hid (HZ5.out.below hO6)
            go_wp2_with fail
            refine⟨hO6, ?_⟩
            repeat (go_big_quiet_step (fail))
            refine wpQuiet_nil ?_
            go_wp2_with fail
            refine⟨hO6, ?_⟩
            go_wp2
            go_roundw
            case rel =>
             refine⟨j+1,gc7 x st cu,by omega,by go_num,by rw[HNX.out], ?_,rfl, ?_, ?_,HZ6.out⟩
             ·show _=Value.int .i64 ((st.d.fr.length:Nat):Int)
              rw[HN2.out]
             ·show _=Value.int .i64 (vd7 x cu).stay
              rw[HCD.out]
             ·have:=HS6.out
              unfold gc7
              rw[HCD.out,← HN2.out,← HTV.out]
              exact this
            case measure=>simp[intOf];omega
          ·as_aux_lemma =>
            have hje:j=bp.length:=by omega
            subst hje
            have HE:=hid (show (p.bikes.take (k+1)).foldl (we7 x) D0=jp7 x st ⟨bs,bp⟩ from by rw[HFT.out];unfold we7;rw[← HST0.out,HSTE.out,List.take_length])
            have hB3:=HST.out.bel
            have hcn:(1+bs).toNat<nodes x:=by unfold nodes;omega
            have hcn0:(0:Int)≤1+bs:=by omega
            obtain⟨br,orr,cr,t0,tc⟩:=HTIME.out st.node.toNat (by omega)
            have t2:=tc (1+bs).toNat hcn
            rw[Int.toNat_of_nonneg hcn0,Int.toNat_of_nonneg hnd.1]at t2
            have it0:=ka7 (c:=c7) Tryz.underlying38 ah7 (a:=some ⟨b7,off7,none⟩) rfl (k:=st.node.toNat) (n:=nodes x) (by omega)
            rw[Int.toNat_of_nonneg hnd.1]at it0
            have it1:=ka7 (c:=cr) Tryz.underlying78 qc7 (a:=some ⟨br,orr,none⟩) rfl hcn
            rw[Int.toNat_of_nonneg hcn0]at it1
            have htb:=md7 GD.out st.node (1+bs)
            obtain⟨tv,htv⟩:∃tv,tv=cb7 x st.node (1+bs):=⟨_,rfl⟩
            rw[← htv]at t2 htb
            have HTV:=hid htv
            have RI:=HST.out.inst
            rw[HIC.out]at RI
            clear tc htv
            go_wp2
            have z0:∀e:At (Mut dts (w.heap.size+3) wi),_:=fun e=>Mut.cell (j:=0) e.ok RI (by decide) rfl
            have z1:∀e:At (Mut dts (w.heap.size+3) wi),_:=fun e=>Mut.cell (j:=1) e.ok RI (by decide) rfl
            have z2:∀e:At (Mut dts (w.heap.size+3) wi),_:=fun e=>Mut.cell (j:=2) e.ok RI (by decide) rfl
            have z3:∀e:At (Mut dts (w.heap.size+3) wi),_:=fun e=>Mut.cell (j:=3) e.ok RI (by decide) rfl
            have z4:∀e:At (Mut dts (w.heap.size+3) wi),_:=fun e=>Mut.cell (j:=4) e.ok RI (by decide) rfl
            have z5:∀e:At (Mut dts (w.heap.size+3) wi),_:=fun e=>Mut.cell (j:=5) e.ok RI (by decide) rfl
            have z6:∀e:At (Mut dts (w.heap.size+3) wi),_:=fun e=>Mut.cell (j:=6) e.ok RI (by decide) rfl
            have z7:∀e:At (Mut dts (w.heap.size+3) wi),_:=fun e=>Mut.cell (j:=7) e.ok RI (by decide) rfl
            have z8:∀e:At (Mut dts (w.heap.size+3) wi),_:=fun e=>Mut.cell (j:=8) e.ok RI (by decide) rfl
            have z9:∀e:At (Mut dts (w.heap.size+3) wi),_:=fun e=>Mut.cell (j:=0) e.ok HZ.out (by decide) rfl
            have za:∀e:At (Mut dts (w.heap.size+3) wi),_:=fun e=>aa7 (hB3.trans (e.ok.bel.mono (by omega))) t0
            have zb:∀e:At (Mut dts (w.heap.size+3) wi),_:=fun e=>aa7 (hB3.trans (e.ok.bel.mono (by omega))) t2
            refine ma7 (Mut dts (w.heap.size+3) wi) [17] [([0,1,2,4,5,6,7,8,9,10,11,12],3,false),([],13,false),([14,15],16,false),([],17,true)] (by kernel_rfl) (by kernel_rfl) (fun _ _ d _ _ h=>by cases d <;> exact h) (Mut.refl _ _ _).drew ?_
            simp only[gd7,List.map_cons,List.map_nil,Array.getD_eq_getD_getElem?,List.getElem?_toArray,List.getElem?_cons_succ,List.getElem?_cons_zero,Option.getD_some,me7]
            repeat (go_big_quiet_step (fail))
            refine wpQuiet_nil ?_
            go_wp2_with fail
            have hSd:GSt w ga qd qr ic pc st.d vs wi.drew:=HST.out.below (Below.refl _ _).drew
            refine (zz7 hSd.own (by rw[← HN2.out];omega) 0).mono ?_
            rintro e w2 ⟨rfl,hD2,hM2⟩
            rw[← HN2.out]
            have HS2:=hid (hSd.mut hM2 hD2)
            have hMM:=(Mut.refl dts (w.heap.size+3) wi).drew.trans hM2
            clear hD2 hM2 hSd
            go_wp2_with fail
            refine⟨hMM,wpQuiet_nil ?_⟩
            go_wp2_with fail
            refine (ve7 (kb7.below HREP.out HS2.out.bel) (by omega)).mono ?_
            rintro e w3 ⟨rfl,hb3⟩
            have HS3:=hid (HS2.out.below hb3)
            have hMM3:=hMM.trans (Mut.below hb3 (by have:=HS2.out.own.le;omega))
            go_wp2_with fail
            refine⟨hMM3, ?_⟩
            repeat (go_big_quiet_step (fail))
            refine wpQuiet_nil ?_
            go_wp2_with fail
            refine⟨hMM3,wpQuiet_nil ?_⟩
            go_wp2_with fail
            refine (yt7 HS3.out.own (by show st.d.arcs.length≤100000;omega) ⟨st.last,n2,st.stay+tv⟩).mono ?_
            rintro e w5 ⟨rfl,hD5,hM5⟩
            have HS5:=hid (HS3.out.mut hM5 hD5)
            clear hD5 hM5 hMM hMM3 hb3 RI
            go_wp2
            go_roundw
            case rel =>
             refine⟨k+1,by omega,by go_num, ?_⟩
             rw[HE.out]
             have:=HS5.out
             unfold jp7
             rw[← HN2.out,← HTV.out]
             exact this
            case measure=>simp[intOf];omega
    ·have hke:k=p.bikes.length:=by omega
     subst hke
     as_aux_lemma =>
      have hD:(p.bikes.take p.bikes.length).foldl (we7 x) D0=zf7 x p:=by rw[List.take_length,HDA.out]
      rw[hD]at HST
      obtain⟨aa,ca,af,cf,RD,O1,O2,hq⟩:=HST.out.own
      have R:=HST.out.res
      have r0:=R.cell (j:=0) (by simp)
      have r1:=R.cell (j:=1) (by simp)
      have f0:=R.frozen 0
      have f1:=R.frozen 1
      simp only[List.getElem_cons_zero,List.getElem_cons_succ]at r0 r1
      obtain⟨N,hN⟩:∃N,N=(zf7 x p).fr.length:=⟨_,rfl⟩
      obtain⟨A,hA⟩:∃A,A=(zf7 x p).arcs.length:=⟨_,rfl⟩
      rw[← hN,← hA]at RD
      have hwr:w.heap.size≤qr:=HST.out.resB
      have R1:=R.set (j:=0) (by simp) (.int .i64 (N:Int))
      have r1':=R1.cell (j:=1) (by simp)
      have f1':=R1.frozen 1
      simp only[List.set_cons_zero,List.getElem_cons_zero,List.getElem_cons_succ]at r1'
      have R2:=R1.set (j:=1) (by simp) (.slice aa A ca)
      have rc0:=R2.cell (j:=0) (by simp)
      have rc1:=R2.cell (j:=1) (by simp)
      simp only[List.set_cons_zero,List.set_cons_succ,List.getElem_cons_zero,List.getElem_cons_succ]at rc0 rc1
      have HM:=hid ((Mut.set (ts:=[243]) R (by decide) hwr 0 (.int .i64 (N:Int))).trans (Mut.set R1 (by decide) hwr 1 (.slice aa A ca)))
      have HO1:=hid (la7 (la7 O1 R (by decide) 0 (.int .i64 (N:Int))) R1 (by decide) 1 (.slice aa A ca))
      have HO2:=hid (la7 (la7 O2 R (by decide) 0 (.int .i64 (N:Int))) R1 (by decide) 1 (.slice aa A ca))
      have HBB:=hid ((HST.out.bel.setCell (p:=⟨qr,0,none⟩) hwr (.int .i64 (N:Int))).setCell (p:=⟨qr,1,none⟩) hwr (.slice aa A ca))
      have HN:=hid hN
      have HA:=hid hA
      have z0:∀e:At (Mut [243] w.heap.size wo),_:=fun e=>Mut.cell (j:=0) e.ok RD (by decide) rfl
      have z1:∀e:At (Mut [243] w.heap.size wo),_:=fun e=>Mut.cell (j:=1) e.ok RD (by decide) rfl
      have z2:∀e:At (Mut [243] w.heap.size wo),_:=fun e=>Mut.cell (j:=2) e.ok RD (by decide) rfl
      clear hN hA R R1 R2 O1 O2 hD hq
      go_wp2
      refine ma7 (Mut [243] w.heap.size wo) [9] [([0,1,2,3,4,5,6,7],8,false),([],9,true)] (by kernel_rfl) (by kernel_rfl) (fun _ _ d _ _ h=>by cases d <;> exact h) (Mut.refl _ _ _).drew ?_
      simp only[gd7,List.map_cons,List.map_nil,Array.getD_eq_getD_getElem?,List.getElem?_toArray,List.getElem?_cons_succ,List.getElem?_cons_zero,Option.getD_some,me7]
      repeat (go_big_quiet_step (fail))
      refine wpQuiet_nil ?_
      go_wp2_with fail
      refine⟨HM.out.drew,wpQuiet_nil ?_⟩
      go_wp2
      refine bodyPost_ret (v:=.tuple #[.agg #[.int .i64 (N:Int),.slice aa A ca],.slice af N cf]) (by simp[results,Tryz.results146,go_sem,rc0,rc1]) rfl ⟨aa,ca,af,cf,by rw[← HN.out,← HA.out], ?_, ?_,HBB.out.drew⟩
      ·exact mc7 HO1.out (by omega)
      ·exact mc7 HO2.out (by omega)
end Go.Proofs.YtabadfkikdefeaaGreat
