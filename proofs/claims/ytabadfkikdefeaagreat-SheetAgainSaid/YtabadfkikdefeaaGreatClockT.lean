/- clock.truck: what it answers, and when satellites are ready behind it. -/
import Derived.Test.YtabadfkikdefeaaGreatP5
set_option linter.all false
set_option maxRecDepth 100000
set_option maxHeartbeats 6400000
namespace Go.Proofs.YtabadfkikdefeaaGreat
open Go.RowKit
def rts:List TypeId:=[2]
structure eec7 (x:ba7) (st:TkS):Prop where
 now:0≤st.now∧st.now≤x.fin
 node:0≤st.node∧st.node<nodes x
 len:st.ready.length=x.sats.length
 rdy:∀v∈st.ready,0≤v∧v≤2000000000
theorem eec7.get {x:ba7}{st:TkS}(h:eec7 x st) (i:Nat):0≤st.ready.getD i 0∧st.ready.getD i 0≤2000000000:=by
 rw[List.getD_eq_getElem?_getD]
 by_cases hi:i<st.ready.length
 ·rw[List.getElem?_eq_getElem hi];exact h.rdy _ (List.getElem_mem hi)
 ·rw[List.getElem?_eq_none (by omega)];simp
theorem eec7.step {x:ba7}(gd:Good x) {st st':TkS}{s:ea7}{v:Int}(h:eec7 x st) (hs:de7 x s) (he:dgb7 x st s v=some st'):eec7 x st':=by
 unfold dgb7 sx7 at he
 split at he
 ·rename_i hb
  cases he
  simp only[Bool.and_eq_true,decide_eq_true_eq]at hb
  have h1:=md7 gd st.node (1+s.sat)
  have h2:=tu7 gd s.sat
  have h3:=h.get s.sat.toNat
  have h4:=h.now
  have h5:=gd.fin
  have h6:=hs.1
  refine⟨by show 0≤v∧v≤x.fin;omega,by show 0≤1+s.sat∧1+s.sat<(nodes x:Int);unfold nodes;omega,by rw[List.length_set];exact h.len,fun u hu=>?_⟩
  rcases List.mem_or_eq_of_mem_set hu with hu | rfl
  ·exact h.rdy u hu
  ·omega
 ·cases he
theorem nr7 {x:ba7}(gd:Good x) {t:List ea7}{l ready:List Int}(ht:∀s∈t,de7 x s) (hl:ready.length=x.sats.length) (hr:∀v∈ready,0≤v∧v≤2000000000):∀j,j≤t.length→∀st,eh7 x t l ready j=some st→eec7 x st
 | 0,_,st,h=>by
  cases h
  exact⟨⟨Int.le_refl _,gd.fin.1⟩,⟨Int.le_refl _,by show (0:Int)<(nodes x:Int);unfold nodes;omega⟩,hl,hr⟩
 | j+1,hj,st,h=>by
  simp only[eh7]at h
  cases hk:eh7 x t l ready j with
  | none=>rw[hk]at h;cases h
  | some q =>
   rw[hk,Option.bind_some,List.getD_eq_getElem?_getD,List.getElem?_eq_getElem (show j<t.length by omega)]at h
   exact (nr7 gd ht hl hr j (by omega) q hk).step gd (ht _ (List.getElem_mem _)) h
theorem vqb7 {x:ba7}(gd:Good x) {t:List ea7}{l ready r:List Int}(ht:∀s∈t,de7 x s) (hl:ready.length=x.sats.length) (hr:∀v∈ready,0≤v∧v≤2000000000) (h:lo7 x t l ready=some r):r.length=x.sats.length∧∀v∈r,0≤v∧v≤2000000000:=by
 unfold lo7 at h
 cases hk:eh7 x t l ready t.length with
 | none=>rw[hk]at h;cases h
 | some q =>
  have ho:=nr7 gd ht hl hr _ (Nat.le_refl _) q hk
  rw[hk,Option.bind_some]at h
  split at h
  ·cases h;exact⟨ho.len,ho.rdy⟩
  ·cases h
structure KSt (w0:World) (B qi qt gr:Nat) (ic tc:List Value) (ready:List Int) (w:World):Prop where
 inst:Row w qi 57 ic
 trk:Row w qt 124 tc
 res:Row w gr 2 (ready.map ib7)
 mu:Mut rts B w0 w
 gB:B≤gr
section
variable {w0 w w':World} {B qi qt gr:Nat} {ic tc:List Value} {ready:List Int}
theorem KSt.le (h:KSt w0 B qi qt gr ic tc ready w):B≤w.heap.size:=by have:=h.res.lt;have:=h.gB;omega
theorem KSt.below (h:KSt w0 B qi qt gr ic tc ready w) (hb:Below w.heap.size w w'):KSt w0 B qi qt gr ic tc ready w' :=
 ⟨h.inst.below hb,h.trk.below hb,h.res.below hb,h.mu.trans (Mut.below hb h.le),h.gB⟩
theorem KSt.set (h:KSt w0 B qi qt gr ic tc ready w) {j:Nat}(hj:j<ready.length) (v:Int):KSt w0 B qi qt gr ic tc (ready.set j v) (w.setCell ⟨gr,j,none⟩ (.int .i64 v)):=by
 have hr:=h.res.set (j:=j) (by rw[List.length_map];exact hj) (ib7 v)
 rw[← List.map_set]at hr
 have hm:=Mut.set (ts:=rts) h.res (by decide) h.gB j (ib7 v)
 exact⟨hm.row h.inst (by decide),hm.row h.trk (by decide),hr,h.mu.trans hm,h.gB⟩
theorem KSt.start {w:World}(hr:Row w gr 2 (ready.map ib7)) (hg:B≤gr) (ic tc:List Value) :
  KSt w B w.heap.size (w.heap.size+1) gr ic tc ready ((w.alloc (.cells ic.toArray 57)).alloc (.cells tc.toArray 124)):=by
 have h0:=FSt.start w 57 124 ic tc
 have hl:=hr.lt
 exact⟨h0.one,h0.two,hr.below h0.bel,Mut.below h0.bel (by omega),hg⟩
end
theorem cdc7 {w0 w:World}{F G H:Nat→Prop}{x:ba7}{t:List ea7}{l ready:List Int}{cs:List Value}{tv lv:Value}{gr:Nat}(h:kb7.rep w0 F x cs) (hb:Below w0.heap.size w0 w) (gd:Good x) (ht:(ia7 oe7).rep w0 G t [tv]) (htok:∀s∈t,de7 x s) (htl:t.length≤60)
  (hl:(ia7 hf7).rep w0 H l [lv]) (hll:l.length=t.length) (hr:Row w gr 2 (ready.map ib7)) (hrl:ready.length=x.sats.length) (hrB:∀v∈ready,0≤v∧v≤2000000000) (hg:w0.heap.size≤gr) :
  Calls Tryz.prog 173 #[.agg cs.toArray,.agg #[tv],lv,.slice (some ⟨gr,0,none⟩) x.sats.length x.sats.length] w fun e w'=>Mut rts w0.heap.size w w'∧((∃r,lo7 x t l ready=some r∧e = .returned (.bool true)∧Row w' gr 2 (r.map ib7))∨(lo7 x t l ready=none∧e = .returned (.bool false))):=by
 have hrep:=h
 obtain⟨s,c,co,ti,rfl,-,h1,-,-,h7⟩:=h
 obtain⟨a,b,off,c1,hs,hlc,hc,ha,-,hcell,-⟩:=td7 h1
 obtain rfl:=List.cons.inj hs |>.1
 obtain⟨b7,off7,c7,hs7,htime⟩:=tv7 h7 gd
 obtain rfl:=List.cons.inj hs7 |>.1
 obtain⟨a3,b3,off3,c3,hs3,hl3,hc3,ha3,-,hcell3,-⟩:=sd7 ht
 obtain rfl:=List.cons.inj hs3 |>.1
 obtain⟨a5,b5,off5,c5,hs5,hl5,hc5,ha5,-,hcell5,-⟩:=bb7 hl
 obtain rfl:=List.cons.inj hs5 |>.1
 rw[hll]at hl5 ha5
 have HCELL:=hid hcell
 have HTIME:=hid htime
 have HCELL3:=hid hcell3
 have HCELL5:=hid hcell5
 have HREP:=hid hrep
 have HTOK:=hid htok
 have HB0:=hid hb
 have HLL:=hid hll
 have hss:=gd.sats
 have hff:=gd.fin
 have HUP:=hid (fun j hj st hs=>nr7 (l:=l) gd htok hrl hrB j hj st hs)
 have HG:=hid hg
 rw[hll]
 obtain⟨ic,hic⟩:∃ic:List Value,ic=[.int .i64 x.fin,.int .i64 x.tmany,.int .i64 x.troom,.int .i64 x.bmany,.int .i64 x.broom,.slice a x.sats.length c1,c,co,.slice (some ⟨b7,off7,none⟩) (nodes x) c7]:=⟨_,rfl⟩
 have hs0:=KSt.start hr hg ic [.slice a3 t.length c3]
 rw[hic]at hs0
 go_enter Tryz.func173,Tryz.ntmps173
 go_upto_region 1 with fail
 generalize (w.alloc (.cells #[.int .i64 x.fin,.int .i64 x.tmany,.int .i64 x.troom,.int .i64 x.bmany,.int .i64 x.broom,.slice a x.sats.length c1,c,co,.slice (some ⟨b7,off7,none⟩) (nodes x) c7] 57)).alloc (.cells #[.slice a3 t.length c3] 124)=wz at hs0 ⊢
 obtain⟨qi,hqi⟩:∃q,q=w.heap.size:=⟨_,rfl⟩
 obtain⟨qt,hqt⟩:∃q,q=w.heap.size+1:=⟨_,rfl⟩
 rw[← hic,← hqi]at hs0
 rw[← hqi]at hqt
 rw[← hqt]at hs0
 rw[← hqi,← hqt]
 have HS0:=hid hs0
 have HIC:=hid hic
 have GD:=hid gd
 have p0:=hs0.trk.cell (j:=0) (by simp)
 simp only[List.getElem_cons_zero]at p0
 clear hs hs7 hs3 hs5 h1 h7 ht hl hcell htime hcell3 hcell5 hrep htok hb hll hs0 hic hqi hqt hr hrB hg gd
 go_wp2
 go_loopw [9,10,16] (fun nv dv kv wr=>∃(k:Nat) (st:TkS),k≤t.length∧kv = .int .i64 k∧eh7 x t l ready k=some st∧nv = .int .i64 st.now∧dv = .int .i64 st.node∧KSt w w0.heap.size qi qt gr ic [.slice a3 t.length c3] st.ready wr) (fun _ _ kv _=>t.length-(intOf kv).toNat)
 case atStart=>exact⟨0,_,Nat.zero_le _,rfl,rfl,rfl,rfl,HS0.out⟩
 case round =>
  clear p0 HS0
  obtain⟨k,st,hk,rfl,hup,rfl,rfl,hst⟩:=hrel
  obtain⟨wo,rfl⟩:∃wo:World,wo=wr:=⟨_,rfl⟩
  have HST:=hid hst
  have hok:=HUP.out k hk st hup
  have HUPK:=hid hup
  have hbw:=HB0.out.trans hst.mu.bel
  have RI:=hst.inst
  rw[HIC.out]at RI
  by_cases hlt:k<t.length
  ·
   as_aux_lemma =>
    have hy:=vb7 (c:=c3) Tryz.underlying122 vo7 (ha3 (by omega)) hlt
    have hyl:=ka7 (c:=c5) Tryz.underlying78 qc7 (ha5 (by omega)) hlt
    have hss:=HTOK.out _ (List.getElem_mem hlt)
    have g3:=aa7 hbw (HCELL3.out k hlt).1
    have g4:=aa7 hbw (HCELL3.out k hlt).2
    have hll:k<l.length:=by rw[HLL.out];exact hlt
    have HGL:=hid (HCELL5.out k hll)
    have HNX:=hid (show eh7 x t l ready (k+1)=dgb7 x st t[k] l[k] from by
     simp only[eh7]
     rw[hup,Option.bind_some,List.getD_eq_getElem?_getD,List.getD_eq_getElem?_getD,List.getElem?_eq_getElem hlt,List.getElem?_eq_getElem hll];rfl)
    obtain⟨so,hso⟩:∃so,so=t[k]:=⟨_,rfl⟩
    obtain⟨lk,hlk⟩:∃v,v=l[k]:=⟨_,rfl⟩
    rw[← hso]at g3 g4 hss
    rw[← hso,← hlk]at HNX
    rw[← hlk]at HGL
    obtain⟨sa,lo⟩:=so
    simp only[]at g3 g4
    unfold de7 at hss
    simp only[]at hss
    obtain⟨hsat,-⟩:=hss
    have hal:Below wo.heap.size wo (wo.alloc (.cells #[.int .i64 sa,.int .i64 lo] 121)):=(Below.refl _ _).alloc (Nat.le_refl _) _
    have HS1:=hid (HST.out.below hal)
    have HP1:=hid (Row.new (w:=wo) (g:=wo.heap.size) (e:=121) (cs:=[.int .i64 sa,.int .i64 lo]) rfl)
    obtain⟨X,hX⟩:∃X,X=wo.heap.size:=⟨_,rfl⟩
    rw[← hX]at HP1
    have hnow:=hok.now
    have hnd:=hok.node
    have hlen:=hok.len
    have HOK:=hid hok
    clear hso hlk hst hup hal hok HST RI hbw
    go_upto_region 5 with fail
    rw[← hX]
    generalize wo.alloc (.cells #[.int .i64 sa,.int .i64 lo] 121)=w1 at HS1 HP1 ⊢
    clear hX g3 g4
    have hcn:(1+sa).toNat<nodes x:=by unfold nodes;omega
    have hcn0:(0:Int)≤1+sa:=by omega
    have hB1:=HB0.out.trans HS1.out.mu.bel
    have HINS:=hid (kb7.below HREP.out hB1)
    have RI:=HS1.out.inst
    rw[HIC.out]at RI
    obtain⟨q0,q1,q2,q3,q4,q5,q6,q7,q8⟩:=wh7 RI
    have y0:=HP1.out.cell (j:=0) (by simp)
    simp only[List.getElem_cons_zero]at y0
    have gl:=aa7 hB1 HGL.out
    obtain⟨br,orr,cr,t0,tc⟩:=HTIME.out st.node.toNat (by omega)
    have t1:=aa7 hB1 t0
    have t2:=aa7 hB1 (tc (1+sa).toNat hcn)
    rw[Int.toNat_of_nonneg hcn0,Int.toNat_of_nonneg hnd.1]at t2
    have it0:=ka7 (c:=c7) Tryz.underlying38 ah7 (a:=some ⟨b7,off7,none⟩) rfl (k:=st.node.toNat) (n:=nodes x) (by omega)
    rw[Int.toNat_of_nonneg hnd.1]at it0
    have it1:=ka7 (c:=cr) Tryz.underlying78 qc7 (a:=some ⟨br,orr,none⟩) rfl hcn
    rw[Int.toNat_of_nonneg hcn0]at it1
    have htvb:=md7 GD.out st.node (1+sa)
    obtain⟨tv,htv⟩:∃tv,tv=cb7 x st.node (1+sa):=⟨_,rfl⟩
    rw[← htv]at t2 htvb
    have HTV:=hid htv
    clear tc htv t0 RI
    go_wp2
    have z0:∀e:At (Old w1),_:=fun e=>e.cell q0
    have z1:∀e:At (Old w1),_:=fun e=>e.cell q1
    have z2:∀e:At (Old w1),_:=fun e=>e.cell q2
    have z3:∀e:At (Old w1),_:=fun e=>e.cell q3
    have z4:∀e:At (Old w1),_:=fun e=>e.cell q4
    have z5:∀e:At (Old w1),_:=fun e=>e.cell q5
    have z6:∀e:At (Old w1),_:=fun e=>e.cell q6
    have z7:∀e:At (Old w1),_:=fun e=>e.cell q7
    have z8:∀e:At (Old w1),_:=fun e=>e.cell q8
    have za:∀e:At (Old w1),_:=fun e=>e.cell t1
    have zb:∀e:At (Old w1),_:=fun e=>e.cell t2
    have zc:∀e:At (Old w1),_:=fun e=>e.cell y0
    have zd:∀e:At (Old w1),_:=fun e=>e.cell gl
    refine ma7 (Old w1) [20] [([0,1,2,3,4,5,6,7,8,9,10,11,12,17,18],13,false),([14,15,16],19,false),([],20,true)] (by kernel_rfl) (by kernel_rfl) (fun _ _ d _ _ h=>by cases d <;> exact h) (Old.drew _) ?_
    simp only[gd7,List.map_cons,List.map_nil,Array.getD_eq_getD_getElem?,List.getElem?_toArray,List.getElem?_cons_succ,List.getElem?_cons_zero,Option.getD_some,me7]
    repeat (go_big_quiet_step (fail))
    refine wpQuiet_nil ?_
    have hO0:=Old.drew w1
    go_wp2_with fail
    refine (ve7 (kb7.below HINS.out hO0) (by omega)).mono ?_
    rintro e w2 ⟨rfl,hb2⟩
    have hO2:=hO0.step hb2
    go_wp2_with fail
    refine⟨hO2, ?_⟩
    repeat (go_big_quiet_step (fail))
    refine wpQuiet_nil ?_
    go_wp2_with fail
    refine (pp7 _ _ _).mono ?_
    rintro e w3 ⟨rfl,hb3⟩
    have hO3:=hO2.step hb3
    have HTK:=hid (show ∀bv,bv=sx7 lk (st.now+tv) x.fin→dgb7 x st ⟨sa,lo⟩ lk=if bv=true then some ⟨lk,1+sa,st.ready.set sa.toNat (max (st.ready.getD sa.toNat 0) (lk+qf7 x sa))⟩ else none from fun bv hbv=>by rw[hbv,HTV.out];rfl)
    have HLKB:=hid (show sx7 lk (st.now+tv) x.fin=true→0≤lk∧lk≤x.fin from fun h=>by
     simp only[sx7,Bool.and_eq_true,decide_eq_true_eq]at h;omega)
    obtain⟨bv,hbv⟩:∃bv,bv=sx7 lk (st.now+tv) x.fin:=⟨_,rfl⟩
    rw[← hbv]at HLKB ⊢
    have HT2:=hid (HTK.out bv hbv)
    have HS3:=hid (HS1.out.below hO3)
    have HP3:=hid (HP1.out.below hO3)
    clear HTK hbv HS1 HP1 q0 q1 q2 q3 q4 q5 q6 q7 q8 y0 gl t1 t2 it0 it1 z0 z1 z2 z3 z4 z5 z6 z7 z8 za zb zc zd HINS hB1 hO0 hO2 hb2 hb3
    go_wp2_with fail
    refine⟨hO3,wpQuiet_nil ?_⟩
    cases bv
    ·as_aux_lemma =>
      have hn:eh7 x t l ready (k+1)=none:=by rw[HNX.out,HT2.out];rfl
      have hf:=et7 hn (t.length-(k+1))
      rw[show k+1+(t.length-(k+1))=t.length by omega]at hf
      have HN:=hid (show lo7 x t l ready=none from by unfold lo7;rw[hf];rfl)
      clear hn hf
      go_wp2
      go_ret
      exact⟨HS3.out.mu,.inr ⟨HN.out,rfl⟩⟩
    ·as_aux_lemma =>
      go_upto_region 7 with fail
      have hB3:=HB0.out.trans HS3.out.mu.bel
      have HINS:=hid (kb7.below HREP.out hB3)
      have RI:=HS3.out.inst
      rw[HIC.out]at RI
      obtain⟨q0,q1,q2,q3,q4,q5,q6,q7,q8⟩:=wh7 RI
      have y0:=HP3.out.cell (j:=0) (by simp)
      simp only[List.getElem_cons_zero]at y0
      have gl:=aa7 hB3 HGL.out
      clear RI
      go_wp2
      have z0:∀e:At (Old w3),_:=fun e=>e.cell q0
      have z1:∀e:At (Old w3),_:=fun e=>e.cell q1
      have z2:∀e:At (Old w3),_:=fun e=>e.cell q2
      have z3:∀e:At (Old w3),_:=fun e=>e.cell q3
      have z4:∀e:At (Old w3),_:=fun e=>e.cell q4
      have z5:∀e:At (Old w3),_:=fun e=>e.cell q5
      have z6:∀e:At (Old w3),_:=fun e=>e.cell q6
      have z7:∀e:At (Old w3),_:=fun e=>e.cell q7
      have z8:∀e:At (Old w3),_:=fun e=>e.cell q8
      have zc:∀e:At (Old w3),_:=fun e=>e.cell y0
      have zd:∀e:At (Old w3),_:=fun e=>e.cell gl
      refine ma7 (Old w3) [9] [([0,1,2,3,4,5,6],7,false),([],8,false),([],9,true)] (by kernel_rfl) (by kernel_rfl) (fun _ _ d _ _ h=>by cases d <;> exact h) (Old.drew _) ?_
      simp only[gd7,List.map_cons,List.map_nil,Array.getD_eq_getD_getElem?,List.getElem?_toArray,List.getElem?_cons_succ,List.getElem?_cons_zero,Option.getD_some,me7]
      repeat (go_big_quiet_step (fail))
      refine wpQuiet_nil ?_
      have hO0:=Old.drew w3
      go_wp2_with fail
      refine (ve7 (kb7.below HINS.out hO0) (by omega)).mono ?_
      rintro e w4 ⟨rfl,hb4⟩
      have hO4:=hO0.step hb4
      have HS4:=hid (HS3.out.below hO4)
      have HP4:=hid (HP3.out.below hO4)
      go_wp2_with fail
      refine⟨hO4,wpQuiet_nil ?_⟩
      go_wp2_with fail
      refine⟨hO4,wpQuiet_nil ?_⟩
      clear HS3 HP3 q0 q1 q2 q3 q4 q5 q6 q7 q8 y0 gl z0 z1 z2 z3 z4 z5 z6 z7 z8 zc zd HINS hO0 hb4 hB3 hO4
      go_upto_region 8 with fail
      have hB4:=HB0.out.trans HS4.out.mu.bel
      have RI:=HS4.out.inst
      rw[HIC.out]at RI
      obtain⟨q0,q1,q2,q3,q4,q5,q6,q7,q8⟩:=wh7 RI
      have y0:=HP4.out.cell (j:=0) (by simp)
      simp only[List.getElem_cons_zero]at y0
      have hsr:sa.toNat<x.sats.length:=by omega
      have gh:=aa7 hB4 (HCELL.out sa.toNat hsr).2
      have ih:=vb7 (c:=c1) Tryz.underlying54 xdb7 (ha (by omega)) hsr
      have ir:=ka7 (c:=x.sats.length) Tryz.underlying78 qc7 (a:=some ⟨gr,0,none⟩) rfl hsr
      rw[Int.toNat_of_nonneg hsat.1]at ih
      rw[Int.toNat_of_nonneg hsat.1,Nat.zero_add]at ir
      have hrd:sa.toNat<st.ready.length:=by omega
      have cr4:=HS4.out.res.cell (j:=sa.toNat) (by rw[List.length_map];exact hrd)
      rw[List.getElem_map]at cr4
      have fr4:=HS4.out.res.frozen sa.toNat
      have hhb:=tu7 GD.out sa
      have hhe:qf7 x sa=(x.sats[sa.toNat]'hsr).hold:=by
       unfold qf7
       rw[List.getD_eq_getElem?_getD,List.getElem?_eq_getElem hsr];rfl
      rw[← hhe]at gh
      have hrb:=HOK.out.get sa.toNat
      have hre:st.ready.getD sa.toNat 0=st.ready[sa.toNat]'hrd:=by rw[List.getD_eq_getElem?_getD,List.getElem?_eq_getElem hrd];rfl
      rw[← hre]at cr4
      obtain⟨rv,hrv⟩:∃v,v=st.ready.getD sa.toNat 0:=⟨_,rfl⟩
      obtain⟨hv,hhv⟩:∃v,v=qf7 x sa:=⟨_,rfl⟩
      rw[← hrv,← hhv]at HT2
      rw[← hrv]at cr4 hrb
      rw[← hhv]at gh hhb
      unfold ib7 at cr4
      have hlkb:=HLKB.out trivial
      clear RI hhe hre hrv hhv
      go_wp2
      have z0:∀e:At (Old w4),_:=fun e=>e.cell q0
      have z1:∀e:At (Old w4),_:=fun e=>e.cell q1
      have z2:∀e:At (Old w4),_:=fun e=>e.cell q2
      have z3:∀e:At (Old w4),_:=fun e=>e.cell q3
      have z4:∀e:At (Old w4),_:=fun e=>e.cell q4
      have z5:∀e:At (Old w4),_:=fun e=>e.cell q5
      have z6:∀e:At (Old w4),_:=fun e=>e.cell q6
      have z7:∀e:At (Old w4),_:=fun e=>e.cell q7
      have z8:∀e:At (Old w4),_:=fun e=>e.cell q8
      have za:∀e:At (Old w4),_:=fun e=>e.cell gh
      have zb:∀e:At (Old w4),_:=fun e=>e.cell cr4
      have zc:∀e:At (Old w4),_:=fun e=>e.cell y0
      refine ma7 (Old w4) [19] [([0,1,2,3,4,5,6,7,8,9,10,11,12,13,14,15,16],17,false),([],18,false),([],19,true)] (by kernel_rfl) (by kernel_rfl) (fun _ _ d _ _ h=>by cases d <;> exact h) (Old.drew _) ?_
      simp only[gd7,List.map_cons,List.map_nil,Array.getD_eq_getD_getElem?,List.getElem?_toArray,List.getElem?_cons_succ,List.getElem?_cons_zero,Option.getD_some,me7]
      repeat (go_big_quiet_step (fail))
      refine wpQuiet_nil ?_
      go_wp2_with fail
      refine⟨Old.drew _,wpQuiet_nil ?_⟩
      go_wp2_with fail
      refine⟨Old.drew _,wpQuiet_nil ?_⟩
      go_wp2
      go_roundw
      case rel =>
       have HS5:=(HS4.out.below (Old.drew w4)).set hrd (max rv (lk+hv))
       exact⟨k+1,⟨lk,1+sa,st.ready.set sa.toNat (max rv (lk+hv))⟩,by omega,by go_num,by rw[HNX.out,HT2.out];rfl,rfl,rfl,HS5⟩
      case measure=>simp[intOf];omega
  ·as_aux_lemma =>
    obtain rfl:k=t.length:=by omega
    have hnow:=hok.now
    have hnd:=hok.node
    obtain⟨q0,q1,q2,q3,q4,q5,q6,q7,q8⟩:=wh7 RI
    have hn0:0<nodes x:=by unfold nodes;omega
    obtain⟨br,orr,cr,t0,tc⟩:=HTIME.out st.node.toNat (by omega)
    have t1:=aa7 hbw t0
    have t2:=aa7 hbw (tc 0 hn0)
    rw[Int.toNat_of_nonneg hnd.1]at t2
    have it0:=ka7 (c:=c7) Tryz.underlying38 ah7 (a:=some ⟨b7,off7,none⟩) rfl (k:=st.node.toNat) (n:=nodes x) (by omega)
    rw[Int.toNat_of_nonneg hnd.1]at it0
    have it1:∀w,(Instr.indexAt 78 (.slice (some ⟨br,orr,none⟩) (nodes x) cr) (.int .i64 0)).run Tryz.prog w = .ok (.pointer (some ⟨br,orr,none⟩)) w:=fun w=>by
     have:=ka7 (c:=cr) Tryz.underlying78 qc7 (a:=some ⟨br,orr,none⟩) rfl (k:=0) (n:=nodes x) hn0 w
     simpa using this
    rw[Nat.add_zero]at t2
    have htvb:=md7 GD.out st.node 0
    have e0:((0:Nat):Int)=0:=rfl
    rw[e0]at t2
    obtain⟨tv,htv⟩:∃tv,tv=cb7 x st.node 0:=⟨_,rfl⟩
    rw[← htv]at t2 htvb
    have HTV:=hid htv
    have HTC:=hid (show lo7 x t l ready=if st.now+tv≤x.fin then some st.ready else none from by unfold lo7;rw[hup,HTV.out];rfl)
    clear tc htv t0 RI e0 hst hok hup
    by_cases hle:st.now+tv≤x.fin
    ·go_wp2
     go_quiet (fail)
     go_wp2
     go_ret
     exact⟨HST.out.mu.trans (Mut.below (below_drewN (Below.refl _ _) _) HST.out.le),.inl ⟨st.ready,by rw[HTC.out,if_pos hle],rfl,HST.out.res.drewN _⟩⟩
    ·go_wp2
     go_quiet (fail)
     go_wp2
     go_ret
     exact⟨HST.out.mu.trans (Mut.below (below_drewN (Below.refl _ _) _) HST.out.le),.inr ⟨by rw[HTC.out,if_neg (by omega)],rb7 (decide_eq_false (by omega))⟩⟩
end Go.Proofs.YtabadfkikdefeaaGreat
