/- Contract: order.Late, of a graph whose arcs lead forward. -/
import Derived.Laws.CopyRow
import Derived.Laws.CopyOwn
import Derived.BigRegion
import Derived.Test.YtabadfkikdefeaaGreatTopo
set_option linter.all false
set_option maxRecDepth 100000
set_option maxHeartbeats 6400000
namespace Go.Proofs.YtabadfkikdefeaaGreat
open Go.RowKit
theorem lcc7 {w:World}{n:Int}(h:0≤n∧n≤1125899906842624):Calls Tryz.prog 189 #[.int .i64 n] w fun e w'=>e = .returned (.bool false)∧w'=w:=by
 have h1:¬n < -1125899906842624:=by omega
 have h2:¬1125899906842624<n:=by omega
 go_enter Tryz.func189,Tryz.ntmps189
 go_wp2
 go_ret
 exact⟨rfl,rfl⟩
theorem ugb7 {w:World}{F:Nat→Prop}{l:List Int}{v:Value}(h:(ia7 hf7).rep w F l [v]) (hb:∀n∈l,0≤n∧n≤1125899906842624) :
  Calls Tryz.prog 212 #[v,.func (.func 189) #[] #[]] w fun e w'=>e = .returned (.int .i64 (-1))∧w'=w:=by
 obtain⟨a,b,off,c1,hs,hlc,hc,ha,hF,hcell,-⟩:=bb7 h
 obtain rfl:=List.cons.inj hs |>.1
 have HB:=hid hb
 clear hs h hb
 go_enter Tryz.func212,Tryz.ntmps212
 go_wp2
 go_loop [5,8] (fun _ i=>∃k:Nat,k≤l.length∧i = .int .i64 k) (fun _ i=>l.length-(intOf i).toNat)
 case atStart=>exact⟨0,Nat.zero_le _,rfl⟩
 case round =>
  obtain⟨k,hk,rfl⟩:=hrel
  by_cases hlt:k<l.length
  ·have hx:=ka7 (c:=c1) Tryz.underlying78 qc7 (ha (by omega)) hlt
   have hv:=hcell k hlt
   have hbb:=HB.out _ (List.getElem_mem hlt)
   obtain⟨n,hn⟩:∃n,n=l[k]:=⟨_,rfl⟩
   rw[← hn]at hv hbb
   clear hcell ha hn
   go_wp2_with fail
   refine (lcc7 hbb).mono ?_
   rintro e w' ⟨rfl,rfl⟩
   go_wp2
   go_round
   case rel=>exact⟨k+1,by omega,by go_num⟩
   case measure=>simp[intOf];omega
  ·clear hcell ha
   go_wp2
   go_ret
   exact⟨rfl,rfl⟩
theorem ky7 {w:World}{F:Nat→Prop}{l:List Int}{v:Value}(h:(ia7 hf7).rep w F l [v]) (hb:∀n∈l,0≤n∧n≤1125899906842624) :
  Calls Tryz.prog 188 #[v,.func (.func 189) #[] #[]] w fun e w'=>e = .returned (.bool false)∧w'=w:=by
 go_enter Tryz.func188,Tryz.ntmps188
 go_wp2_with fail
 refine (ugb7 h hb).mono ?_
 rintro e w' ⟨rfl,rfl⟩
 go_wp2
 go_ret
 exact⟨rfl,rfl⟩
theorem vy7 {w:World}{B B' T n k:Nat}{v:Value}{xs:List Value}(h:w.ownsRow B T k v n xs) (hb:B'≤B):w.ownsRow B' T k v n xs:=mc7 h hb
theorem xrb7 {w:World}{B T n k g:Nat}{v:Value}{xs cs:List Value}{e:TypeId}(h:w.ownsRow B T k v n xs) (hr:Row w g e cs) (he:e≠T):v.ownBlock=none∨v.ownBlock≠some g:=by
 cases hv:v.ownBlock with
 | none=>exact .inl rfl
 | some b =>
  refine .inr fun e'=>?_
  have:=ec7 h hr he
  exact this (by rw[hv,e'])
theorem uwb7 {w4:World}{go n c2 b2 off2:Nat}{fr:List Int}(hgo:Row w4 go 2 ((List.replicate n 0).map ib7)) (hfr:∀cur rest,w4.heap[go]? = some (.cells cur 2 (0,0))→cur.toList=(List.replicate n 0).map ib7++rest→rest=[]) (hl:fr.length=n)
  (hc:∀k (h:k<fr.length),w4.cell? ⟨b2,off2+k,none⟩=some (.int .i64 fr[k])) (ty:TypeId) :
  (Builtin.copy_ #[78,78] ty #[.slice (some ⟨go,0,none⟩) n n,.slice (some ⟨b2,off2,none⟩) n c2]).run Tryz.prog w4 = .ok (goInt n) (w4.setRow go (fr.map ib7).toArray)∧Row (w4.setRow go (fr.map ib7).toArray) go 2 (fr.map ib7):=by
 obtain⟨cur,rest,h1,h2⟩:=hgo
 have hr:=hfr cur rest h1 h2
 subst hr
 rw[List.append_nil]at h2
 have hsz:cur.size=n:=by rw[← Array.length_toList,h2];simp
 have hlen:(fr.map ib7).length=n:=by rw[List.length_map];exact hl
 have hcp:=run_copy_row (P:=Tryz.prog) w4 78 78 ty 2 go 0 n n ⟨b2,off2,none⟩ n c2 cur 2 (fr.map ib7) Tryz.underlying78 (by obtain⟨i,hi,_,hs,_⟩:=info_parts gj7;rw[hi,Option.map_some,hs]) h1
  (by rw[hlen];exact (Nat.min_self n).symm) (fun j v hj=>by
   have hj':j<fr.length:=by have:=(List.getElem?_eq_some_iff.1 hj).1;rwa [List.length_map]at this
   rw[List.getElem?_eq_getElem (by rw[List.length_map];exact hj'),List.getElem_map]at hj
   obtain rfl:=Option.some.inj hj
   have:(⟨b2,off2,none⟩:Addr).add j=⟨b2,off2+j,none⟩:=by
    unfold Addr.add;split
    ·rename_i h;rw[h];rfl
    ·rfl
   rw[this];exact hc j hj') (by omega) (fun v hv=>by
   obtain⟨x,_,rfl⟩:=List.mem_map.1 hv
   rfl)
 rw[hlen,List.take_zero,List.nil_append,List.drop_eq_nil_of_le (by rw[Array.length_toList];omega),List.append_nil]at hcp
 exact⟨hcp,(fr.map ib7).toArray,[],setRow_heap _ _ _ _ _ _ h1,by simp⟩
theorem ajc7 {w:World}{F G:Nat→Prop}{g:db7}{cs:List Value}{fr:List Int}{v:Value}(h:po7.rep w F g cs) (hf:(ia7 hf7).rep w G fr [v]) (hg:kfb7 g) (hl:fr.length=g.n) (hpos:0<g.n) (hb:∀n∈fr,0≤n∧n≤1125899906842624) :
  Calls Tryz.prog 147 #[.agg cs.toArray,v] w fun e w'=>∃(go:Nat) (d:List Int),e = .returned (.tuple #[.slice (some ⟨go,0,none⟩) g.n g.n,.int .i64 0])∧zl7 g fr d∧Row w' go 2 (d.map ib7)∧w.heap.size≤go∧Below w.heap.size w w':=by
 have hrep:=h
 have hfrep:=hf
 obtain⟨v1,rfl,h⟩:=h
 obtain⟨a,b,off,c,hs,-,-,ha,-,hcell⟩:=gr7 h
 obtain rfl:=List.cons.inj hs |>.1
 obtain⟨a2,b2,off2,c2,hs2,hlc2,hc2,ha2,-,hcell2,-⟩:=bb7 hf
 obtain rfl:=List.cons.inj hs2 |>.1
 have HCELL:=hid hcell
 have HCELL2:=hid hcell2
 have HG:=hid hg
 have HREP:=hid hrep
 have HFREP:=hid hfrep
 have HBB:=hid hb
 have hn:(g.n:Int)≤1000:=by have:=hg.n;omega
 have hln:(g.arcs.length:Int)≤20000:=by have:=hg.len;omega
 have hal:Below w.heap.size w (w.alloc (.cells #[.int .i64 (g.n:Int),.slice a g.arcs.length c] 243)):=(Below.refl _ _).alloc (Nat.le_refl _) _
 have R0:=Row.new (w:=w) (g:=w.heap.size) (e:=243) (cs:=[.int .i64 (g.n:Int),.slice a g.arcs.length c]) rfl
 obtain⟨q0,q1⟩:=gf7 R0
 have HL:=hid hl
 rw[hl]at HFREP ⊢
 have e0:((g.n:Int) != (g.n:Int))=false:=by simp
 clear hs hs2 h hf hcell hcell2 hg hrep hfrep hb hl
 go_enter Tryz.func147,Tryz.ntmps147
 go_wp2_with fail
 refine (ws7 (po7.below HREP.out hal) HG.out.in).mono ?_
 rintro e w1 ⟨rfl,hb1⟩
 have R1:=R0.below hb1
 have hB1:=ca7 hal hb1
 clear R0 hal hb1 q0 q1
 obtain⟨q0,q1⟩:=gf7 R1
 go_wp2_with fail
 refine (ky7 ((ia7 hf7).below HFREP.out hB1) HBB.out).mono ?_
 rintro e w2 ⟨rfl,rfl⟩
 go_wp2_with fail
 refine (lhc7 (po7.below HREP.out hB1) HG.out).mono ?_
 rintro e w3 ⟨v3,l,rfl,hT,hO3,hb3⟩
 obtain⟨ao3,c3,rfl,-,-⟩:=xa7 hO3
 have R3:=R1.below hb3
 have hB3:=ca7 hB1 hb3
 have hz3:=R3.lt
 have HT:=hid hT
 have hll:=hT.len
 have hB1':=hB1.size
 clear R1 hB1 hb3 q0 q1 hT
 obtain⟨q0,q1⟩:=gf7 R3
 obtain⟨i0,hi,hi0,hi1,hi2⟩:=info_parts gj7
 have hmk:=ck7 Tryz.underlying78 hi hi0 hi1 hi2 (n:=g.n) (by omega)
 clear hi hi0 hi1 hi2 i0
 have hwb:w.heap.size≤w2.heap.size:=hB1'
 have hgo:=Row.make (w:=w3) (n:=g.n) (e:=2)
 have hmade:∀cur rest,(w3.alloc (.cells (Array.replicate g.n (ib7 0)) 2)).heap[w3.heap.size]? = some (.cells cur 2 (0,0))→cur.toList=(List.replicate g.n 0).map ib7++rest→rest=[]:=fun cur rest h1 h2=>by
  rw[heap_alloc_new]at h1
  simp only[Option.some.injEq,Obj.cells.injEq]at h1
  obtain⟨rfl,-⟩:=h1
  have:=congrArg List.length h2
  simp at this
  exact this
 have hal4:Below w3.heap.size w3 (w3.alloc (.cells (Array.replicate g.n (ib7 0)) 2)):=(Below.refl _ _).alloc (Nat.le_refl _) _
 have hB4:=ca7 hB3 hal4
 have R4:=R3.below hal4
 have O4:=oa7 hO3 hal4
 obtain⟨go,hgoe⟩:∃go,go=w3.heap.size:=⟨_,rfl⟩
 rw[← hgoe]at hgo hmade hz3
 obtain rfl:=ha2 (by rw[HL.out];omega)
 have hcp:=fun ty=>uwb7 (c2:=c2) hgo hmade HL.out (fun k hk=>aa7 hB4 (HCELL2.out k hk)) ty
 have hgb:w.heap.size≤go:=by omega
 clear hO3 R3 hB3 hal4
 go_upto_region 12 with fail
 rw[← hgoe]
 generalize w3.alloc (.cells (Array.replicate g.n (ib7 0)) 2)=w4 at hgo hmade hB4 R4 O4 hcp ⊢
 have HR5:=hid (R4.keep (setRow_other _ _ _ (fr.map ib7).toArray (by show w.heap.size≠go;omega)))
 have HD5:=hid (hcp 0).2
 have HB5:=hid (below_setRow hB4 hgb (fr.map ib7).toArray)
 have HO5:=hid (show (w4.setRow go (fr.map ib7).toArray).ownsRow w.heap.size 3 1 (.slice ao3 l.length c3) l.length (l.map ev7) from
  vy7 (World.ownsRow.kept (w':=w4.setRow go (fr.map ib7).toArray) (row:=some go) O4 ⟨rfl,rfl,rfl,by simp,fun k _ hk=>setRow_other _ _ _ _ (fun e=>hk (by rw[e]))⟩ (xrb7 O4 hgo (by decide))) hwb)
 have hcr:=fun ty=>(hcp ty).1
 clear hgo hmade hB4 R4 O4 hcp q0 q1 hmk hgoe
 have HG0:=hid (oyb7.start (M:=1125899906842624) (l:=l) HL.out HBB.out)
 go_wp2
 go_loopw [42] (fun pv wr=>∃(p:Nat) (d:List Int) (D:Nat→Bool),p≤l.length∧pv = .int .i64 p∧oyb7 g fr 1125899906842624 l p d D∧Row wr w.heap.size 243 [.int .i64 (g.n:Int),.slice a g.arcs.length c]∧Row wr go 2 (d.map ib7) ∧
   wr.ownsRow w.heap.size 3 1 (.slice ao3 l.length c3) l.length (l.map ev7)∧Below w.heap.size w wr) (fun pv _=>l.length-(intOf pv).toNat)
 case atStart=>exact⟨0,fr,_,Nat.zero_le _,rfl,HG0.out,HR5.out,HD5.out,HO5.out,HB5.out⟩
 case round =>
  clear HG0 HR5 HD5 HO5 HB5 hcr
  obtain⟨p,d,D,hp,rfl,hLO,R,Dr,Ol,hB⟩:=hrel
  obtain⟨wq,rfl⟩:∃wq:World,wq=wr:=⟨_,rfl⟩
  by_cases hlt:p<l.length
  ·obtain⟨i,hi⟩:∃i,i=l[p]:=⟨_,rfl⟩
   have hin:=HT.out.lt l[p] (List.getElem_mem hlt)
   have HLS:=hid (hLO.next HT.out hlt)
   rw[← hi]at hin HLS
   have HI:=hid hi
   obtain⟨g3,c3',hse,-,-,hg3,hR3⟩:=Row.of_owns Ol (by omega)
   simp only[Value.slice.injEq]at hse
   obtain⟨rfl,-,rfl⟩:=hse
   have cL:=hR3.cell (j:=p) (by rw[List.length_map];exact hlt)
   rw[List.getElem_map,← hi]at cL
   unfold ev7 at cL
   have iL:=ka7 (c:=c3) Tryz.underlying68 di7 (a:=some ⟨g3,0,none⟩) rfl hlt
   rw[Nat.zero_add]at iL
   obtain⟨q0,q1⟩:=gf7 R
   have HGO:=hid (qy7 (po7.below HREP.out hB) (by omega) i)
   have hwz:=hB.size
   have HR:=hid R
   have HDr:=hid Dr
   have HOl:=hid Ol
   have HB:=hid hB
   clear hi hLO R Dr Ol hB hR3
   go_wp2_with fail
   refine HGO.out.mono ?_
   rintro e w6 ⟨v6,rfl,hO6,hb6⟩
   obtain⟨ao6,c6,rfl,-,-⟩:=xa7 hO6
   have HR6:=hid (HR.out.below hb6)
   have HD6:=hid (HDr.out.below hb6)
   have HOl6:=hid (oa7 HOl.out hb6)
   have HB6:=hid (ca7 HB.out hb6)
   have HL6:=hid (vy7 hO6 hwz)
   have HLM:=hid (show ∀k∈sg7 g i g.arcs.length,k<g.arcs.length∧(ua7 g k).frm=i from fun k hk=>dk7.1 hk)
   have hLl:=ru7 g i g.arcs.length
   clear HR HDr HOl HB HGO hO6 hb6 q0 q1 cL
   generalize sg7 g i g.arcs.length=L at HLS HL6 HLM hLl ⊢
   go_wp2
   go_loopw [50] (fun mv wr=>∃(m:Nat) (d:List Int) (D:Nat→Bool),m≤L.length∧mv = .int .i64 m∧LSt g fr 1125899906842624 l p d D (L.drop m)∧Row wr w.heap.size 243 [.int .i64 (g.n:Int),.slice a g.arcs.length c]∧Row wr go 2 (d.map ib7) ∧
     wr.ownsRow w.heap.size 3 1 (.slice (some ⟨g3,0,none⟩) l.length c3) l.length (l.map ev7)∧wr.ownsRow w.heap.size 3 1 (.slice ao6 L.length c6) L.length (L.map ev7)∧Below w.heap.size w wr) (fun mv _=>L.length-(intOf mv).toNat)
   case atStart=>exact⟨0,d,D,Nat.zero_le _,rfl,HLS.out,HR6.out,HD6.out,HOl6.out,HL6.out,HB6.out⟩
   case round =>
    clear HLS HR6 HD6 HOl6 HL6 HB6
    obtain⟨m,d,D,hm,rfl,hLS,R,Dr,Ol,OL,hB⟩:=hrel
    obtain⟨wi,rfl⟩:∃wi:World,wi=wr:=⟨_,rfl⟩
    by_cases hmt:m<L.length
    ·as_aux_lemma =>
      obtain⟨k,hk⟩:∃k,k=L[m]:=⟨_,rfl⟩
      obtain⟨hka,hkf⟩:=HLM.out L[m] (List.getElem_mem hmt)
      rw[List.drop_eq_getElem_cons hmt]at hLS
      rw[← hk]at hka hkf hLS
      have hbd:=hLS.bd
      have hbi:=hLS.bi hlt
      rw[← HI.out]at hbi
      have hdl:=hLS.inv.len
      have HNX:=hid (hLS.arc HG.out HT.out hlt hka (by rw[hkf];exact HI.out))
      obtain⟨g7,c7,hse,-,-,hg7,hR7⟩:=Row.of_owns OL (by omega)
      simp only[Value.slice.injEq]at hse
      obtain⟨rfl,-,rfl⟩:=hse
      have cL:=hR7.cell (j:=m) (by rw[List.length_map];exact hmt)
      rw[List.getElem_map,← hk]at cL
      unfold ev7 at cL
      have iL2:=ka7 (c:=c6) Tryz.underlying68 di7 (a:=some ⟨g7,0,none⟩) rfl hmt
      rw[Nat.zero_add]at iL2
      have hx:=vb7 (c:=c) Tryz.underlying241 fgb7 (ha (by omega)) hka
      obtain⟨y0,y1,y2⟩:=HCELL.out k hka
      have p0:=aa7 hB y0
      have p1:=aa7 hB y1
      have p2:=aa7 hB y2
      obtain⟨f1,f2,f3,f4⟩:=HG.out.arc _ (List.getElem_mem hka)
      obtain⟨ar,har⟩:∃ar,ar=ua7 g k:=⟨_,rfl⟩
      rw[← pd7 hka,← har]at p0 p1 p2 f1 f2 f3 f4
      rw[← har]at HNX hkf
      obtain⟨x1,x2,x3⟩:=ar
      simp only[]at p0 p1 p2 f1 f2 f3 f4 hkf
      subst hkf
      have hjl:x2<d.length:=by omega
      have hil:x1<d.length:=by omega
      have hdj:=hbd x2 f2
      have hdi:=hbd x1 hin
      have ej:d.getD x2 0=d[x2]:=by rw[List.getD_eq_getElem?_getD,List.getElem?_eq_getElem hjl];rfl
      have ei:d.getD x1 0=d[x1]:=by rw[List.getD_eq_getElem?_getD,List.getElem?_eq_getElem hil];rfl
      have cj:=Dr.cell (j:=x2) (by rw[List.length_map];exact hjl)
      have ci:=Dr.cell (j:=x1) (by rw[List.length_map];exact hil)
      rw[List.getElem_map]at cj ci
      have fz:=Dr.frozen x2
      obtain⟨vj,hvj⟩:∃v,v=d[x2]:=⟨_,rfl⟩
      obtain⟨vi,hvi⟩:∃v,v=d[x1]:=⟨_,rfl⟩
      rw[← hvj]at cj ej
      rw[← hvi]at ci ei
      rw[ej]at hdj
      rw[ei]at hdi hbi
      unfold ib7 at cj ci
      have HRX:=hid (show wr7 d ⟨x1,x2,x3⟩=d.set x2 (max vj (vi+x3)) from by unfold wr7;simp only[];rw[ej,ei])
      have ixj:=ka7 (c:=g.n) Tryz.underlying78 qc7 (a:=some ⟨go,0,none⟩) rfl f2
      have ixi:=ka7 (c:=g.n) Tryz.underlying78 qc7 (a:=some ⟨go,0,none⟩) rfl hin
      rw[Nat.zero_add]at ixj ixi
      have hpl:(p:Int)≤1000:=by omega
      have hva:0≤vi∧vi≤2225411534469120:=by omega
      have hvb:0≤vj∧vj≤2226511046096896:=by omega
      have hal:Below wi.heap.size wi (wi.alloc (.cells #[.int .i64 (x1:Int),.int .i64 (x2:Int),.int .i64 x3] 260)):=(Below.refl _ _).alloc (Nat.le_refl _) _
      have RA:=Row.new (w:=wi) (g:=wi.heap.size) (e:=260) (cs:=[.int .i64 (x1:Int),.int .i64 (x2:Int),.int .i64 x3]) rfl
      have HR8:=hid (R.below hal)
      have HD8:=hid (Dr.below hal)
      have HO8:=hid (oa7 Ol hal)
      have HL8:=hid (oa7 OL hal)
      have HB8:=hid (ca7 hB hal)
      have cj8:=aa7 hal cj
      have ci8:=aa7 hal ci
      have fz8:=HD8.out.frozen x2
      obtain⟨q0,q1⟩:=gf7 R
      clear hk hLS hbd hbi R Dr Ol OL hB hR7 har y0 y1 y2 hdj hdi hvj hvi ej ei hal HI HLM
      go_upto_region 20 with fail
      generalize wi.alloc (.cells #[.int .i64 (x1:Int),.int .i64 (x2:Int),.int .i64 x3] 260)=wa at *
      have a0:=RA.cell (j:=0) (by simp)
      have a1:=RA.cell (j:=1) (by simp)
      have a2:=RA.cell (j:=2) (by simp)
      simp only[List.getElem_cons_zero,List.getElem_cons_succ]at a0 a1 a2
      go_region
      go_wp2
      exact⟨⟨m+1,wr7 d ⟨x1,x2,x3⟩,_,by omega,by go_num,HNX.out,(HR8.out.setOther (by show w.heap.size≠go;omega) _).drew,by rw[HRX.out,List.map_set];exact (HD8.out.set (by rw[List.length_map];exact hjl) _).drew,
       kx7 (la7 HO8.out HD8.out (by decide) _ _),kx7 (la7 HL8.out HD8.out (by decide) _ _),(HB8.out.setCell (by show w.heap.size≤go;omega) _).drew⟩,by simp[intOf];omega⟩
    ·as_aux_lemma =>
      have hme:m=L.length:=by omega
      subst hme
      rw[List.drop_length]at hLS
      have HLS:=hid hLS.done'
      have HR:=hid R
      have HD:=hid Dr
      have HOl:=hid Ol
      have HB:=hid hB
      clear hLS R Dr Ol OL hB
      go_wp2
      go_roundw
      case rel=>exact⟨p+1,d,D,by omega,by go_num,HLS.out,HR.out,HD.out,HOl.out,HB.out⟩
      case measure=>simp[intOf];omega
  ·have hpe:p=l.length:=by omega
   subst hpe
   have HLT:=hid (hLO.late HG.out HT.out)
   have HD:=hid Dr
   have HB:=hid hB
   clear hLO R Dr Ol hB
   go_wp2
   go_ret2
   exact⟨go,d,rfl,HLT.out,HD.out,hgb,HB.out⟩
end Go.Proofs.YtabadfkikdefeaaGreat
