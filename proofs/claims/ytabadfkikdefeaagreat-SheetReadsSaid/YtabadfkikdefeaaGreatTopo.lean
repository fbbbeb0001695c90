/- Contract: order.Sort, of a graph whose arcs lead forward: each node once, behind all that lead to it. -/
import Derived.Test.YtabadfkikdefeaaGreatP6
set_option linter.all false
set_option maxRecDepth 100000
set_option maxHeartbeats 6400000
namespace Go.Proofs.YtabadfkikdefeaaGreat
open Go.RowKit
structure SSt (w0:World) (gin B q:Nat) (a:Option Addr) (c:Nat) (g:db7) (ins:List Int) (l:List sa7) (w:World):Prop where
 graph:Row w w0.heap.size 243 [.int .i64 (g.n:Int),.slice a g.arcs.length c]
 inn:Row w gin 3 (ins.map ib7)
 pile:wc7 w B q l
 bel:Below w0.heap.size w0 w
 ord:w0.heap.size<gin∧gin<B
section
variable {w0:World} {gin B q:Nat} {a:Option Addr} {c:Nat} {g:db7} {ins:List Int} {l l':List sa7} {w w':World}
theorem SSt.below (h:SSt w0 gin B q a c g ins l w) (hb:Below w.heap.size w w'):SSt w0 gin B q a c g ins l w':=⟨h.graph.below hb,h.inn.below hb,h.pile.below hb,ca7 h.bel hb,h.ord⟩
theorem SSt.qB (h:SSt w0 gin B q a c g ins l w):B≤q:=by obtain⟨_,_,_,hq⟩:=h.pile;exact hq
theorem SSt.keep (h:SSt w0 gin B q a c g ins l w) (hK:zb7 B w w') (hP:wc7 w' B q l'):SSt w0 gin B q a c g ins l' w' :=
 ⟨hK.row h.graph (by decide) (by decide),hK.row h.inn (by decide) (by decide),hP,h.bel.trans (hK.bel.mono (by have:=h.ord;omega)),h.ord⟩
theorem SSt.setIn (h:SSt w0 gin B q a c g ins l w) {j:Nat}(hj:j<ins.length) (v:Int):SSt w0 gin B q a c g (ins.set j v) l (w.setCell ⟨gin,j,none⟩ (.int .i64 v)):=by
 obtain⟨h1,h2⟩:=h.ord
 have hq:=h.qB
 refine⟨h.graph.setOther (by show w0.heap.size≠gin;omega) _, ?_, ?_,h.bel.setCell (by show w0.heap.size≤gin;omega) _,h.ord⟩
 ·rw[List.map_set]
  exact h.inn.set (by rw[List.length_map];exact hj) _
 ·obtain⟨v',R,O,hq'⟩:=h.pile
  exact⟨v',R.setOther (by show q≠gin;omega) _,O.kept (pg7 w ⟨gin,j,none⟩ _) (by
   cases e:v'.ownBlock with
   | none=>exact .inl rfl
   | some b=>exact .inr fun e2=>by have:=(O.lt b e).1;have:=Option.some.inj e2;simp only at this;omega),hq'⟩
theorem SSt.grow {Bo n:Nat}{v:Value}{xs:List Value}(h:SSt w0 gin B q a c g ins l w) (ho:w.ownsRow Bo 3 1 v n xs) (hBo:gin<Bo) (hg:w.grownBy w' v.ownBlock):SSt w0 gin B q a c g ins l w':=by
 obtain⟨h1,h2⟩:=h.ord
 refine⟨h.graph.grown ho (by decide) hg,h.inn.keep (hg.block gin h.inn.lt (vmb7 ho hBo)), ?_,h.bel.grown hg h.bel.size (fun k hk=>by have:=(ho.lt k hk).1;omega),h.ord⟩
 obtain⟨v',R,O,hq'⟩:=h.pile
 exact⟨v',R.grown ho (by decide) hg,O.kept hg (fb7 O ho (by decide)),hq'⟩
theorem Apart.setIn {X:Nat}{e:TypeId}{cs:List Value}(h:Apart w q X e cs) (hX:X≠gin) (hq:q≠gin) (j:Nat) (v:Value):Apart (w.setCell ⟨gin,j,none⟩ v) q X e cs:=by
 obtain⟨hr,h1,h2⟩:=h
 refine⟨hr.setOther hX _,h1,fun u hu=>h2 u ?_⟩
 rwa [World.cell?_of_block (Below.heap_setCell _ _ _ _ (by show q≠gin;exact hq))]at hu
theorem Apart.setX {X:Nat}{e:TypeId}{cs:List Value}(h:Apart w q X e cs) {j:Nat}(hj:j<cs.length) (v:Value):Apart (w.setCell ⟨X,j,none⟩ v) q X e (cs.set j v):=by
 obtain⟨hr,h1,h2⟩:=h
 refine⟨hr.set hj _,h1,fun u hu=>h2 u ?_⟩
 rwa [World.cell?_of_block (Below.heap_setCell _ _ _ _ (by show q≠X;exact fun e=>h1 e.symm))]at hu
theorem SSt.setX {X:Nat}{e:TypeId}{cs:List Value}(h:SSt w0 gin B q a c g ins l w) (hA:Apart w q X e cs) (hX:w0.heap.size<X∧X≠gin) (j:Nat) (v:Value):SSt w0 gin B q a c g ins l (w.setCell ⟨X,j,none⟩ v):=by
 obtain⟨hr,h1,h2⟩:=hA
 refine⟨h.graph.setOther (by show w0.heap.size≠X;omega) _,h.inn.setOther (by show gin≠X;omega) _, ?_,h.bel.setCell (by show w0.heap.size≤X;omega) _,h.ord⟩
 obtain⟨v',R,O,hq'⟩:=h.pile
 have h3:=h2 v' (R.cell (j:=0) (by simp))
 exact⟨v',R.setOther (by show q≠X;exact fun e=>h1 e.symm) _,O.kept (pg7 w ⟨X,j,none⟩ _) (.inr h3),hq'⟩
theorem Apart.grow {X Bo n:Nat}{e:TypeId}{cs xs:List Value}{v:Value}(h:Apart w q X e cs) (hs:SSt w0 gin B q a c g ins l w) (ho:w.ownsRow Bo 3 1 v n xs) (he:e≠3) (hg:w.grownBy w' v.ownBlock):Apart w' q X e cs:=by
 obtain⟨hr,h1,h2⟩:=h
 refine⟨hr.grown ho he hg,h1,fun u hu=>h2 u ?_⟩
 obtain⟨v',R,O,hq'⟩:=hs.pile
 have hne:some q≠v.ownBlock:=ec7 ho R (by decide)
 rwa [World.cell?_of_block (hg.block q R.lt hne)]at hu
theorem Apart.new (h:SSt w0 gin B q a c g ins l w) (e:TypeId) (cs:List Value):Apart (w.alloc (.cells cs.toArray e)) q w.heap.size e cs:=by
 obtain⟨v',R,O,hq'⟩:=h.pile
 have hl:=R.lt
 refine⟨Row.new rfl,by omega,fun u hu e'=>?_⟩
 have h1:=(R.alloc (.cells cs.toArray e)).cell (j:=0) (by simp)
 rw[h1]at hu
 obtain rfl:=Option.some.inj hu
 have:=(O.lt _ e').2
 omega
end
theorem gz7 {w:World}{gin Bo n:Nat}{v:Value}{xs:List Value}{e k:Nat}(h:w.ownsRow Bo e k v n xs) (hg:gin<Bo) (j:Nat) (u:Value):(w.setCell ⟨gin,j,none⟩ u).ownsRow Bo e k v n xs :=
 h.kept (pg7 w ⟨gin,j,none⟩ u) (by
  cases e:v.ownBlock with
  | none=>exact .inl rfl
  | some b=>exact .inr fun e2=>by have:=(h.lt b e).1;have:=Option.some.inj e2;simp only at this;omega)
def bk7 (l:List sa7):List Nat:=l.map fun x=>x.2.toNat
def gvb7 (l:List sa7):Prop:=∀x∈l,0≤x.2
theorem gvb7.perm {l l':List sa7}(h:gvb7 l) (hp:l'.Perm l):gvb7 l':=fun x hx=>h x (hp.mem_iff.1 hx)
theorem rr7 {l l':List sa7}(hp:l'.Perm l):(bk7 l').Perm (bk7 l):=hp.map _
theorem sp7 (l:List sa7):(bk7 l).length=l.length:=by unfold bk7;simp
def sliceLen:Value→Nat
 | .slice _ n _=>n
 | _=>0
theorem lhc7 {w:World}{F:Nat→Prop}{g:db7}{cs:List Value}(h:po7.rep w F g cs) (hg:kfb7 g) :
  Calls Tryz.prog 190 #[.agg cs.toArray] w fun e w'=>∃(v:Value) (out:List Nat),e = .returned (.tuple #[v,.bool true])∧pxb7 g out∧w'.ownsRow w.heap.size 3 1 v out.length (out.map ev7)∧Below w.heap.size w w':=by
 have hrep:=h
 obtain⟨v,rfl,h⟩:=h
 obtain⟨a,b,off,c,hs,-,-,ha,-,hcell⟩:=gr7 h
 obtain rfl:=List.cons.inj hs |>.1
 have HCELL:=hid hcell
 have HG:=hid hg
 have HREP:=hid hrep
 have hn:(g.n:Int)≤1000:=by have:=hg.n;omega
 have hln:(g.arcs.length:Int)≤20000:=by have:=hg.len;omega
 have hal:Below w.heap.size w (w.alloc (.cells #[.int .i64 (g.n:Int),.slice a g.arcs.length c] 243)):=(Below.refl _ _).alloc (Nat.le_refl _) _
 have R0:=Row.new (w:=w) (g:=w.heap.size) (e:=243) (cs:=[.int .i64 (g.n:Int),.slice a g.arcs.length c]) rfl
 have HCK:=hid (ws7 (po7.below hrep hal) hg.in)
 clear hs h hcell hg hrep
 go_enter Tryz.func190,Tryz.ntmps190
 go_wp2_with fail
 refine HCK.out.mono ?_
 rintro e w1 ⟨rfl,hb1⟩
 have R1:=R0.below hb1
 have hB1:=ca7 hal hb1
 have hz1:=R1.lt
 clear R0 hal hb1 HCK
 obtain⟨q0,q1⟩:=gf7 R1
 obtain⟨i0,hi,hi0,hi1,hi2⟩:=info_parts ql7
 have hmk:=ck7 Tryz.underlying68 hi hi0 hi1 hi2 (n:=g.n) (by omega)
 clear hi hi0 hi1 hi2 i0
 have R2:=R1.alloc (.cells (Array.replicate g.n (ib7 0)) 3)
 have S2:=Row.make (w:=w1) (n:=g.n) (e:=3)
 have B2:=hB1.alloc (by have:=hB1.size;omega) (.cells (Array.replicate g.n (ib7 0)) 3)
 obtain⟨gin,hgin⟩:∃gin,gin=w1.heap.size:=⟨_,rfl⟩
 rw[← hgin]at S2 hz1
 have HGIN:=hid hgin
 go_upto_region 4 with fail
 generalize w1.alloc (.cells (Array.replicate g.n (ib7 0)) 3)=w2 at R2 S2 B2 ⊢
 rw[← hgin]
 clear R1 hB1 q0 q1 hmk hgin
 obtain⟨q0,q1⟩:=gf7 R2
 go_wp2
 go_loopw [25] (fun kv wr=>∃(k:Nat) (ins:List Int),k≤g.arcs.length∧kv = .int .i64 k∧ins.length=g.n∧(∀j,j<g.n→ins.getD j 0=(jr7 g (fun _=>false) j k:Int)) ∧
   Row wr w.heap.size 243 [.int .i64 (g.n:Int),.slice a g.arcs.length c]∧Row wr gin 3 (ins.map ib7)∧Below w.heap.size w wr) (fun kv _=>g.arcs.length-(intOf kv).toNat)
 case atStart=>exact⟨0,List.replicate g.n 0,Nat.zero_le _,rfl,by simp,fun j hj=>by rw[List.getD_eq_getElem?_getD,List.getElem?_replicate,if_pos hj];rfl,R2,S2,B2⟩
 case round =>
  clear R2 S2 B2 q0 q1
  obtain⟨k,ins,hk,rfl,hil,hic,R2,S2,B2⟩:=hrel
  obtain⟨wq,rfl⟩:∃wq:World,wq=wr:=⟨_,rfl⟩
  obtain⟨q0,q1⟩:=gf7 R2
  by_cases hlt:k<g.arcs.length
  ·as_aux_lemma =>
    have hx:=vb7 (c:=c) Tryz.underlying241 fgb7 (ha (by omega)) hlt
    obtain⟨g0,g1,g2⟩:=HCELL.out k hlt
    have p0:=aa7 B2 g0
    have p1:=aa7 B2 g1
    have p2:=aa7 B2 g2
    obtain⟨f1,f2,f3,f4⟩:=HG.out.arc _ (List.getElem_mem hlt)
    obtain⟨ar,har⟩:∃ar,ar=g.arcs[k]:=⟨_,rfl⟩
    have har2:ua7 g k=ar:=by rw[har];exact pd7 hlt
    rw[← har]at p0 p1 p2 f1 f2 f3 f4
    obtain⟨x1,x2,x3⟩:=ar
    simp only[]at p0 p1 p2 f1 f2 f3 f4
    have hal:Below wq.heap.size wq (wq.alloc (.cells #[.int .i64 (x1:Int),.int .i64 (x2:Int),.int .i64 x3] 260)):=(Below.refl _ _).alloc (Nat.le_refl _) _
    have RA:=Row.new (w:=wq) (g:=wq.heap.size) (e:=260) (cs:=[.int .i64 (x1:Int),.int .i64 (x2:Int),.int .i64 x3]) rfl
    have HR3:=hid (R2.below hal)
    have S3:=S2.below hal
    have HB3:=hid (ca7 B2 hal)
    have hjl:x2<ins.length:=by omega
    have hcl:=obb7 g (fun _=>false) x2 k
    have hv0:=hic x2 f2
    rw[List.getD_eq_getElem?_getD,List.getElem?_eq_getElem hjl,Option.getD_some]at hv0
    have c0:=S3.cell (j:=x2) (by rw[List.length_map];exact hjl)
    rw[List.getElem_map]at c0
    have fz:=S3.frozen x2
    obtain⟨v0,hv⟩:∃v,v=ins[x2]:=⟨_,rfl⟩
    rw[← hv]at c0 hv0
    unfold ib7 at c0
    have hvb:0≤v0∧v0≤20000:=by omega
    have HNX:=hid (show ∀j,j<g.n→(ins.set x2 (v0+1)).getD j 0=(jr7 g (fun _=>false) j (k+1):Int) from fun j hj=>by
     have e1:jr7 g (fun _=>false) j (k+1)=jr7 g (fun _=>false) j k+if (ua7 g k).dst==j && !false then 1 else 0:=rfl
     rw[e1,har2,List.getD_eq_getElem?_getD,List.getElem?_set]
     by_cases e:x2=j
     ·subst e
      rw[if_pos rfl,if_pos hjl,Option.getD_some,hv0];simp
     ·rw[if_neg e,← List.getD_eq_getElem?_getD,hic j hj];simp[e])
    have HS3:=hid S3
    have ix:=ka7 (c:=g.n) Tryz.underlying68 di7 (a:=some ⟨gin,0,none⟩) rfl f2
    rw[Nat.zero_add]at ix
    clear har har2 g0 g1 g2 R2 S2 B2 hal S3 hic hv hv0
    have HIL:=hid hil
    clear hil
    go_upto_region 7 with fail
    generalize wq.alloc (.cells #[.int .i64 (x1:Int),.int .i64 (x2:Int),.int .i64 x3] 260)=wa at *
    have a1:=RA.cell (j:=1) (by simp)
    simp only[List.getElem_cons_zero,List.getElem_cons_succ]at a1
    go_wp2
    go_roundw
    case rel=>exact⟨k+1,ins.set x2 (v0+1),by omega,by go_num,by rw[List.length_set];exact HIL.out,HNX.out,HR3.out.setOther (by show w.heap.size≠gin;omega) _,by rw[List.map_set];exact HS3.out.set (by rw[List.length_map];exact hjl) _,HB3.out.setCell (by show w.heap.size≤gin;omega) _⟩
    case measure=>simp[intOf];omega
  ·have hke:k=g.arcs.length:=by omega
   subst hke
   have HIC:=hid hic
   have HR2:=hid R2
   have HS2:=hid S2
   have HB2:=hid B2
   have HIL:=hid hil
   have hgz:=S2.lt
   clear hic R2 S2 B2 hil
   go_wp2_with fail
   refine atb7.mono ?_
   rintro e w3 ⟨q,rfl,hP3,hb3⟩
   have HST:=hid (show SSt w gin wq.heap.size q a c g ins [] w3 from ⟨HR2.out.below hb3,HS2.out.below hb3,hP3,ca7 HB2.out hb3,hz1,hgz⟩)
   clear HR2 HS2 HB2 hP3 hb3 q0 q1
   obtain⟨B,hB⟩:∃B,B=wq.heap.size:=⟨_,rfl⟩
   rw[← hB]at HST hgz
   clear hB
   go_wp2
   go_loopw [40] (fun kv wr=>∃(k:Nat) (l:List sa7),k≤g.n∧kv = .int .i64 k∧gvb7 l∧(bk7 l).Nodup∧(∀j,j∈bk7 l↔j<k∧jr7 g (fun _=>false) j g.arcs.length=0)∧SSt w gin B q a c g ins l wr) (fun kv _=>g.n-(intOf kv).toNat)
   case atStart=>exact⟨0,[],Nat.zero_le _,rfl,(fun _ h=>by cases h),List.nodup_nil,fun j=>by simp[bk7],HST.out⟩
   case round =>
    clear HST
    obtain⟨k,l,hk,rfl,hpos,hnd,hmem,hst⟩:=hrel
    obtain⟨wq,rfl⟩:∃wq:World,wq=wr:=⟨_,rfl⟩
    have HST:=hid hst
    by_cases hlt:k<g.n
    ·have hkl:k<ins.length:=by have:=HIL.out;omega
     have hv0:=HIC.out k hlt
     rw[List.getD_eq_getElem?_getD,List.getElem?_eq_getElem hkl,Option.getD_some]at hv0
     have c0:=hst.inn.cell (j:=k) (by rw[List.length_map];exact hkl)
     rw[List.getElem_map]at c0
     obtain⟨v0,hv⟩:∃v,v=ins[k]:=⟨_,rfl⟩
     rw[← hv]at c0 hv0
     unfold ib7 at c0
     have ix:=ka7 (c:=g.n) Tryz.underlying68 di7 (a:=some ⟨gin,0,none⟩) rfl hlt
     rw[Nat.zero_add]at ix
     have hll:l.length≤100000:=by
      have:=jg7 hnd (n:=g.n) fun j hj=>by have:=(hmem j).1 hj;omega
      rw[sp7]at this;omega
     have hkn:k ∉ bk7 l:=fun h=>by have:=(hmem k).1 h;omega
     have HPO:=hid hpos
     have HND:=hid hnd
     have HMM:=hid hmem
     have HKN:=hid hkn
     have HV:=hid hv0
     clear hv hpos hnd hmem hst hkn hv0
     by_cases e:v0=0
     ·have e1:(v0==0)=true:=by simpa using e
      have HPUT:=hid (wcb7 HST.out.pile hll ((k:Int),(k:Int)))
      have HE:=hid e
      clear e
      go_wp2_with fail
      refine HPUT.out.mono ?_
      rintro e w4 ⟨rfl,⟨l',hp,-,hP4⟩,hK4,-⟩
      have HS4:=hid (HST.out.keep hK4 hP4)
      have HP:=hid hp
      have HN2:=hid (show (bk7 l').Perm (k::bk7 l) from by have:=rr7 hp;simpa[bk7]using this)
      clear hp hP4 hK4 HPUT
      go_wp2
      go_roundw
      case rel =>
       refine⟨k+1,l',by omega,by go_num,gvb7.perm (fun x hx=>?_) HP.out,HN2.out.nodup_iff.2 (List.nodup_cons.2 ⟨HKN.out,HND.out⟩),fun j=>?_,HS4.out⟩
       ·rcases List.mem_cons.1 hx with rfl | hx
        ·simp
        ·exact HPO.out x hx
       ·rw[HN2.out.mem_iff,List.mem_cons,HMM.out]
        have h0:jr7 g (fun _=>false) k g.arcs.length=0:=by have:=HV.out;have:=HE.out;omega
        constructor
        ·rintro (rfl | ⟨h1,h2⟩)
         ·exact⟨by omega,h0⟩
         ·exact⟨by omega,h2⟩
        ·rintro⟨h1,h2⟩
         by_cases e:j=k
         ·exact .inl e
         ·exact .inr ⟨by omega,h2⟩
      case measure=>simp[intOf];omega
     ·have e1:(v0==0)=false:=by simpa using e
      have HE:=hid e
      clear e
      go_wp2
      go_roundw
      case rel =>
       refine⟨k+1,l,by omega,by go_num,HPO.out,HND.out,fun j=>?_,HST.out⟩
       rw[HMM.out]
       have h0:jr7 g (fun _=>false) k g.arcs.length≠0:=by have:=HV.out;have:=HE.out;omega
       constructor
       ·rintro⟨h1,h2⟩;exact⟨by omega,h2⟩
       ·rintro⟨h1,h2⟩
        refine⟨?_,h2⟩
        have:j≠k:=by rintro rfl;exact h0 h2
        omega
      case measure=>simp[intOf];omega
    ·have hke:k=g.n:=by omega
     subst hke
     have HK0:=hid (yx7.start HIL.out HIC.out hnd hmem)
     have HPO:=hid hpos
     have hll:l.length≤100000:=by
      have:=HK0.out.idsLen
      rw[sp7]at this;omega
     have HTK:=hid (kz7 hst.pile hll)
     clear hpos hnd hmem hst
     go_wp2_with fail
     refine HTK.out.mono ?_
     rintro e w4 ⟨⟨s1,s2⟩,ok,l',rfl,hno,hyes,hP4,hK4,-⟩
     replace hyes:=fun h=>(hyes h).1
     simp only[]at hyes ⊢
     have hS4:=HST.out.keep hK4 hP4
     have hal:Below w4.heap.size w4 (w4.alloc (.cells #[.int .i64 s1,.int .i64 s2] 307)):=(Below.refl _ _).alloc (Nat.le_refl _) _
     have HA5:=hid (Apart.new hS4 307 [.int .i64 s1,.int .i64 s2])
     have HS5:=hid (hS4.below hal)
     have HNO:=hid hno
     have HYES:=hid hyes
     have hX:=hid (show w.heap.size<w4.heap.size∧w4.heap.size≠gin from by have:=hS4.inn.lt;omega)
     clear hno hyes hS4 hal hP4 hK4 HTK HIC HIL HST
     go_wp2
     go_loopw [10,11,12] (fun ov xv okv wr=>∃(out:List Nat) (ao:Option Addr) (cp X:Nat) (ok:Bool) (s1 s2:Int) (l l0:List sa7) (ins:List Int) (D:Nat→Bool),ov = .slice ao out.length cp∧xv = .pointer (some ⟨X,0,none⟩)∧okv = .bool ok ∧
       wr.ownsRow (gin+1) 3 1 (.slice ao out.length cp) out.length (out.map ev7)∧yx7 g out D ins (bk7 l0)∧Full g out D∧gvb7 l0∧(ok=false→l0=[]∧l=[])∧(ok=true→((s1,s2)::l).Perm l0)∧SSt w gin B q a c g ins l wr ∧
       Apart wr q X 307 [.int .i64 s1,.int .i64 s2]∧(w.heap.size<X∧X≠gin)) (fun ov _ _ _=>g.n-sliceLen ov)
     case atStart=>exact⟨[],none,0,w4.heap.size,ok,s1,s2,l',l,ins,_,rfl,rfl,rfl,World.ownsRow_nil _ _ _ _,HK0.out,(fun k _ h=>by cases h),HPO.out,HNO.out,HYES.out,HS5.out,HA5.out,hX.out⟩
     case round =>
      clear HA5 HS5 HNO HYES hX HK0 HPO hll
      obtain⟨out,ao,cp,X,ok,s1,s2,l,l0,ins,D,rfl,rfl,rfl,hown,hK,hF,hpos,hno,hyes,hS,hA,hX1,hX2⟩:=hrel
      obtain⟨wq,rfl⟩:∃wq:World,wq=wr:=⟨_,rfl⟩
      obtain⟨q0,q1⟩:=gf7 hS.graph
      have hgin:w.heap.size<gin:=hS.ord.1
      cases ok
      ·as_aux_lemma =>
        obtain⟨rfl,-⟩:=hno rfl
        have hT:=yx7.topoAll hK hF HG.out
        have hlen:=hT.len
        have HT:=hid hT
        have HOW:=hid (mc7 hown (B':=w.heap.size) (by omega))
        have HB:=hid hS.bel
        have e1:((out.length:Int))=(g.n:Int):=by omega
        obtain⟨n2,hn2⟩:∃n2,n2=out.length:=⟨_,rfl⟩
        have hn3:(g.n:Int)≤(n2:Int):=by omega
        rw[← hn2]at HOW ⊢
        have HN2:=hid hn2
        clear hK hF hpos hno hyes hS hA hown hT hlen e1 hn2
        go_wp2
        go_ret2
        exact⟨_,out,rfl,HT.out,by rw[← HN2.out];exact HOW.out,HB.out⟩
      ·have hyes:=hyes rfl
       have hs2:0≤s2:=hpos (s1,s2) (hyes.mem_iff.1 (List.mem_cons_self ..))
       obtain⟨i,rfl⟩:=Int.eq_ofNat_of_zero_le hs2
       obtain⟨hin,hK1,hP1⟩:=yx7.take (i:=i) (ids':=bk7 l) hK hF (by have:=rr7 hyes;simpa[bk7]using this)
       have HPL:=hid (show gvb7 l from fun x hx=>hpos x (hyes.mem_iff.1 (List.mem_cons_of_mem _ hx)))
       have HK1:=hid hK1
       have HP1:=hid hP1
       have hol:=hK1.outLen
       have HOL:=hid hol
       rw[List.length_append,List.length_singleton]at hol
       have hal:Below wq.heap.size wq (wq.alloc (.cells #[.int .i64 (i:Int)] 3)):=(Below.refl _ _).alloc (Nat.le_refl _) _
       have a1:=hA.1.cell (j:=1) (by simp)
       simp only[List.getElem_cons_zero,List.getElem_cons_succ]at a1
       have hS2:=hS.below hal
       have hA2:=if7.of_below hal hS.pile.qlt _ _ _ hA
       have hown1:=hown.alloc (.cells #[.int .i64 (i:Int)] 3)
       have hgwq:gin<wq.heap.size:=hS.inn.lt
       obtain⟨n1,hn1⟩:∃n1,n1=out.length:=⟨_,rfl⟩
       rw[← hn1]at hown1 hol ⊢
       have HN1:=hid hn1
       obtain⟨i1,hi,hi0,hi1,hi2⟩:=info_parts ql7
       clear hK hF hpos hno hyes hS hA hown hK1 hP1 hn1 hs2
       go_wp2_with (at_builtin;refine wpList_append_own _ rfl _ _ 68 rfl (gin+1) 3 i1 (.int .i64 0) 1 8 Tryz.underlying68 hi hi0 hi1 hi2 rfl (by decide) _ _ _ rfl hown1 ⟨wq.heap.size,0,none⟩ 1 1 [.int .i64 (i:Int)] rfl rfl ?c1 ?c2 ?c3 ?c4 ?c5 ?_)
       case c2=>first | rfl | (intro u hu;simp at hu;subst hu;rfl)
       case c3=>unfold maxLen;omega
       case c4=>have:=hS2.inn.lt;omega
       case c5=>first | omega | (simp;omega) | (simp only[World.size_alloc]at hgwq ⊢; omega)
       intro v' w5 hown' hgrow _
       obtain⟨ao',cp',hv',-,-⟩:=xa7 hown'
       subst hv'
       have hS5:=hS2.grow hown1 (Nat.lt_succ_self _) hgrow
       have hA5:=Apart.grow hA2 hS2 hown1 (by decide) hgrow
       have HO5:=hid (show w5.ownsRow (gin+1) 3 1 (.slice ao' (n1+1) cp') (n1+1) ((out++[i]).map ev7) from by rw[List.map_append];exact hown')
       clear hown' hgrow hown1 hi hi0 hi1 hi2 i1 hS2 hA2 hal q0 q1 a1
       obtain⟨q0,q1⟩:=gf7 hS5.graph
       have a1:=hA5.1.cell (j:=1) (by simp)
       simp only[List.getElem_cons_zero,List.getElem_cons_succ]at a1
       have HS5:=hid hS5
       have HA5:=hid hA5
       have HGO:=hid (qy7 (po7.below HREP.out hS5.bel) (by omega) i)
       have h5g:=hS5.inn.lt
       clear hS5 hA5
       go_wp2_with fail
       refine HGO.out.mono ?_
       rintro e w6 ⟨v3,rfl,hO3,hb6⟩
       obtain⟨ao3,c3,rfl,-,-⟩:=xa7 hO3
       have HS6:=hid (HS5.out.below hb6)
       have HA6:=hid (if7.of_below hb6 HS5.out.pile.qlt _ _ _ HA5.out)
       have HO6:=hid (oa7 HO5.out hb6)
       have HL6:=hid (mc7 hO3 (B':=gin+1) (by omega))
       have HLM:=hid (show ∀k∈sg7 g i g.arcs.length,k<g.arcs.length∧(ua7 g k).frm=i from fun k hk=>dk7.1 hk)
       have hLl:=ru7 g i g.arcs.length
       clear hO3 hb6 HS5 HA5 HO5 HGO q0 q1 a1
       generalize sg7 g i g.arcs.length=L at HP1 HL6 HLM hLl ⊢
       go_wp2
       go_loopw [74] (fun mv wr=>∃(m:Nat) (l1:List sa7) (ins1:List Int) (D1:Nat→Bool),m≤L.length∧mv = .int .i64 m∧yx7 g (out++[i]) D1 ins1 (bk7 l1)∧yu7 g (out++[i]) D1 (L.drop m)∧gvb7 l1∧SSt w gin B q a c g ins1 l1 wr ∧
         Apart wr q X 307 [.int .i64 s1,.int .i64 (i:Int)]∧wr.ownsRow (gin+1) 3 1 (.slice ao' (n1+1) cp') (n1+1) ((out++[i]).map ev7)∧wr.ownsRow (gin+1) 3 1 (.slice ao3 L.length c3) L.length (L.map ev7)) (fun mv _=>L.length-(intOf mv).toNat)
       case atStart=>exact⟨0,l,ins,D,Nat.zero_le _,rfl,HK1.out,HP1.out,HPL.out,HS6.out,HA6.out,HO6.out,HL6.out⟩
       case round =>
        clear HK1 HP1 HPL HS6 HA6 HO6 HL6
        obtain⟨m,l1,ins1,D1,hm,rfl,hK1,hP1,hpl,hS,hA,hO,hL⟩:=hrel
        obtain⟨wi,rfl⟩:∃wi:World,wi=wr:=⟨_,rfl⟩
        by_cases hlt:m<L.length
        ·as_aux_lemma =>
          obtain⟨k,hk⟩:∃k,k=L[m]:=⟨_,rfl⟩
          obtain⟨hka,hkf⟩:=HLM.out L[m] (List.getElem_mem hlt)
          rw[List.drop_eq_getElem_cons hlt]at hP1
          rw[← hk]at hka hkf hP1
          obtain⟨g3,c3',hse,-,-,hg3,hR3⟩:=Row.of_owns hL (by omega)
          simp only[Value.slice.injEq]at hse
          obtain⟨rfl,-,rfl⟩:=hse
          have cL:=hR3.cell (j:=m) (by rw[List.length_map];exact hlt)
          rw[List.getElem_map,← hk]at cL
          unfold ev7 at cL
          have iL:=ka7 (c:=c3) Tryz.underlying68 di7 (a:=some ⟨g3,0,none⟩) rfl hlt
          rw[Nat.zero_add]at iL
          have hx:=vb7 (c:=c) Tryz.underlying241 fgb7 (ha (by omega)) hka
          obtain⟨y0,y1,y2⟩:=HCELL.out k hka
          have p1:=aa7 hS.bel y1
          obtain⟨f1,f2,f3,f4⟩:=HG.out.arc _ (List.getElem_mem hka)
          rw[← pd7 hka]at p1 f2
          obtain⟨j,hj⟩:∃j,j=(ua7 g k).dst:=⟨_,rfl⟩
          rw[← hj]at p1 f2
          have hjl:j<ins1.length:=by rw[hK1.len];exact f2
          have hgd:ins1.getD j 0=ins1[j]:=by rw[List.getD_eq_getElem?_getD,List.getElem?_eq_getElem hjl];rfl
          have hv0:=hK1.ins j f2
          have hcl:=obb7 g D1 j g.arcs.length
          rw[hgd]at hv0
          have c0:=hS.inn.cell (j:=j) (by rw[List.length_map];exact hjl)
          rw[List.getElem_map]at c0
          have fz:=hS.inn.frozen j
          obtain⟨v0,hv⟩:∃v,v=ins1[j]:=⟨_,rfl⟩
          rw[← hv]at c0 hv0 hgd
          unfold ib7 at c0
          have hvb:0≤v0∧v0≤20000:=by omega
          have ix:=ka7 (c:=g.n) Tryz.underlying68 di7 (a:=some ⟨gin,0,none⟩) rfl f2
          rw[Nat.zero_add]at ix
          have hll:l1.length≤100000:=by have:=hK1.idsLen;rw[sp7]at this;omega
          have HKA:=hid (fun ids'=>yx7.arc (ids':=ids') hK1 hP1 hkf (by rw[← hj];exact f2) (v:=v0) (by rw[← hj];exact hgd))
          rw[← hj]at HKA
          have HSV:=hid (hS.setIn hjl (v0-1))
          have HAV:=hid (hA.setIn hX2 (by have:=hS.qB;have:=hS.ord.2;omega) j (.int .i64 (v0-1)))
          have HOV:=hid (gz7 hO (Nat.lt_succ_self gin) j (.int .i64 (v0-1)))
          have HLV:=hid (gz7 hL (Nat.lt_succ_self gin) j (.int .i64 (v0-1)))
          have HPL:=hid hpl
          obtain⟨q0,q1⟩:=gf7 hS.graph
          have hil2:j<(ins1.set j (v0-1)).length:=by rw[List.length_set];exact hjl
          clear hk hS hA hO hL hK1 hP1 hpl hv hgd hR3 y0 y1 y2 hj hv0 hcl f1 f3 f4 HLM
          go_upto_region 26 with fail
          generalize wi.setCell ⟨gin,j,none⟩ (.int .i64 (v0-1))=wv at HSV HAV HOV HLV ⊢
          have c1:=HSV.out.inn.cell (j:=j) (by rw[List.length_map];exact hil2)
          rw[List.getElem_map,List.getElem_set_self]at c1
          unfold ib7 at c1
          clear q0 q1 c0 fz p1 cL
          by_cases e:v0-1=0
          ·have e1:(v0-1==0)=true:=by simpa using e
           have HPUT:=hid (wcb7 HSV.out.pile hll ((j:Int),(j:Int)))
           have HE:=hid e
           clear e
           go_wp2_with fail
           refine HPUT.out.mono ?_
           rintro e w7 ⟨rfl,⟨l2,hp,-,hP7⟩,hK7,hA7⟩
           have HS7:=hid (HSV.out.keep hK7 hP7)
           have HA8:=hid (hA7 _ _ _ HAV.out)
           have HO7:=hid (hK7.owns HOV.out (by decide) (by decide))
           have HL7:=hid (hK7.owns HLV.out (by decide) (by decide))
           have HN2:=hid (show (bk7 l2).Perm (j::bk7 l1) from by have:=rr7 hp;simpa[bk7]using this)
           have HPP:=hid (show gvb7 l2 from gvb7.perm (fun x hx=>by
            rcases List.mem_cons.1 hx with rfl | hx
            ·simp
            ·exact HPL.out x hx) hp)
           have HKK:=hid (HKA.out (bk7 l2) (by rw[if_pos HE.out];exact HN2.out))
           clear hp hP7 hK7 hA7 HPUT
           go_wp2
           go_roundw
           case rel=>exact⟨m+1,l2,_,_,by omega,by go_num,HKK.out.2.1,HKK.out.2.2,HPP.out,HS7.out,HA8.out,HO7.out,HL7.out⟩
           case measure=>simp[intOf];omega
          ·have e1:(v0-1==0)=false:=by simpa using e
           have HKK:=hid (HKA.out (bk7 l1) (by rw[if_neg e]))
           clear e
           go_wp2
           go_roundw
           case rel=>exact⟨m+1,l1,_,_,by omega,by go_num,HKK.out.2.1,HKK.out.2.2,HPL.out,HSV.out,HAV.out,HOV.out,HLV.out⟩
           case measure=>simp[intOf];omega
        ·as_aux_lemma =>
          have hme:m=L.length:=by omega
          subst hme
          rw[List.drop_length]at hP1
          have HF:=hid hP1.full
          have HK1:=hid hK1
          have HPL:=hid hpl
          have a0:=hA.1.cell (j:=0) (by simp)
          have a1:=hA.1.cell (j:=1) (by simp)
          simp only[List.getElem_cons_zero,List.getElem_cons_succ]at a0 a1
          have hal:Below wi.heap.size wi (wi.alloc (.cells #[.int .i64 s1,.int .i64 (i:Int)] 307)):=(Below.refl _ _).alloc (Nat.le_refl _) _
          have hS8:=hS.below hal
          have hA8:=Apart.new hS 307 [.int .i64 s1,.int .i64 (i:Int)]
          have hO8:=oa7 hO hal
          have hll:l1.length≤100000:=by have:=hK1.idsLen;rw[sp7]at this;omega
          have HTK:=hid (kz7 hS8.pile hll)
          have hXX:w.heap.size<wi.heap.size∧wi.heap.size≠gin:=by have:=hS.inn.lt;omega
          obtain⟨Y,hY⟩:∃Y,Y=wi.heap.size:=⟨_,rfl⟩
          rw[← hY]at hA8 hXX
          have HS8:=hid hS8
          have HA8:=hid hA8
          have HO8:=hid hO8
          go_wp2_with fail
          rw[← hY]
          clear hY hS hA hO hL hP1 hS8 hA8 hO8 hal a0 a1 hK1 hpl
          refine HTK.out.mono ?_
          rintro e w9 ⟨⟨z1,z2⟩,ok2,l2,rfl,hno,hyes,hP9,hK9,hA9⟩
          replace hyes:=fun h=>(hyes h).1
          simp only[]at hyes ⊢
          have hS9:=HS8.out.keep hK9 hP9
          have hA10:=hA9 _ _ _ HA8.out
          have hO9:=hK9.owns HO8.out (by decide) (by decide)
          have b0:=hA10.1.cell (j:=0) (by simp)
          have b1:=hA10.1.cell (j:=1) (by simp)
          have d0:=hA10.1.frozen 0
          have d1:=hA10.1.frozen 1
          have hA11:=hA10.setX (j:=0) (by simp) (.int .i64 z1)
          have b2:=hA11.1.cell (j:=1) (by simp)
          have hA12:=hA11.setX (j:=1) (by simp) (.int .i64 z2)
          have HS12:=hid ((hS9.setX hA10 hXX 0 (.int .i64 z1)).setX hA11 hXX 1 (.int .i64 z2))
          have HO12:=hid (la7 (la7 hO9 hA10.1 (by decide) 0 (.int .i64 z1)) hA11.1 (by decide) 1 (.int .i64 z2))
          simp only[List.set_cons_zero,List.set_cons_succ,List.getElem_cons_zero,List.getElem_cons_succ]at b0 b1 b2 hA12
          have HA12:=hid hA12
          have HNO:=hid hno
          have HYES:=hid hyes
          have HLN:=hid (show n1+1=(out++[i]).length from by rw[List.length_append,List.length_singleton,HN1.out])
          clear hno hyes hP9 hK9 hA9 hS9 hA10 hO9 hA11 hA12 HS8 HA8 HO8 HTK
          go_wp2
          go_roundw
          case rel=>exact⟨out++[i],ao',cp',Y,ok2,z1,z2,l2,l1,ins1,D1,by rw[HLN.out],rfl,rfl,by rw[← HLN.out];exact HO12.out,HK1.out,HF.out,HPL.out,HNO.out,HYES.out,HS12.out,HA12.out,hXX⟩
          case measure=>have:=HN1.out;simp[sliceLen];omega
end Go.Proofs.YtabadfkikdefeaaGreat
