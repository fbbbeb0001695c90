/- Texts of the proof, joined: OwnSet, Drafter, Cost, DraftD, DraftG, KahnD, LateD, SoonD, PlanBd, ClockD. -/
import Derived.Test.YtabadfkikdefeaaGreatPlanClone
set_option linter.all false
set_option maxRecDepth 100000
set_option maxHeartbeats 6400000
namespace Go.Proofs.YtabadfkikdefeaaGreat
open Go.RowKit
theorem getD_at {α:Type}{l:List α}{k:Nat}{d:α}(h:k<l.length):l.getD k d=l[k]:=by rw[List.getD_eq_getElem?_getD,List.getElem?_eq_getElem h];rfl
theorem fk7.cell {TT TS:Nat}{w:World}{B gs c k j:Nat}{v u:Value}{out:List (List ea7)}{vs:List Value}{t t':List ea7}(h:fk7 TT TS w B v out vs) (hne:TS≠TT) (hk:k<out.length) (ht:out[k]=t)
  (hv:vs.getD k undef = .slice (some ⟨gs,0,none⟩) t.length c) (hl:t'.length=t.length) (hc:t'.flatMap stopV=(t.flatMap stopV).set j u):fk7 TT TS (w.setCell ⟨gs,j,none⟩ u) B v (out.set k t') vs:=by
 have hk':k<vs.length:=by rw[h.len];exact hk
 have hrow:=h.rows k hk hk'
 rw[ht,← getD_at hk',hv]at hrow
 have hst:=hrow.stored j u
 have hblk:(vs[k]).ownBlock=some gs:=by rw[← getD_at (d:=undef) hk',hv];rfl
 refine⟨?_,by simp[h.len],fun i h1 h2=>?_,h.apart⟩
 ·rw[List.length_set]
  refine h.own.kept hst.2 ?_
  rw[← hblk]
  exact fb7 h.own (h.rows k hk hk') (Ne.symm hne)
 ·have hi:i<out.length:=by simpa using h1
  have hi':i<vs.length:=by rw[h.len];exact hi
  by_cases e:k=i
  ·subst e
   have e2:(out.set k t')[k]'h1=t':=by simp
   rw[e2,hl,hc,← getD_at (d:=undef) hi',hv]
   exact hst.1
  ·have e2:(out.set k t')[i]'h1=out[i]:=by simp only[List.getElem_set,if_neg e]
   rw[e2]
   refine (h.rows i hi hi').kept hst.2 ?_
   rw[← hblk]
   exact h.apart i _ hi' hk' (Ne.symm e)
theorem fk7.stops {TT TS:Nat}{w w1:World}{B g cap k:Nat}{out:List (List ea7)}{vs:List Value}{u:Value}{t':List ea7}(h:fk7 TT TS w B (.slice (some ⟨g,0,none⟩) out.length cap) out vs) (hne:TS≠TT) (hk:k<out.length)
  (hg:w.grownBy w1 (vs.getD k undef).ownBlock) (hu:w1.ownsRow B TS 2 u t'.length (t'.flatMap stopV)) (hat:u.ownBlock=(vs.getD k undef).ownBlock∨∃b,u.ownBlock=some b∧w.heap.size≤b) :
  fk7 TT TS (w1.setCell ⟨g,k,none⟩ u) B (.slice (some ⟨g,0,none⟩) out.length cap) (out.set k t') (vs.set k u):=by
 have hk':k<vs.length:=by rw[h.len];exact hk
 rw[getD_at hk']at hg hat
 have hrow:=h.rows k hk hk'
 have howngrow:w1.ownsRow B TT 1 (.slice (some ⟨g,0,none⟩) out.length cap) out.length vs:=h.own.kept hg (fb7 h.own hrow (Ne.symm hne))
 have hst:=howngrow.stored k u
 have hlen:(out.set k t').length=out.length:=by simp
 have hug:u.ownBlock=none∨u.ownBlock≠some g:=fb7 hu howngrow hne
 refine⟨by rw[hlen];exact hst.1,by simp[h.len],fun i h1 h2=>?_,fun i j hi hj hij=>?_⟩
 ·have hi:i<out.length:=by simpa using h1
  have hi':i<vs.length:=by rw[h.len];exact hi
  by_cases e:k=i
  ·subst e
   have e1:(vs.set k u)[k]'h2=u:=by simp
   have e2:(out.set k t')[k]'h1=t':=by simp
   rw[e1,e2]
   exact hu.kept hst.2 hug
  ·have e1:(vs.set k u)[i]'h2=vs[i]:=by rw[List.getElem_set_ne e]
   have e2:(out.set k t')[i]'h1=out[i]:=by simp only[List.getElem_set,if_neg e]
   rw[e1,e2]
   have k1:=(h.rows i hi hi').kept hg (h.apart i _ hi' hk' (Ne.symm e))
   exact k1.kept hst.2 (fb7 k1 howngrow hne)
 ·have hlt:=h.blockLt
  simp only[List.length_set]at hi hj
  simp only[List.getElem_set]
  split
  ·rename_i ei
   split
   ·omega
   ·rename_i ej
    rcases hat with e | ⟨b,e,hb⟩
    ·rw[e];exact h.apart _ j hk' hj ej
    ·refine .inr fun e'=>?_
     have:=hlt j hj b (by rw[← e',e]);omega
  ·rename_i ei
   split
   ·rename_i ej
    rcases hat with e | ⟨b,e,hb⟩
    ·rw[e];exact h.apart i _ hi hk' (by omega)
    ·refine .inr fun e'=>?_
     have:=hlt i hi b (by rw[e',e]);omega
   ·exact h.apart i j hi hj hij
theorem dm7.cell {TB TI:Nat}{w:World}{B gs c k j:Nat}{v:Value}{out:List ga7}{vs:List Value}{x:Int}(h:dm7 TB TI w B v out vs) (hne:TI≠TB) (hk:k<out.length)
  (hv:vs.getD k undef = .slice (some ⟨gs,0,none⟩) (out[k]).stops.length c):dm7 TB TI (w.setCell ⟨gs,j,none⟩ (.int .i64 x)) B v (out.set k ⟨(out[k]).sat,(out[k]).stops.set j x⟩) vs:=by
 have hk':k<vs.length:=by rw[h.len];exact hk
 have hrow:=h.rows k hk hk'
 rw[← getD_at (d:=undef) hk',hv]at hrow
 have hst:=hrow.stored j (.int .i64 x)
 have hblk:(vs[k]).ownBlock=some gs:=by rw[← getD_at (d:=undef) hk',hv];rfl
 have hvk:vs[k] = .slice (some ⟨gs,0,none⟩) (out[k]).stops.length c:=by rw[← getD_at (d:=undef) hk',hv]
 have hcells:je7 (out.set k ⟨(out[k]).sat,(out[k]).stops.set j x⟩) vs=je7 out vs:=by
  have h0:=bo7 out vs k hk h.len ⟨(out[k]).sat,(out[k]).stops.set j x⟩ vs[k]
  rw[gn7 (List.getElem?_eq_getElem hk'),gn7 (mk7 out vs k hk hk').1,gn7 (mk7 out vs k hk hk').2]at h0
  exact h0
 refine⟨?_,by simp[h.len],fun i h1 h2=>?_,h.apart⟩
 ·rw[List.length_set,hcells]
  refine h.own.kept hst.2 ?_
  rw[← hblk]
  exact fb7 h.own (h.rows k hk hk') (Ne.symm hne)
 ·have hi:i<out.length:=by simpa using h1
  have hi':i<vs.length:=by rw[h.len];exact hi
  by_cases e:k=i
  ·subst e
   have e2:(out.set k ⟨(out[k]).sat,(out[k]).stops.set j x⟩)[k]'h1=⟨(out[k]).sat,(out[k]).stops.set j x⟩:=by simp
   rw[e2,hvk]
   simp only[List.length_set,List.map_set]
   exact hst.1
  ·have e2:(out.set k ⟨(out[k]).sat,(out[k]).stops.set j x⟩)[i]'h1=out[i]:=by simp only[List.getElem_set,if_neg e]
   rw[e2]
   refine (h.rows i hi hi').kept hst.2 ?_
   rw[← hblk]
   exact h.apart i _ hi' hk' (Ne.symm e)
theorem dm7.sat {TB TI:Nat}{w:World}{B g cap k:Nat}{out:List ga7}{vs:List Value}{x:Int}(h:dm7 TB TI w B (.slice (some ⟨g,0,none⟩) out.length cap) out vs) (hne:TI≠TB) (hk:k<out.length) :
  dm7 TB TI (w.setCell ⟨g,2*k,none⟩ (.int .i64 x)) B (.slice (some ⟨g,0,none⟩) out.length cap) (out.set k ⟨x,(out[k]).stops⟩) vs:=by
 have hk':k<vs.length:=by rw[h.len];exact hk
 have hst:=h.own.stored (2*k) (.int .i64 x)
 have hcells:je7 (out.set k ⟨x,(out[k]).stops⟩) vs=(je7 out vs).set (2*k) (.int .i64 x):=by
  have h0:=bo7 out vs k hk h.len ⟨x,(out[k]).stops⟩ vs[k]
  rw[gn7 (List.getElem?_eq_getElem hk')]at h0
  rw[h0,gn7]
  rw[List.getElem?_set_ne (by omega)]
  exact (mk7 out vs k hk hk').2
 refine⟨by rw[List.length_set,hcells];exact hst.1,by simp[h.len],fun i h1 h2=>?_,h.apart⟩
 have hi:i<out.length:=by simpa using h1
 have hi':i<vs.length:=by rw[h.len];exact hi
 have hkeep:=(h.rows i hi hi').kept hst.2 (fb7 (h.rows i hi hi') h.own hne)
 by_cases e:k=i
 ·subst e
  have e2:(out.set k ⟨x,(out[k]).stops⟩)[k]'h1=⟨x,(out[k]).stops⟩:=by simp
  rw[e2]
  exact hkeep
 ·have e2:(out.set k ⟨x,(out[k]).stops⟩)[i]'h1=out[i]:=by simp only[List.getElem_set,if_neg e]
  rw[e2]
  exact hkeep
structure Mut (ts:List TypeId) (B:Nat) (w w':World):Prop where
 bel:Below B w w'
 old:∀(b:Nat) (cs:Array Value) (e:TypeId) (fz:Nat×Nat),w.heap[b]? = some (.cells cs e fz)→e ∉ ts→w'.heap[b]? = some (.cells cs e fz)
section
variable {ts:List TypeId} {B:Nat} {w w1 w':World}
theorem Mut.refl (ts:List TypeId) (B:Nat) (w:World):Mut ts B w w:=⟨Below.refl _ _,fun _ _ _ _ h _=>h⟩
theorem Mut.trans (h:Mut ts B w w1) (k:Mut ts B w1 w'):Mut ts B w w':=⟨h.bel.trans k.bel,fun b cs e fz hb h1=>k.old b cs e fz (h.old b cs e fz hb h1) h1⟩
theorem Mut.of_grown {row:Option Nat}(hg:w.grownBy w' row) (hB:B≤w.heap.size) (hr:∀b,row=some b→B≤b∧∃cs e fz,w.heap[b]? = some (.cells cs e fz)∧e∈ts):Mut ts B w w':=by
 refine⟨(Below.refl B w).grown hg hB (fun k hk=>(hr k hk).1),fun b cs e fz hb h1=>?_⟩
 rw[hg.block b (Array.getElem?_eq_some_iff.1 hb).1 (fun e'=>?_)]
 ·exact hb
 ·obtain⟨-,cs',e'',fz',hb',ht⟩:=hr b e'.symm
  rw[hb]at hb'
  simp only[Option.some.injEq,Obj.cells.injEq]at hb'
  obtain⟨-,rfl,-⟩:=hb'
  exact h1 ht
theorem Mut.below (hb:Below w.heap.size w w') (hB:B≤w.heap.size):Mut ts B w w' :=
 .of_grown (row:=none) ⟨hb.os,hb.tape,hb.output,hb.size,fun k hk _=>hb.block k hk⟩ hB fun _ h=>by cases h
theorem Mut.set {g:Nat}{e:TypeId}{cs:List Value}(h:Row w g e cs) (he:e∈ts) (hB:B≤g) (j:Nat) (u:Value):Mut ts B w (w.setCell ⟨g,j,none⟩ u):=by
 have hl:=h.lt
 obtain⟨cur,rest,h1,-⟩:=h
 exact .of_grown (pg7 w ⟨g,j,none⟩ u) (by omega) fun b hb=>by
  obtain rfl:=Option.some.inj hb
  exact⟨hB,cur,e,(0,0),h1,he⟩
theorem Mut.append {B' k n T:Nat}{v:Value}{xs:List Value}(h:w.ownsRow B' T k v n xs) (hT:T∈ts) (hg:w.grownBy w' v.ownBlock) (hB:B≤w.heap.size) (hB':B≤B'):Mut ts B w w' :=
 .of_grown hg hB fun b hb=>by
  have hl:=h.lt b hb
  obtain⟨cs,cur,rest,h1,-⟩:=eg7 h hb
  exact⟨by omega,cur,T,_,h1,hT⟩
theorem Mut.row {g:Nat}{e:TypeId}{cs:List Value}(h:Mut ts B w w') (hr:Row w g e cs) (h1:e ∉ ts):Row w' g e cs:=by
 obtain⟨cur,rest,h3,h4⟩:=hr
 exact⟨cur,rest,h.old _ _ _ _ h3 h1,h4⟩
theorem Mut.owns {B' e k n:Nat}{v:Value}{xs:List Value}(h:Mut ts B w w') (hr:w.ownsRow B' e k v n xs) (h1:e ∉ ts):w'.ownsRow B' e k v n xs:=by
 refine⟨hr.1, ?_⟩
 rcases hr.2 with hn | ⟨g,cap,cur,rfl,hb,hgg,rest⟩
 ·exact .inl hn
 ·exact .inr ⟨g,cap,cur,rfl,hb,h.old _ _ _ _ hgg h1,rest⟩
theorem Mut.drew (h:Mut ts B w w'):Mut ts B w w'.drew:=⟨h.bel.drew,h.old⟩
end
def dts:List TypeId:=[260,2,288]
def ynb7 (w:World) (B qd:Nat) (fr:List Int) (arcs:List ay7):Prop :=
 ∃aa ca af cf,Row w qd 288 [.int .i64 (fr.length:Int),.slice aa arcs.length ca,.slice af fr.length cf]∧w.ownsRow B 260 3 (.slice aa arcs.length ca) arcs.length (arcs.flatMap gdc7) ∧
  w.ownsRow B 2 1 (.slice af fr.length cf) fr.length (fr.map ib7)∧B≤qd
theorem ynb7.below {w w':World}{B qd:Nat}{fr:List Int}{arcs:List ay7}(h:ynb7 w B qd fr arcs) (hb:Below w.heap.size w w'):ynb7 w' B qd fr arcs:=by
 obtain⟨aa,ca,af,cf,R,O1,O2,hq⟩:=h
 exact⟨aa,ca,af,cf,R.below hb,oa7 O1 hb,oa7 O2 hb,hq⟩
theorem ynb7.le {w:World}{B qd:Nat}{fr:List Int}{arcs:List ay7}(h:ynb7 w B qd fr arcs):B≤w.heap.size:=by
 obtain⟨aa,ca,af,cf,R,O1,O2,hq⟩:=h
 have:=R.lt;omega
theorem yvb7:(Tryz.prog.info? 260).map (fun i=>(i.zero,i.size,i.bytes))=some (some (.agg #[.int .i64 0,.int .i64 0,.int .i64 0]),3,24):=by kernel_rfl
theorem zz7 {w:World}{B qd:Nat}{fr:List Int}{arcs:List ay7}(h:ynb7 w B qd fr arcs) (hl:fr.length≤100000) (f:Int) :
  Calls Tryz.prog 185 #[.pointer (some ⟨qd,0,none⟩),.int .i64 f] w fun e w'=>e = .returned (.int .i64 (fr.length:Int))∧ynb7 w' B qd (fr++[f]) arcs∧Mut dts B w w':=by
 have hB:=h.le
 obtain⟨aa,ca,af,cf,R,O1,O2,hq⟩:=h
 have c2:=R.cell (j:=2) (by simp)
 simp only[List.getElem_cons_zero,List.getElem_cons_succ]at c2
 have hlb:(fr.length:Int)≤100000:=by omega
 obtain⟨n,hn⟩:∃n,n=fr.length:=⟨_,rfl⟩
 rw[← hn]at R O2 c2 hlb ⊢
 have HN:=hid hn
 have hown1:=O2.alloc (.cells #[.int .i64 f] 2)
 have R1:=R.alloc (.cells #[.int .i64 f] 2)
 have HO1:=hid (O1.alloc (.cells #[.int .i64 f] 2))
 have HM1:=hid (Mut.below (ts:=dts) (B:=B) ((Below.refl w.heap.size w).alloc (Nat.le_refl _) (.cells #[.int .i64 f] 2)) hB)
 obtain⟨i1,hi,hi0,hi1,hi2⟩:=info_parts gj7
 clear hn hl
 go_enter Tryz.func185,Tryz.ntmps185
 go_wp2_with (at_builtin;refine wpList_append_own _ rfl _ _ 78 rfl B 2 i1 (.int .i64 0) 1 8 Tryz.underlying78 hi hi0 hi1 hi2 rfl (by decide) _ _ _ rfl hown1 ⟨w.heap.size,0,none⟩ 1 1 [.int .i64 f] rfl rfl ?k1 ?k2 ?k3 ?k4 ?k5 ?_)
 case k1=>exact cell_one_new _ _ _
 case k2=>first | rfl | (intro u hu;simp at hu;subst hu;rfl)
 case k3=>unfold maxLen;omega
 case k4=>omega
 case k5=>first | omega | (simp;omega)
 intro v' w2 hown' hgrow _
 obtain⟨ao',cp',hv',-,-⟩:=xa7 hown'
 subst hv'
 have R2:=R1.grown hown1 (by decide) hgrow
 have HO2:=hid (HO1.out.kept hgrow (fb7 HO1.out hown1 (by decide)))
 have HM2:=hid (HM1.out.trans (Mut.append hown1 (by decide) hgrow (by simp;omega) (Nat.le_refl _)))
 have d2:=R2.cell (j:=2) (by simp)
 have f2:=R2.frozen 2
 simp only[List.getElem_cons_zero,List.getElem_cons_succ]at d2
 have R3:=R2.set (j:=2) (by simp) (.slice ao' (n+1) cp')
 have HO3:=hid (la7 HO2.out R2 (by decide) 2 (.slice ao' (n+1) cp'))
 have HOF3:=hid (la7 hown' R2 (by decide) 2 (.slice ao' (n+1) cp'))
 have HM3:=hid (HM2.out.trans (Mut.set R2 (by decide) hq 2 (.slice ao' (n+1) cp')))
 clear hown' hgrow hown1 hi hi0 hi1 hi2 R R1 O1 O2 c2
 go_upto_region 2 with fail
 generalize w2.setCell ⟨qd,2,none⟩ (.slice ao' (n+1) cp')=w3 at R3 HO3 HOF3 HM3 ⊢
 have d0:=R3.cell (j:=0) (by simp)
 have f0:=R3.frozen 0
 simp only[List.set_cons_zero,List.set_cons_succ,List.getElem_cons_zero]at d0 R3
 have R4:=R3.set (j:=0) (by simp) (.int .i64 ((n:Int)+1))
 have HO4:=hid (la7 HO3.out R3 (by decide) 0 (.int .i64 ((n:Int)+1)))
 have HOF4:=hid (la7 HOF3.out R3 (by decide) 0 (.int .i64 ((n:Int)+1)))
 have HM4:=hid (HM3.out.trans (Mut.set R3 (by decide) hq 0 (.int .i64 ((n:Int)+1))))
 clear d2 f2 R2
 go_upto_region 3 with fail
 generalize w3.setCell ⟨qd,0,none⟩ (.int .i64 ((n:Int)+1))=w4 at R4 HO4 HOF4 HM4 ⊢
 have g0:=R4.cell (j:=0) (by simp)
 simp only[List.set_cons_zero,List.getElem_cons_zero]at g0 R4
 have HD:=hid (show ynb7 w4 B qd (fr++[f]) arcs from by
  have e:(fr++[f]).length=n+1:=by rw[List.length_append,List.length_singleton,HN.out]
  refine⟨aa,ca,ao',cp', ?_,HO4.out, ?_,hq⟩
  ·rw[e];push_cast;exact R4
  ·rw[e,List.map_append];exact HOF4.out)
 clear d0 f0 R3 R4
 go_wp2
 go_ret
 exact⟨by simp,HD.out,HM4.out⟩
theorem yt7 {w:World}{B qd:Nat}{fr:List Int}{arcs:List ay7}(h:ynb7 w B qd fr arcs) (hl:arcs.length≤100000) (s:ay7) :
  Calls Tryz.prog 186 #[.pointer (some ⟨qd,0,none⟩),.int .i64 (s.frm:Int),.int .i64 (s.dst:Int),.int .i64 s.wt] w fun e w'=>e = .returned (.tuple #[])∧ynb7 w' B qd fr (arcs++[s])∧Mut dts B w w':=by
 have hB:=h.le
 obtain⟨aa,ca,af,cf,R,O1,O2,hq⟩:=h
 obtain⟨s1,s2,s3⟩:=s
 simp only[]
 have c1:=R.cell (j:=1) (by simp)
 simp only[List.getElem_cons_zero,List.getElem_cons_succ]at c1
 have hlb:(arcs.length:Int)≤100000:=by omega
 obtain⟨n,hn⟩:∃n,n=arcs.length:=⟨_,rfl⟩
 rw[← hn]at R O1 c1 hlb
 have HN:=hid hn
 have hown1:=O1.alloc (.cells #[.int .i64 (s1:Int),.int .i64 (s2:Int),.int .i64 s3] 260)
 have R1:=R.alloc (.cells #[.int .i64 (s1:Int),.int .i64 (s2:Int),.int .i64 s3] 260)
 have HO1:=hid (O2.alloc (.cells #[.int .i64 (s1:Int),.int .i64 (s2:Int),.int .i64 s3] 260))
 have HM1:=hid (Mut.below (ts:=dts) (B:=B) ((Below.refl w.heap.size w).alloc (Nat.le_refl _) (.cells #[.int .i64 (s1:Int),.int .i64 (s2:Int),.int .i64 s3] 260)) hB)
 obtain⟨i1,hi,hi0,hi1,hi2⟩:=info_parts yvb7
 clear hn hl
 go_enter Tryz.func186,Tryz.ntmps186
 go_wp2_with (at_builtin;refine wpList_append_own _ rfl _ _ 241 rfl B 260 i1 (.agg #[.int .i64 0,.int .i64 0,.int .i64 0]) 3 24 Tryz.underlying241 hi hi0 hi1 hi2 rfl (by decide) _ _ _ rfl hown1 ⟨w.heap.size,0,none⟩ 1 1 [.int .i64 (s1:Int),.int .i64 (s2:Int),.int .i64 s3] rfl rfl ?k1 ?k2 ?k3 ?k4 ?k5 ?_)
 case k1=>exact ak7 (cs:=[.int .i64 (s1:Int),.int .i64 (s2:Int),.int .i64 s3]) rfl _
 case k2=>intro u hu;simp at hu;rcases hu with rfl | rfl | rfl <;> rfl
 case k3=>unfold maxLen;omega
 case k4=>omega
 case k5=>first | omega | (simp;omega)
 intro v' w2 hown' hgrow _
 obtain⟨ao',cp',hv',-,-⟩:=xa7 hown'
 subst hv'
 have R2:=R1.grown hown1 (by decide) hgrow
 have HO2:=hid (HO1.out.kept hgrow (fb7 HO1.out hown1 (by decide)))
 have HM2:=hid (HM1.out.trans (Mut.append hown1 (by decide) hgrow (by simp;omega) (Nat.le_refl _)))
 have d1:=R2.cell (j:=1) (by simp)
 have f1:=R2.frozen 1
 simp only[List.getElem_cons_zero,List.getElem_cons_succ]at d1
 have R3:=R2.set (j:=1) (by simp) (.slice ao' (n+1) cp')
 simp only[List.set_cons_zero,List.set_cons_succ]at R3
 have HD:=hid (show ynb7 (w2.setCell ⟨qd,1,none⟩ (.slice ao' (n+1) cp')) B qd fr (arcs++[⟨s1,s2,s3⟩]) from by
  have e:(arcs++[(⟨s1,s2,s3⟩:ay7)]).length=n+1:=by rw[List.length_append,List.length_singleton,HN.out]
  refine⟨ao',cp',af,cf, ?_, ?_,la7 HO2.out R2 (by decide) _ _,hq⟩
  ·rw[e];exact R3
  ·rw[e,List.flatMap_append]
   exact la7 hown' R2 (by decide) _ _)
 have HM3:=hid (HM2.out.trans (Mut.set R2 (by decide) hq 1 (.slice ao' (n+1) cp')))
 clear hown' hgrow hown1 hi hi0 hi1 hi2 R R1 O1 O2 c1 R3 R2
 go_wp2
 go_end0
 exact⟨rfl,HD.out,HM3.out⟩
def jy7 (x:ba7) (l:List (List ea7)) (k:Nat):Int:=((l.take k).map fun t=>ttb7 x (xb7 t)).sum
def nt7 (x:ba7) (l:List ga7) (k:Nat):Int:=((l.take k).map fun b=>ttb7 x (dc7 x b)).sum
def ric7 (x:ba7) (p:ab7):Int:=jy7 x p.trucks p.trucks.length+nt7 x p.bikes p.bikes.length
theorem sz7 {x:ba7}{l:List (List ea7)}{k:Nat}(h:k<l.length):jy7 x l (k+1)=jy7 x l k+ttb7 x (xb7 l[k]):=by
 unfold jy7;rw[List.take_succ_eq_append_getElem h,List.map_append,List.sum_append];simp
theorem cz7 {x:ba7}{l:List ga7}{k:Nat}(h:k<l.length):nt7 x l (k+1)=nt7 x l k+ttb7 x (dc7 x l[k]):=by
 unfold nt7;rw[List.take_succ_eq_append_getElem h,List.map_append,List.sum_append];simp
theorem ebb7 {x:ba7}(g:Good x) (l:List Int):0≤ttb7 x l∧ttb7 x l≤1000000000*(l.length:Int):=vab7 g l l.length
theorem amb7 {x:ba7}(g:Good x) (l:List (List ea7)):∀k:Nat,k≤l.length→0≤jy7 x l k∧jy7 x l k≤1000000000*((k+gb7 l k:Nat):Int)
 | 0,_=>by unfold jy7 gb7;simp
 | k+1,h=>by
  have h1:=amb7 g l k (by omega)
  have h2:=ebb7 g (xb7 (l[k]'(by omega)))
  have h3:(xb7 (l[k]'(by omega))).length=(l[k]'(by omega)).length+1:=by simp[xb7]
  rw[h3]at h2
  rw[sz7 (by omega),df7 (by omega)]
  push_cast at h1 h2 ⊢; omega
theorem kkb7 {x:ba7}(g:Good x) (l:List ga7):∀k:Nat,k≤l.length→0≤nt7 x l k∧nt7 x l k≤1000000000*((k+pb7 l k:Nat):Int)
 | 0,_=>by unfold nt7 pb7;simp
 | k+1,h=>by
  have h1:=kkb7 g l k (by omega)
  have h2:=ebb7 g (dc7 x (l[k]'(by omega)))
  have h3:(dc7 x (l[k]'(by omega))).length=(l[k]'(by omega)).stops.length+1:=by simp[dc7]
  rw[h3]at h2
  rw[cz7 (by omega),re7 (by omega)]
  push_cast at h1 h2 ⊢; omega
def lj7 (x:ba7) (p:ab7):Int:=if ya7 x p=0 then ric7 x p else 0
def gg7 (x:ba7) (c:Int):Prop:=0≤c∧c<x.custs.length
theorem tbb7 {x:ba7}{m:Nat}{c:Int}(h:ae7 x m c=false):gg7 x c:=by
 simp only[ae7,Bool.or_eq_false_iff,decide_eq_false_iff_not]at h
 unfold gg7;omega
theorem my7 {x:ba7}:∀(l:List Int) (m:Nat) (left:Int) (r:Nat×Int),l.foldl (ni7 x) (some (m,left))=some r→∀s∈l,gg7 x s
 | [],_,_,_,_,s,hs=>by cases hs
 | a::l,m,left,r,h,s,hs=>by
  rw[List.foldl_cons]at h
  cases hb:ae7 x m a
  ·rw[uq7 hb]at h
   rcases List.mem_cons.1 hs with rfl | hs
   ·exact tbb7 hb
   ·exact my7 l _ _ r h s hs
  ·rw[nn7 hb,kn7]at h;cases h
def ko7 (x:ba7) (b:ga7):Prop:=(0≤b.sat∧b.sat<x.sats.length)∧0<b.stops.length∧∀c∈b.stops,gg7 x c
theorem vv7 {x:ba7}:∀(l:List ga7) (m:Nat) (d:Bool),(bi7 x l m d).1=true→∀b∈l,ko7 x b
 | [],_,_,_,_,h=>by cases h
 | a::l,m,d,h,b,hb=>by
  cases ha:bg7 x a
  case true=>rw[pn7 ha]at h;cases h
  cases hs:pq7 x m a.stops with
  | none=>rw[ll7 hs]at h;cases h
  | some q =>
   obtain⟨m',left⟩:=q
   rw[up7 ha hs]at h
   rcases List.mem_cons.1 hb with rfl | hb
   ·simp only[bg7,Bool.or_eq_false_iff,decide_eq_false_iff_not]at ha
    exact⟨by omega,by omega,my7 _ _ _ _ hs⟩
   ·exact vv7 l _ _ h b hb
structure jdb7 (x:ba7) (p:ab7):Prop where
 inst:check x=0
 many:p.trucks.length≤x.tmany∧p.bikes.length≤x.bmany
 truck:∀t∈p.trucks,0<t.length∧∀s∈t,de7 x s
 bike:∀b∈p.bikes,ko7 x b
theorem aj7 {x:ba7}{p:ab7}(h:ya7 x p=0):jdb7 x p:=by
 unfold ya7 at h
 split at h
 ·rename_i h0;exact absurd h h0
 rename_i h0
 split at h
 ·cases h
 rename_i h1
 split at h
 ·cases h
 rename_i h2
 have h0':check x=0:=by simpa using h0
 have h3:(id7 x p.trucks).1=true∧(le7 x p.bikes).1=true:=by simpa using h2
 exact⟨h0',by omega,sy7 h3.1,vv7 _ _ _ h3.2⟩
theorem bbb7 {x:ba7}{t:List ea7}(h:∀s∈t,de7 x s):∀a∈xb7 t,0≤a∧a<nodes x:=by
 intro a ha
 simp only[xb7,List.mem_cons,List.mem_map]at ha
 unfold nodes
 rcases ha with rfl | ⟨s,hs,rfl⟩
 ·omega
 ·have:=(h s hs).1;omega
theorem ycb7 {x:ba7}{b:ga7}(h:ko7 x b):∀a∈dc7 x b,0≤a∧a<nodes x:=by
 intro a ha
 simp only[dc7,List.mem_cons,List.mem_map]at ha
 unfold nodes
 have h1:=h.1
 rcases ha with rfl | ⟨s,hs,rfl⟩
 ·omega
 ·have:=h.2.2 s hs;unfold gg7 at this;omega
theorem psb7 {w:World}{F G:Nat→Prop}{x:ba7}{p:ab7}{cs ps:List Value}(h:kb7.rep w F x cs) (hp:wd7.rep w G p ps) (hn:check x=0→x.custs.length≤6) (hsm:bd7 p) :
  Calls Tryz.prog 86 #[.agg cs.toArray,.agg ps.toArray] w fun e w'=>e = .returned (.tuple #[.int .i64 (lj7 x p),.int .i64 (ya7 x p)])∧Below w.heap.size w w':=by
 have hrep:=h
 have hprep:=hp
 obtain⟨s,c,co,ti,rfl,-,-,-,-,-⟩:=h
 obtain⟨tv,bv,rfl,h3,h4⟩:=hp
 obtain⟨a2,b2,off2,c2,hs2,hl2,hc2,ha2,-,hcell2⟩:=lc7 h3
 obtain rfl:=List.cons.inj hs2 |>.1
 obtain⟨a4,b4,off4,c4,hs4,hl4,hc4,ha4,-,hcell4⟩:=zc7 h4
 obtain rfl:=List.cons.inj hs4 |>.1
 clear hs2 hs4 h3 h4
 have R:=(Row.new (w:=w) (e:=57) (cs:=[.int .i64 x.fin,.int .i64 x.tmany,.int .i64 x.troom,.int .i64 x.bmany,.int .i64 x.broom,s,c,co,ti]) rfl).alloc (.cells #[.slice a2 p.trucks.length c2,.slice a4 p.bikes.length c4] 37)
 have RP:=Row.new (w:=w.alloc (.cells #[.int .i64 x.fin,.int .i64 x.tmany,.int .i64 x.troom,.int .i64 x.bmany,.int .i64 x.broom,s,c,co,ti] 57)) (e:=37) (g:=w.heap.size+1) (cs:=[.slice a2 p.trucks.length c2,.slice a4 p.bikes.length c4]) (by simp)
 have hb0:Below w.heap.size w ((w.alloc (.cells #[.int .i64 x.fin,.int .i64 x.tmany,.int .i64 x.troom,.int .i64 x.bmany,.int .i64 x.broom,s,c,co,ti] 57)).alloc (.cells #[.slice a2 p.trucks.length c2,.slice a4 p.bikes.length c4] 37)):=((Below.refl _ _).alloc (Nat.le_refl _) _).alloc (by simp) _
 have HS:=hid hsm
 have HC2:=hid hcell2
 have HC4:=hid hcell4
 clear hcell2 hcell4
 by_cases hpc:ya7 x p=0
 case neg =>
  have hck2:=xl7 hpc
  have HE:=hid (show lj7 x p=0 from if_neg hpc)
  clear hpc
  go_enter Tryz.func86,Tryz.ntmps86
  go_wp2_with fail
  refine (jh7 (kb7.below hrep hb0) (wd7.below hprep hb0) hn hsm).mono ?_
  rintro e w1 ⟨rfl,hb1⟩
  clear hsm
  go_wp2
  go_ret2
  exact⟨by rw[HE.out];rfl,ca7 hb0 hb1⟩
 have ok:=aj7 hpc
 have gd:=li7 ok.inst
 have hss:=gd.sats
 have hn6:=hn ok.inst
 have hmn:=ok.many
 have htm:=gd.tmany
 have hbm:=gd.bmany
 have OK:=hid ok
 have GD:=hid gd
 have HE:=hid (show lj7 x p=ric7 x p from if_pos hpc)
 have HPC:=hid hpc
 clear hpc ok gd
 go_enter Tryz.func86,Tryz.ntmps86
 go_wp2_with fail
 refine (jh7 (kb7.below hrep hb0) (wd7.below hprep hb0) hn hsm).mono ?_
 rintro e w1 ⟨rfl,hb1⟩
 rw[HPC.out]
 have R1:=R.below hb1
 have RP1:=RP.below hb1
 have hB1:=ca7 hb0 hb1
 have hz1:=RP1.lt
 have hts:=HS.out.2
 have hbs:=HS.out.1
 clear R RP hb0 hb1 hn hsm
 obtain⟨p0,p1⟩:=gf7 RP1
 go_wp2
 go_loopw [7,21] (fun ss i wr=>∃k:Nat,k≤p.trucks.length∧i = .int .i64 k∧ss = .int .i64 (jy7 x p.trucks k)∧Row wr w.heap.size 57 [.int .i64 x.fin,.int .i64 x.tmany,.int .i64 x.troom,.int .i64 x.bmany,.int .i64 x.broom,s,c,co,ti] ∧
   Row wr (w.heap.size+1) 37 [.slice a2 p.trucks.length c2,.slice a4 p.bikes.length c4]∧Below w.heap.size w wr) (fun _ i _=>p.trucks.length-(intOf i).toNat)
 case atStart=>exact⟨0,Nat.zero_le _,rfl,rfl,R1,RP1,hB1⟩
 case round =>
  clear p0 p1 R1 RP1 hB1 hz1
  obtain⟨k,hk,rfl,rfl,R,RP,hb⟩:=hrel
  obtain⟨wo,rfl⟩:∃wo:World,wo=wr:=⟨_,rfl⟩
  have hcb:=amb7 GD.out p.trucks k hk
  have htu:gb7 p.trucks k≤1000000:=by
   by_cases hlt:k<p.trucks.length
   ·have h1:=df7 hlt;have h2:=ip7 (l:=p.trucks) (k:=k+1);omega
   ·have:k=p.trucks.length:=by omega
    subst this;exact hts
  have hkk:1000000000*((k+gb7 p.trucks k:Nat):Int)≤1000000000*1000060:=by omega
  have hzz:=RP.lt
  by_cases hlt:k<p.trucks.length
  ·have hx:=ka7 (c:=c2) Tryz.underlying34 kh7 (ha2 (by omega)) hlt
   obtain⟨sv,g0,hr0⟩:=HC2.out k hlt
   have htl:=ft7 (List.getElem_mem hlt)
   have hok:=OK.out.truck _ (List.getElem_mem hlt)
   have HS2:=hid (sz7 (x:=x) hlt)
   obtain⟨tr,htr⟩:∃tr,tr=p.trucks[k]:=⟨_,rfl⟩
   obtain⟨sm,hsm⟩:∃sm,sm=jy7 x p.trucks k:=⟨_,rfl⟩
   rw[← htr]at hr0 htl hok HS2
   rw[← hsm]at hcb HS2 ⊢
   have hwb:=ebb7 GD.out (xb7 tr)
   have hnl:(xb7 tr).length=tr.length+1:=by simp[xb7]
   have HNL:=hid hnl
   have hwb2:ttb7 x (xb7 tr)≤1000000000*1000001:=by rw[hnl]at hwb;omega
   obtain⟨a3,b3,off3,c3,hs3,hl3,hc3,-,-,-,-⟩:=sd7 hr0
   obtain rfl:=List.cons.inj hs3 |>.1
   have g1:=aa7 hb g0
   have hrt:=(ia7 oe7).below hr0 hb
   clear htr hsm ha2 g0 hr0 hnl hs3
   go_wp2
   generalize hwq:wo.alloc (.cells #[.slice a3 tr.length c3] 124)=wq
   have HWQ:=hid hwq
   have hob:Old wo wq:=by rw[← hwq];exact (Below.refl _ _).alloc (Nat.le_refl _) _
   have k0:wq.cell? ⟨wo.heap.size,0,none⟩=some (.slice a3 tr.length c3):=by rw[← hwq];simp
   have R1:=R.below hob
   have RP1:=RP.below hob
   have hB1:=ca7 hb hob
   have hrt1:=(ia7 oe7).below hrt hob
   have hzq:wo.heap.size<wq.heap.size:=by rw[← hwq];simp
   clear hwq hob hrt R RP hb g1
   obtain⟨q0,q1,q2,q3,q4,q5,q6,q7,q8⟩:=wh7 R1
   have z0:∀e:At (Old wq),_:=fun e=>e.cell q0
   have z1:∀e:At (Old wq),_:=fun e=>e.cell q1
   have z2:∀e:At (Old wq),_:=fun e=>e.cell q2
   have z3:∀e:At (Old wq),_:=fun e=>e.cell q3
   have z4:∀e:At (Old wq),_:=fun e=>e.cell q4
   have z5:∀e:At (Old wq),_:=fun e=>e.cell q5
   have z6:∀e:At (Old wq),_:=fun e=>e.cell q6
   have z7:∀e:At (Old wq),_:=fun e=>e.cell q7
   have z8:∀e:At (Old wq),_:=fun e=>e.cell q8
   have z9:∀e:At (Old wq),_:=fun e=>e.cell k0
   refine ma7 (Old wq) [] [([0,1,2,3],4,false),([],5,false),([6],7,false)] (by kernel_rfl) (by kernel_rfl) (fun _ _ d _ _ h=>by cases d <;> exact h) (Old.drew _) ?_
   simp only[gd7,List.map_cons,List.map_nil,Array.getD_eq_getD_getElem?,List.getElem?_toArray,List.getElem?_cons_succ,List.getElem?_cons_zero,Option.getD_some,me7]
   repeat (go_big_quiet_step (fail))
   refine wpQuiet_nil ?_
   have hO0:=Old.drew wq
   go_wp2_with fail
   refine (ieb7 (kb7.below hrep (ca7 hB1 hO0)) ((ia7 oe7).below hrt1 hO0) (fun s hs=>by have:=(hok.2 s hs).1;omega) (by omega)).mono ?_
   rintro e w2 ⟨u,rfl,hu,hb2⟩
   have hO2:=hO0.step hb2
   go_wp2_with fail
   refine⟨hO2,wpQuiet_nil ?_⟩
   go_wp2_with fail
   refine (vec7 (kb7.below hrep (ca7 hB1 hO2)) hu OK.out.inst (bbb7 hok.2) (by rw[HNL.out];omega)).mono ?_
   rintro e w3 ⟨rfl,hb3⟩
   have hO3:=hO2.step hb3
   go_wp2_with fail
   refine⟨hO3, ?_⟩
   obtain⟨wd,hwd⟩:∃wd,wd=ttb7 x (xb7 tr):=⟨_,rfl⟩
   rw[← hwd]at hwb hwb2 HS2 ⊢
   clear hwd
   repeat (go_big_quiet_step (fail))
   refine wpQuiet_nil ?_
   go_wp2_with fail
   refine⟨hO3, ?_⟩
   go_wp2
   go_roundw
   case rel=>exact⟨k+1,by omega,by go_num,by rw[HS2.out],R1.below hO3,RP1.below hO3,ca7 hB1 hO3⟩
   case measure=>simp[intOf];omega
  ·have hke:k=p.trucks.length:=by omega
   subst hke
   obtain⟨T,hT⟩:∃T,T=jy7 x p.trucks p.trucks.length:=⟨_,rfl⟩
   rw[← hT]at hcb ⊢
   have HT:=hid hT
   have hTb:0≤T∧T≤1000000000*1000060:=by omega
   obtain⟨p0,p1⟩:=gf7 RP
   clear hT hcb htu hkk hk HC2 ha2
   go_wp2
   go_loopw [7,36] (fun ss i wr=>∃k:Nat,k≤p.bikes.length∧i = .int .i64 k∧ss = .int .i64 (T+nt7 x p.bikes k)∧Row wr w.heap.size 57 [.int .i64 x.fin,.int .i64 x.tmany,.int .i64 x.troom,.int .i64 x.bmany,.int .i64 x.broom,s,c,co,ti] ∧
     Below w.heap.size w wr) (fun _ i _=>p.bikes.length-(intOf i).toNat)
   case atStart=>exact⟨0,Nat.zero_le _,rfl,by unfold nt7;simp,R,hb⟩
   case round =>
    clear p0 p1 R RP hb hzz
    obtain⟨k,hk,rfl,rfl,R,hb⟩:=hrel
    obtain⟨wo,rfl⟩:∃wo:World,wo=wr:=⟨_,rfl⟩
    have hcb:=kkb7 GD.out p.bikes k hk
    have htu:pb7 p.bikes k≤1000000:=by
     by_cases hlt:k<p.bikes.length
     ·have h1:=re7 hlt;have h2:=qn7 (l:=p.bikes) (k:=k+1);omega
     ·have:k=p.bikes.length:=by omega
      subst this;exact hbs
    have hkk:1000000000*((k+pb7 p.bikes k:Nat):Int)≤1000000000*1000060:=by omega
    have hzz:=R.lt
    by_cases hlt:k<p.bikes.length
    ·have hx:=vb7 (c:=c4) Tryz.underlying35 vj7 (ha4 (by omega)) hlt
     obtain⟨sv,g0,g0',hwf0,hr0⟩:=HC4.out k hlt
     have htl:=bp7 (List.getElem_mem hlt)
     have hok:=OK.out.bike _ (List.getElem_mem hlt)
     have HS2:=hid (cz7 (x:=x) hlt)
     obtain⟨tr,htr⟩:∃tr,tr=p.bikes[k]:=⟨_,rfl⟩
     obtain⟨sm,hsm⟩:∃sm,sm=nt7 x p.bikes k:=⟨_,rfl⟩
     rw[← htr]at hr0 htl hok HS2 g0 hwf0
     rw[← hsm]at hcb HS2 ⊢
     have hwb:=ebb7 GD.out (dc7 x tr)
     have hnl:(dc7 x tr).length=tr.stops.length+1:=by simp[dc7]
     have HNL:=hid hnl
     have hwb2:ttb7 x (dc7 x tr)≤1000000000*1000001:=by rw[hnl]at hwb;omega
     obtain⟨a3,b3,off3,c3,hs3,hl3,hc3,-,-,-,-⟩:=bb7 hr0
     obtain rfl:=List.cons.inj hs3 |>.1
     have g1:=aa7 hb g0
     have g1':=aa7 hb g0'
     have hrt:=(ia7 hf7).below hr0 hb
     clear htr hsm ha4 g0 g0' hr0 hnl hs3
     go_wp2
     generalize hwq:wo.alloc (.cells #[.int .i64 tr.sat,.slice a3 tr.stops.length c3] 70)=wq
     have hob:Old wo wq:=by rw[← hwq];exact (Below.refl _ _).alloc (Nat.le_refl _) _
     have k0:wq.cell? ⟨wo.heap.size,0,none⟩=some (.int .i64 tr.sat):=by rw[← hwq];simp
     have k1:wq.cell? ⟨wo.heap.size,1,none⟩=some (.slice a3 tr.stops.length c3):=by rw[← hwq];simp
     have R1:=R.below hob
     have hB1:=ca7 hb hob
     have hrt1:cq7.rep wq G tr [.int .i64 tr.sat,.slice a3 tr.stops.length c3]:=⟨_,rfl,hwf0,(ia7 hf7).below hrt hob⟩
     have hzq:wo.heap.size<wq.heap.size:=by rw[← hwq];simp
     clear hwq hob hrt R hb g1 g1'
     obtain⟨q0,q1,q2,q3,q4,q5,q6,q7,q8⟩:=wh7 R1
     have z0:∀e:At (Old wq),_:=fun e=>e.cell q0
     have z1:∀e:At (Old wq),_:=fun e=>e.cell q1
     have z2:∀e:At (Old wq),_:=fun e=>e.cell q2
     have z3:∀e:At (Old wq),_:=fun e=>e.cell q3
     have z4:∀e:At (Old wq),_:=fun e=>e.cell q4
     have z5:∀e:At (Old wq),_:=fun e=>e.cell q5
     have z6:∀e:At (Old wq),_:=fun e=>e.cell q6
     have z7:∀e:At (Old wq),_:=fun e=>e.cell q7
     have z8:∀e:At (Old wq),_:=fun e=>e.cell q8
     have z9:∀e:At (Old wq),_:=fun e=>e.cell k0
     have z10:∀e:At (Old wq),_:=fun e=>e.cell k1
     refine ma7 (Old wq) [] [([0,1,2,3],4,false),([],5,false),([6],7,false)] (by kernel_rfl) (by kernel_rfl) (fun _ _ d _ _ h=>by cases d <;> exact h) (Old.drew _) ?_
     simp only[gd7,List.map_cons,List.map_nil,Array.getD_eq_getD_getElem?,List.getElem?_toArray,List.getElem?_cons_succ,List.getElem?_cons_zero,Option.getD_some,me7]
     repeat (go_big_quiet_step (fail))
     refine wpQuiet_nil ?_
     have hO0:=Old.drew wq
     go_wp2_with fail
     refine (ogb7 (kb7.below hrep (ca7 hB1 hO0)) (cq7.below hrt1 hO0) (by omega) (by have:=hok.1;omega) (fun s hs=>by have:=hok.2.2 s hs;unfold gg7 at this;omega) (by omega)).mono ?_
     rintro e w2 ⟨u,rfl,hu,hb2⟩
     have hO2:=hO0.step hb2
     go_wp2_with fail
     refine⟨hO2,wpQuiet_nil ?_⟩
     go_wp2_with fail
     refine (vec7 (kb7.below hrep (ca7 hB1 hO2)) hu OK.out.inst (ycb7 hok) (by rw[HNL.out];omega)).mono ?_
     rintro e w3 ⟨rfl,hb3⟩
     have hO3:=hO2.step hb3
     go_wp2_with fail
     refine⟨hO3, ?_⟩
     obtain⟨wd,hwd⟩:∃wd,wd=ttb7 x (dc7 x tr):=⟨_,rfl⟩
     rw[← hwd]at hwb hwb2 HS2 ⊢
     clear hwd
     repeat (go_big_quiet_step (fail))
     refine wpQuiet_nil ?_
     go_wp2_with fail
     refine⟨hO3, ?_⟩
     go_wp2
     go_roundw
     case rel=>exact⟨k+1,by omega,by go_num,by rw[HS2.out,Int.add_assoc],R1.below hO3,ca7 hB1 hO3⟩
     case measure=>simp[intOf];omega
    ·have hke:k=p.bikes.length:=by omega
     subst hke
     have HF:=hid (show lj7 x p=T+nt7 x p.bikes p.bikes.length from by rw[HE.out,HT.out];rfl)
     obtain⟨B,hB⟩:∃B,B=nt7 x p.bikes p.bikes.length:=⟨_,rfl⟩
     rw[← hB]at hcb HF ⊢
     clear hB HC4 ha4
     go_wp2
     go_ret2
     exact⟨by rw[HF.out,HPC.out];rfl,hb⟩
structure lib7 where
 sats:List Int
 order:List Int
 cuts:List Int
def atD (l:List Int) (i:Nat):Int:=l.getD (i % l.length) 0
def ro7 (bs:List ga7) (s:Int):Nat→Int
 | 0=>-1
 | k+1=>if (bs.getD k ⟨0,[]⟩).sat=s then (k:Int) else ro7 bs s k
theorem ceb7 (bs:List ga7) (s:Int):∀k,-1≤ro7 bs s k∧ro7 bs s k<k
 | 0=>by simp[ro7]
 | k+1=>by
  have:=ceb7 bs s k
  simp only[ro7]
  split <;> push_cast <;> omega
def vd7 (x:ba7) (c:Int):ar7:=x.custs.getD c.toNat ⟨0,0,0,0⟩
def nmc7 (x:ba7) (l:List Int) (n:Int) (j:Nat):Int:=n+((l.take j).map fun c=>(vd7 x c).load).sum
def ui7 (x:ba7) (w:lib7) (c:Nat):Nat:=(atD w.sats c % (x.sats.length:Int)).toNat
def rfc7 (x:ba7) (w:lib7) (i c:Nat) (bs:List ga7):Bool :=
 decide (0≤ro7 bs (ui7 x w c) bs.length)&&(decide (0<atD w.cuts i % 4)&&decide (nmc7 x (bs.getD (ro7 bs (ui7 x w c) bs.length).toNat ⟨0,[]⟩).stops (vd7 x c).load (bs.getD (ro7 bs (ui7 x w c) bs.length).toNat ⟨0,[]⟩).stops.length≤x.broom))
def kbc7 (bs:List ga7) (k:Nat) (c:Int):List ga7:=bs.set k ⟨(bs.getD k ⟨0,[]⟩).sat,(bs.getD k ⟨0,[]⟩).stops++[c]⟩
def ibb7 (x:ba7) (w:lib7) (i c:Nat) (bs:List ga7):List ga7 :=
 if rfc7 x w i c bs then kbc7 bs (ro7 bs (ui7 x w c) bs.length).toNat c else bs++[⟨ui7 x w c,[(c:Int)]⟩]
def ut7 (x:ba7) (w:lib7) (c:Nat) (lo:List Int):List Int:=lo.set (ui7 x w c) (lo.getD (ui7 x w c) 0+(vd7 x c).load)
structure zbc7 (x:ba7) (k:Nat) (lo:List Int) (bs:List ga7):Prop where
 loL:lo.length=x.sats.length
 loB:∀v∈lo,0≤v∧v≤1000*(k:Int)
 bsL:bs.length≤k
 bsB:∀b∈bs,(0≤b.sat∧b.sat<x.sats.length)∧b.stops.length≤k∧∀c∈b.stops,0≤c∧c<x.custs.length
theorem zbc7.nil (x:ba7):zbc7 x 0 (List.replicate x.sats.length 0) [] :=
 ⟨List.length_replicate,fun v hv=>by rw[List.eq_of_mem_replicate hv];simp,Nat.le_refl _,fun _ h=>by cases h⟩
theorem gpb7 {x:ba7}{w:lib7}(h:0<x.sats.length) (c:Nat):ui7 x w c<x.sats.length∧((ui7 x w c:Nat):Int)=atD w.sats c % (x.sats.length:Int):=by
 have h1:=Int.emod_nonneg (atD w.sats c) (show (x.sats.length:Int)≠0 by omega)
 have h2:=Int.emod_lt_of_pos (atD w.sats c) (show 0<(x.sats.length:Int) by omega)
 unfold ui7
 omega
theorem zbc7.load {x:ba7}{k:Nat}{lo:List Int}{bs:List ga7}(h:zbc7 x k lo bs) (w:lib7) (c:Nat) (hc:0≤(vd7 x c).load∧(vd7 x c).load≤1000) :
  (ut7 x w c lo).length=x.sats.length∧∀v∈ut7 x w c lo,0≤v∧v≤1000*((k+1:Nat):Int):=by
 refine⟨by unfold ut7;rw[List.length_set];exact h.loL,fun v hv=>?_⟩
 rcases List.mem_or_eq_of_mem_set hv with hv | rfl
 ·have:=h.loB v hv;push_cast;omega
 ·have:0≤lo.getD (ui7 x w c) 0∧lo.getD (ui7 x w c) 0≤1000*(k:Int):=by
   rw[List.getD_eq_getElem?_getD]
   by_cases hk:ui7 x w c<lo.length
   ·rw[List.getElem?_eq_getElem hk];exact h.loB _ (List.getElem_mem hk)
   ·rw[List.getElem?_eq_none (by omega)];simp;omega
  push_cast;omega
theorem zbc7.step {x:ba7}{k:Nat}{lo:List Int}{bs:List ga7}(h:zbc7 x k lo bs) (w:lib7) {i c:Nat}(hc:0≤(vd7 x c).load∧(vd7 x c).load≤1000) (hs:0<x.sats.length) (hcl:c<x.custs.length):zbc7 x (k+1) (ut7 x w c lo) (ibb7 x w i c bs):=by
 have h1:=h.load w c hc
 refine⟨h1.1,h1.2, ?_,fun b hb=>?_⟩
 ·unfold ibb7 kbc7
  have:=h.bsL
  split
  ·rw[List.length_set];omega
  ·rw[List.length_append];simp;omega
 ·unfold ibb7 at hb
  split at hb
  ·rename_i hj
   unfold rfc7 at hj
   simp only[Bool.and_eq_true,decide_eq_true_eq]at hj
   have hl:=ceb7 bs (ui7 x w c) bs.length
   have hk:(ro7 bs (ui7 x w c) bs.length).toNat<bs.length:=by omega
   unfold kbc7 at hb
   rcases List.mem_or_eq_of_mem_set hb with hb | rfl
   ·have:=h.bsB b hb;exact⟨this.1,by omega,this.2.2⟩
   ·rw[List.getD_eq_getElem?_getD,List.getElem?_eq_getElem hk,Option.getD_some]
    have:=h.bsB _ (List.getElem_mem hk)
    refine⟨this.1,by rw[List.length_append];simp;omega,fun d hd=>?_⟩
    rcases List.mem_append.1 hd with hd | hd
    ·exact this.2.2 d hd
    ·obtain rfl:=List.mem_singleton.1 hd;omega
  ·rcases List.mem_append.1 hb with hb | hb
   ·have:=h.bsB b hb;exact⟨this.1,by omega,this.2.2⟩
   ·obtain rfl:=List.mem_singleton.1 hb
    have:=(gpb7 (w:=w) hs c).1
    refine⟨by simp only[];omega,by simp,fun d hd=>?_⟩
    obtain rfl:=List.mem_singleton.1 hd;omega
def cb7 (x:ba7) (a b:Int):Int:=(x.time.getD a.toNat []).getD b.toNat 0
theorem md7 {x:ba7}(g:Good x) (a b:Int):0≤cb7 x a b∧cb7 x a b≤1000000000:=by
 unfold cb7
 rw[List.getD_eq_getElem?_getD,List.getD_eq_getElem?_getD]
 by_cases h1:a.toNat<x.time.length
 ·rw[List.getElem?_eq_getElem h1,Option.getD_some]
  by_cases h2:b.toNat<(x.time[a.toNat]).length
  ·rw[List.getElem?_eq_getElem h2,Option.getD_some]
   exact g.time _ (List.getElem_mem h1) _ (List.getElem_mem h2)
  ·rw[List.getElem?_eq_none (by omega)];simp
 ·rw[show x.time[a.toNat]? = none from List.getElem?_eq_none (by omega)];simp
structure DrS where
 fr:List Int
 arcs:List ay7
 att:List (List Nat)
structure StT where
 d:DrS
 last:Int
 node:Int
def zg7 (att:List (List Nat)) (s n:Nat):List (List Nat):=att.set s (att.getD s []++[n])
def nc7 (x:ba7) (st:StT) (s:ea7):StT :=
 ⟨⟨if st.last<0 then st.d.fr++[cb7 x 0 (1+s.sat)] else st.d.fr++[0],
  if st.last<0 then st.d.arcs else st.d.arcs++[⟨st.last.toNat,st.d.fr.length,cb7 x st.node (1+s.sat)⟩],
  zg7 st.d.att s.sat.toNat st.d.fr.length⟩,st.d.fr.length,1+s.sat⟩
def lg7 (x:ba7) (d:DrS) (t:List ea7):DrS:=(t.foldl (nc7 x) ⟨d,-1,0⟩).d
def ag7 (x:ba7):DrS:=⟨[],[],List.replicate x.sats.length []⟩
def xbb7 (x:ba7) (l:List (List ea7)):DrS:=l.foldl (lg7 x) (ag7 x)
structure StB where
 d:DrS
 last:Nat
 node:Int
 stay:Int
def qf7 (x:ba7) (s:Int):Int:=(x.sats.getD s.toNat ⟨0,0⟩).hold
def gc7 (x:ba7) (st:StB) (c:Int):StB :=
 ⟨⟨st.d.fr++[(vd7 x c).opn],st.d.arcs++[⟨st.last,st.d.fr.length,st.stay+cb7 x st.node (1+x.sats.length+c)⟩],st.d.att⟩,st.d.fr.length,1+x.sats.length+c,(vd7 x c).stay⟩
def cf7 (x:ba7) (d:DrS) (b:ga7) (m:Nat):List ay7:=((d.att.getD b.sat.toNat []).take m).map fun n=>⟨n,d.fr.length,qf7 x b.sat⟩
def tb7 (x:ba7) (d:DrS) (b:ga7):StB:=⟨⟨d.fr++[0],d.arcs++cf7 x d b (d.att.getD b.sat.toNat []).length,d.att⟩,d.fr.length,1+b.sat,0⟩
def jp7 (x:ba7) (st:StB) (b:ga7):DrS:=⟨st.d.fr++[0],st.d.arcs++[⟨st.last,st.d.fr.length,st.stay+cb7 x st.node (1+b.sat)⟩],st.d.att⟩
def we7 (x:ba7) (d:DrS) (b:ga7):DrS:=jp7 x (b.stops.foldl (gc7 x) (tb7 x d b)) b
def zf7 (x:ba7) (p:ab7):DrS:=p.bikes.foldl (we7 x) (xbb7 x p.trucks)
structure lhb7 (x:ba7) (d:DrS) (n m:Nat):Prop where
 frL:d.fr.length=n
 arL:d.arcs.length≤m
 atL:d.att.length=x.sats.length
 at':∀l∈d.att,l.length≤n∧∀k∈l,k<n
structure nac7 (x:ba7) (st:StT) (n:Nat):Prop where
 ok:lhb7 x st.d n n
 lastB:-1≤st.last∧st.last<n
 nodeB:0≤st.node∧st.node<nodes x
theorem rtb7 {x:ba7}{d:DrS}{n m:Nat}(h:lhb7 x d n m) (s:Nat):(d.att.getD s []).length≤n∧∀k∈d.att.getD s [],k<n:=by
 rw[List.getD_eq_getElem?_getD]
 by_cases hs:s<d.att.length
 ·rw[List.getElem?_eq_getElem hs];exact h.at' _ (List.getElem_mem hs)
 ·rw[List.getElem?_eq_none (by omega)];simp
theorem lhb7.start (x:ba7):lhb7 x (ag7 x) 0 0:=⟨rfl,Nat.le_refl _,by simp[ag7],fun l hl=>by rw[List.eq_of_mem_replicate hl];simp⟩
theorem nac7.start {x:ba7}{d:DrS}{n:Nat}(h:lhb7 x d n n):nac7 x ⟨d,-1,0⟩ n:=⟨h,⟨Int.le_refl _,by show (-1:Int)<n;omega⟩,⟨Int.le_refl _,by show (0:Int)<(nodes x:Int);unfold nodes;omega⟩⟩
theorem nac7.step {x:ba7}{st:StT}{n:Nat}{s:ea7}(h:nac7 x st n) (hs:de7 x s):nac7 x (nc7 x st s) (n+1):=by
 have hg:=rtb7 h.ok s.sat.toNat
 have h0:=hs.1
 refine⟨⟨?_, ?_, ?_,fun l hl=>?_⟩, ?_, ?_⟩
 ·simp only[nc7];split <;> rw[List.length_append,List.length_singleton,h.ok.frL]
 ·have:=h.ok.arL
  simp only[nc7];split
  ·omega
  ·rw[List.length_append,List.length_singleton];omega
 ·simp only[nc7,zg7,List.length_set];exact h.ok.atL
 ·simp only[nc7,zg7]at hl
  rcases List.mem_or_eq_of_mem_set hl with hl | rfl
  ·have:=h.ok.at' l hl;exact⟨by omega,fun k hk=>by have:=this.2 k hk;omega⟩
  ·refine⟨by rw[List.length_append,List.length_singleton];omega,fun k hk=>?_⟩
   rcases List.mem_append.1 hk with hk | hk
   ·have:=hg.2 k hk;omega
   ·rw[List.mem_singleton.1 hk,h.ok.frL];omega
 ·simp only[nc7];rw[h.ok.frL];omega
 ·simp only[nc7];unfold nodes;omega
theorem bab7 {x:ba7}{t:List ea7}(ht:∀s∈t,de7 x s) {d:DrS}{n:Nat}(h:lhb7 x d n n):∀j,j≤t.length→nac7 x ((t.take j).foldl (nc7 x) ⟨d,-1,0⟩) (n+j)
 | 0,_=>nac7.start h
 | j+1,hj=>by
  rw[wa7 _ _ _ _ (by omega),← Nat.add_assoc]
  exact (bab7 ht h j (by omega)).step (ht _ (List.getElem_mem _))
theorem xp7 {x:ba7}{l:List (List ea7)}(hl:∀t∈l,∀s∈t,de7 x s):∀k,k≤l.length→lhb7 x ((l.take k).foldl (lg7 x) (ag7 x)) (gb7 l k) (gb7 l k)
 | 0,_=>by simpa[gb7]using lhb7.start x
 | k+1,hk=>by
  have hk':k<l.length:=by omega
  rw[wa7 _ _ _ _ hk',df7 hk']
  have h:=(bab7 (hl _ (List.getElem_mem hk')) (xp7 hl k (by omega)) l[k].length (Nat.le_refl _)).ok
  rw[List.take_length]at h
  exact h
structure uxb7 (x:ba7) (st:StB) (n m:Nat):Prop where
 ok:lhb7 x st.d n m
 lastB:st.last<n
 nodeB:0≤st.node∧st.node<nodes x
 stayB:0≤st.stay∧st.stay≤1000000000
theorem uxb7.start {x:ba7}{d:DrS}{n m:Nat}{b:ga7}(h:lhb7 x d n m) (hb:0≤b.sat∧b.sat<x.sats.length):uxb7 x (tb7 x d b) (n+1) (m+n):=by
 have hg:=rtb7 h b.sat.toNat
 refine⟨⟨?_, ?_,h.atL,fun l hl=>?_⟩, ?_, ?_,by simp only[tb7];omega⟩
 ·simp only[tb7];rw[List.length_append,List.length_singleton,h.frL]
 ·have:=h.arL
  simp only[tb7,cf7];rw[List.length_append,List.length_map,List.length_take];omega
 ·have:=h.at' l hl;exact⟨by omega,fun k hk=>by have:=this.2 k hk;omega⟩
 ·simp only[tb7];rw[h.frL];omega
 ·simp only[tb7];unfold nodes;omega
theorem uxb7.step {x:ba7}(gd:Good x) {st:StB}{n m:Nat}{c:Int}(h:uxb7 x st n m) (hc:gg7 x c):uxb7 x (gc7 x st c) (n+1) (m+1):=by
 have hcu:(vd7 x c).stay=(vd7 x c).stay:=rfl
 have hcl:c.toNat<x.custs.length:=by unfold gg7 at hc;omega
 have hst:=(gd.cust _ (List.getElem_mem hcl)).2.2.2
 unfold gg7 at hc
 refine⟨⟨?_, ?_,h.ok.atL,fun l hl=>?_⟩, ?_, ?_, ?_⟩
 ·simp only[gc7];rw[List.length_append,List.length_singleton,h.ok.frL]
 ·have:=h.ok.arL
  simp only[gc7];rw[List.length_append,List.length_singleton];omega
 ·have:=h.ok.at' l hl;exact⟨by omega,fun k hk=>by have:=this.2 k hk;omega⟩
 ·simp only[gc7];rw[h.ok.frL];omega
 ·simp only[gc7];unfold nodes;omega
 ·simp only[gc7,vd7]
  rw[List.getD_eq_getElem?_getD,List.getElem?_eq_getElem hcl]
  exact hst
theorem lbb7 {x:ba7}(gd:Good x) {b:ga7}(hb:ko7 x b) {d:DrS}{n m:Nat}(h:lhb7 x d n m):∀j,j≤b.stops.length→uxb7 x ((b.stops.take j).foldl (gc7 x) (tb7 x d b)) (n+1+j) (m+n+j)
 | 0,_=>uxb7.start h hb.1
 | j+1,hj=>by
  rw[wa7 _ _ _ _ (by omega),← Nat.add_assoc,← Nat.add_assoc]
  exact (lbb7 gd hb h j (by omega)).step gd (hb.2.2 _ (List.getElem_mem _))
theorem uxb7.done {x:ba7}{st:StB}{n m:Nat}{b:ga7}(h:uxb7 x st n m):lhb7 x (jp7 x st b) (n+1) (m+1):=by
 refine⟨?_, ?_,h.ok.atL,fun l hl=>?_⟩
 ·simp only[jp7];rw[List.length_append,List.length_singleton,h.ok.frL]
 ·have:=h.ok.arL
  simp only[jp7];rw[List.length_append,List.length_singleton];omega
 ·have:=h.ok.at' l hl;exact⟨by omega,fun k hk=>by have:=this.2 k hk;omega⟩
def enb7 (T:Nat) (l:List ga7) (k:Nat):Nat:=T+pb7 l k+2*k
theorem avb7 {T:Nat}{l:List ga7}{k:Nat}(h:k<l.length):enb7 T l (k+1)=enb7 T l k+1+l[k].stops.length+1:=by unfold enb7;rw[re7 h];omega
theorem aab7 {x:ba7}(gd:Good x) {l:List ga7}(hl:∀b∈l,ko7 x b) {d:DrS}{T:Nat}(h:lhb7 x d T T):∀k,k≤l.length→∃m,m≤enb7 T l k*(k+1)∧lhb7 x ((l.take k).foldl (we7 x) d) (enb7 T l k) m
 | 0,_=>⟨T,by simp[enb7,pb7],by simpa[enb7,pb7]using h⟩
 | k+1,hk=>by
  have hk':k<l.length:=by omega
  obtain⟨m,hm,ih⟩:=aab7 gd hl h k (by omega)
  rw[wa7 _ _ _ _ hk',avb7 hk']
  have hd:=((lbb7 gd (hl _ (List.getElem_mem hk')) ih l[k].stops.length (Nat.le_refl _)).done (b:=l[k]))
  rw[List.take_length]at hd
  refine⟨_, ?_,hd⟩
  generalize enb7 T l k=E at hm ⊢
  have e:(E+1+l[k].stops.length+1)*(k+1+1)=E*(k+1)+E+(1+l[k].stops.length+1)*(k+1)+(1+l[k].stops.length+1):=by
   simp only[Nat.add_mul,Nat.mul_add];omega
  rw[e]
  have:0≤(1+l[k].stops.length+1)*(k+1):=Nat.zero_le _
  omega
/-! The table of the trucks' events. -/
structure anb7 (w:World) (B ga:Nat) (att:List (List Nat)) (vs:List Value):Prop where
 row:Row w ga 68 vs
 len:vs.length=att.length
 rows:∀i (h:i<att.length) (h':i<vs.length),w.ownsRow B 3 1 vs[i] att[i].length (att[i].map ev7)
 apart:∀i j (hi:i<vs.length) (hj:j<vs.length),i≠j→vs[i].ownBlock=none∨vs[i].ownBlock≠vs[j].ownBlock
theorem anb7.below {w w':World}{B ga:Nat}{att:List (List Nat)}{vs:List Value}(h:anb7 w B ga att vs) (hb:Below w.heap.size w w'):anb7 w' B ga att vs :=
 ⟨h.row.below hb,h.len,fun i h1 h2=>oa7 (h.rows i h1 h2) hb,h.apart⟩
theorem anb7.mut {w w':World}{B B' ga:Nat}{att:List (List Nat)}{vs:List Value}(h:anb7 w B ga att vs) (hm:Mut dts B' w w'):anb7 w' B ga att vs :=
 ⟨hm.row h.row (by decide),h.len,fun i h1 h2=>hm.owns (h.rows i h1 h2) (by decide),h.apart⟩
theorem anb7.push {w w1:World}{B ga s n:Nat}{att:List (List Nat)}{vs:List Value}{u:Value}(h:anb7 w B ga att vs) (hs:s<att.length) (hsv:s<vs.length)
  (hg:w.grownBy w1 vs[s].ownBlock) (hu:w1.ownsRow B 3 1 u (att[s].length+1) (att[s].map ev7++[ev7 n])) (hat:u.ownBlock=vs[s].ownBlock∨∃b,u.ownBlock=some b∧w.heap.size≤b) :
  anb7 (w1.setCell ⟨ga,s,none⟩ u) B ga (zg7 att s n) (vs.set s u):=by
 have hrow:=h.rows _ hs hsv
 have R1:Row w1 ga 68 vs:=h.row.grown hrow (by decide) hg
 have e0:att.getD s []=att[s]:=by rw[List.getD_eq_getElem?_getD,List.getElem?_eq_getElem hs];rfl
 refine⟨R1.set hsv u,by unfold zg7;rw[List.length_set,List.length_set,h.len],fun i h1 h2=>?_,fun i j hi hj hij=>?_⟩
 ·have hi:i<att.length:=by unfold zg7 at h1;rw[List.length_set]at h1;exact h1
  have hi':i<vs.length:=by rw[h.len];exact hi
  by_cases e:s=i
  ·subst e
   have e1:(vs.set s u)[s]'h2=u:=by simp
   have e2:(zg7 att s n)[s]'h1=att[s]++[n]:=by simp only[zg7,List.getElem_set_self];rw[e0]
   rw[e1,e2,List.map_append,List.length_append,List.length_singleton]
   exact la7 hu R1 (by decide) _ _
  ·have e1:(vs.set s u)[i]'h2=vs[i]:=by rw[List.getElem_set_ne e]
   have e2:(zg7 att s n)[i]'h1=att[i]:=by simp only[zg7,List.getElem_set,if_neg e]
   rw[e1,e2]
   exact la7 ((h.rows i hi hi').kept hg (h.apart i _ hi' hsv (Ne.symm e))) R1 (by decide) _ _
 ·have hlt:∀i (hi:i<vs.length) b,vs[i].ownBlock=some b→b<w.heap.size:=fun i hi b hb=>((h.rows i (by rw[← h.len];exact hi) hi).lt b hb).2
  simp only[List.length_set]at hi hj
  simp only[List.getElem_set]
  split
  ·rename_i ei
   split
   ·omega
   ·rename_i ej
    rcases hat with e | ⟨b,e,hb⟩
    ·rw[e];exact h.apart _ j hsv hj ej
    ·refine .inr fun e'=>?_
     have:=hlt j hj b (by rw[← e',e]);omega
  ·rename_i ei
   split
   ·rename_i ej
    rcases hat with e | ⟨b,e,hb⟩
    ·rw[e];exact h.apart i _ hi hsv (by omega)
    ·refine .inr fun e'=>?_
     have:=hlt i hi b (by rw[e',e]);omega
   ·exact h.apart i j hi hj hij
theorem usb7 {P:Program}{t e:TypeId}{i:TypeInfo}(ht:P.underlying t=some (.slice e)) (hi:P.info? e=some i) (hz:i.zero=some (.slice none 0 0)) (hs:i.size=1) (hb:i.bytes=24) {n:Nat}(hn:n≤1000000) :
  ∀w,(Instr.makeSlice t (.int .i64 (n:Int)) (.int .i64 (n:Int))).run P w = .ok (.slice (some ⟨w.heap.size,0,none⟩) n n) (w.alloc (.cells (Array.replicate n (.slice none 0 0)) e)):=by
 intro w
 have h:=run_make (P:=P) w t e i (.slice none 0 0) ht hi hz .i64 .i64 n n (by omega) (by omega) (by rw[hb];omega) (by omega)
 rw[h,hs]
 have hm:(madeCells (Value.slice none 0 0).cells ((n:Int).toNat*1))=Array.replicate n (.slice none 0 0):=by
  apply Array.ext'
  rw[Nat.mul_one,Int.toNat_natCast,show (Value.slice none 0 0).cells = #[.slice none 0 0] from rfl,toList_madeCells_one]
  simp
 rw[hm,Int.toNat_natCast]
theorem asb7:(Tryz.prog.info? 68).map (fun i=>(i.zero,i.size,i.bytes))=some (some (.slice none 0 0),1,24):=by kernel_rfl
theorem mpb7:∀w,(sizeOf 68).run Tryz.prog w = .ok 1 w:=fun w=>by kernel_rfl
theorem anb7.new (w:World) (B n:Nat):anb7 (w.alloc (.cells (Array.replicate n (.slice none 0 0)) 68)) B w.heap.size (List.replicate n []) (List.replicate n (.slice none 0 0)):=by
 have h:=Row.new (w:=w) (g:=w.heap.size) (e:=68) (cs:=List.replicate n (.slice none 0 0)) rfl
 refine⟨by simpa using h,by simp,fun i h1 h2=>?_,fun i j hi hj _=>.inl ?_⟩
 ·simp only[List.getElem_replicate]
  exact World.ownsRow_nil _ _ _ _
 ·simp only[List.getElem_replicate];rfl
theorem tv7 {w:World}{F:Nat→Prop}{x:ba7}{cs:List Value}(h:sh7.rep w F x.time cs) (gd:Good x) :
  ∃b off c,cs=[.slice (some ⟨b,off,none⟩) (nodes x) c]∧∀i,i<nodes x→∃br or cr,w.cell? ⟨b,off+i,none⟩=some (.slice (some ⟨br,or,none⟩) (nodes x) cr)∧∀j,j<nodes x→w.cell? ⟨br,or+j,none⟩=some (.int .i64 (cb7 x i j)):=by
 obtain⟨a,b,off,c,rfl,-,-,ha,-,hcell⟩:=cd7 h
 have hn:0<nodes x:=by unfold nodes;omega
 obtain rfl:=ha (by rw[gd.timeL];exact hn)
 rw[gd.timeL]
 refine⟨b,off,c,rfl,fun i hi=>?_⟩
 have hi':i<x.time.length:=by rw[gd.timeL];exact hi
 obtain⟨v,hv,hr⟩:=hcell i hi'
 obtain⟨a2,br,or,cr,hs,-,-,ha2,-,hc2,-⟩:=bb7 hr
 obtain rfl:=List.cons.inj hs |>.1
 have hrl:=gd.timeR _ (List.getElem_mem hi')
 obtain rfl:=ha2 (by rw[hrl];exact hn)
 rw[hrl]at hv
 refine⟨br,or,cr,hv,fun j hj=>?_⟩
 rw[hc2 j (by rw[hrl];exact hj)]
 unfold cb7
 simp only[Int.toNat_natCast]
 rw[List.getD_eq_getElem?_getD,List.getD_eq_getElem?_getD,List.getElem?_eq_getElem hi',Option.getD_some,List.getElem?_eq_getElem (by rw[hrl];exact hj)]
 rfl
theorem ml7 {α:Type}[DecidableEq α]:∀(l m:List α),l.Nodup→(∀x∈l,x∈m)→l.length≤m.length
 | [],_,_,_=>Nat.zero_le _
 | a::l,m,hn,hs=>by
  have hn':=List.nodup_cons.1 hn
  have ha:=hs a (List.mem_cons_self ..)
  have ih:=ml7 l (m.erase a) hn'.2 fun x hx=>(List.mem_erase_of_ne (by rintro rfl;exact hn'.1 hx)).2 (hs x (List.mem_cons_of_mem _ hx))
  rw[List.length_erase_of_mem ha]at ih
  have:=List.length_pos_of_mem ha
  rw[List.length_cons];omega
theorem jg7 {l:List Nat}{n:Nat}(hn:l.Nodup) (h:∀i∈l,i<n):l.length≤n:=by
 have:=ml7 l (List.range n) hn fun x hx=>List.mem_range.2 (h x hx)
 rwa [List.length_range]at this
def jr7 (g:db7) (D:Nat→Bool) (j:Nat):Nat→Nat
 | 0=>0
 | n+1=>jr7 g D j n+if (ua7 g n).dst==j && !D n then 1 else 0
def upd (D:Nat→Bool) (k:Nat):Nat→Bool:=fun m=>m==k || D m
theorem obb7 (g:db7) (D:Nat→Bool) (j:Nat):∀n,jr7 g D j n≤n
 | 0=>Nat.le_refl _
 | n+1=>by have:=obb7 g D j n;unfold jr7;split <;> omega
theorem mr7 {g:db7}{D:Nat→Bool}{j k:Nat}(h:(ua7 g k).dst≠j):∀n,jr7 g (upd D k) j n=jr7 g D j n
 | 0=>rfl
 | n+1=>by
  unfold jr7
  rw[mr7 h n]
  congr 1
  by_cases e:n=k
  ·subst e;simp[h]
  ·simp[upd,e]
theorem zpb7 {g:db7}{D:Nat→Bool}{j k:Nat}:∀n,n≤k→jr7 g (upd D k) j n=jr7 g D j n
 | 0,_=>rfl
 | n+1,h=>by
  unfold jr7
  rw[zpb7 n (by omega)]
  have e:n≠k:=by omega
  simp[upd,e]
theorem rfb7 {g:db7}{D:Nat→Bool}{j k:Nat}(hd:D k=false) (hj:(ua7 g k).dst=j):∀n,k<n→jr7 g (upd D k) j n+1=jr7 g D j n
 | 0,h=>absurd h (Nat.not_lt_zero _)
 | n+1,h=>by
  unfold jr7
  by_cases e:n=k
  ·subst e
   rw[zpb7 n (Nat.le_refl _)]
   simp[upd,hd,hj]
  ·have ih:=rfb7 hd hj n (by omega)
   have e2:upd D k n=D n:=by simp[upd,e]
   rw[e2];omega
theorem kw7 {g:db7}{D:Nat→Bool}{j:Nat}:∀n,jr7 g D j n=0↔∀k,k<n→(ua7 g k).dst=j→D k=true
 | 0=>by simp[jr7]
 | n+1=>by
  have ih:=kw7 (g:=g) (D:=D) (j:=j) n
  unfold jr7
  rw[Nat.add_eq_zero_iff,ih]
  constructor
  ·rintro⟨h1,h2⟩ k hk hd
   by_cases e:k=n
   ·subst e
    cases hD:D k with
    | true=>rfl
    | false=>simp[hd,hD]at h2
   ·exact h1 k (by omega) hd
  ·intro h
   refine⟨fun k hk=>h k (by omega), ?_⟩
   by_cases e:(ua7 g n).dst=j
   ·simp[h n (by omega) e]
   ·simp[e]
structure yx7 (g:db7) (out:List Nat) (D:Nat→Bool) (ins:List Int) (ids:List Nat):Prop where
 len:ins.length=g.n
 ins:∀j,j<g.n→ins.getD j 0=(jr7 g D j g.arcs.length:Int)
 nodup:out.Nodup
 lt:∀i∈out,i<g.n
 idsN:ids.Nodup
 idsM:∀j,j∈ids↔j<g.n∧j ∉ out∧jr7 g D j g.arcs.length=0
 topo:∀p (h:p<out.length),∀k,k<g.arcs.length→(ua7 g k).dst=out[p]→(ua7 g k).frm∈out.take p
 doneOut:∀k,k<g.arcs.length→D k=true→(ua7 g k).frm∈out
theorem yx7.outLen {g:db7}{out:List Nat}{D:Nat→Bool}{ins:List Int}{ids:List Nat}(h:yx7 g out D ins ids):out.length≤g.n:=jg7 h.nodup h.lt
theorem yx7.idsLen {g:db7}{out:List Nat}{D:Nat→Bool}{ins:List Int}{ids:List Nat}(h:yx7 g out D ins ids):ids.length≤g.n:=jg7 h.idsN fun j hj=>((h.idsM j).1 hj).1
theorem yx7.start {g:db7}{ins:List Int}{ids:List Nat}(hl:ins.length=g.n) (hi:∀j,j<g.n→ins.getD j 0=(jr7 g (fun _=>false) j g.arcs.length:Int)) (hn:ids.Nodup)
  (hm:∀j,j∈ids↔j<g.n∧jr7 g (fun _=>false) j g.arcs.length=0):yx7 g [] (fun _=>false) ins ids :=
 ⟨hl,hi,List.nodup_nil,(fun _ h=>by cases h),hn,fun j=>by rw[hm];simp,fun p h=>absurd h (Nat.not_lt_zero _),fun _ _ h=>by cases h⟩
def Full (g:db7) (out:List Nat) (D:Nat→Bool):Prop:=∀k,k<g.arcs.length→(ua7 g k).frm∈out→D k=true
def yu7 (g:db7) (out:List Nat) (D:Nat→Bool) (rest:List Nat):Prop:=rest.Nodup∧(∀k∈rest,k<g.arcs.length∧D k=false)∧∀k,k<g.arcs.length→(ua7 g k).frm∈out→D k=true∨k∈rest
theorem dk7 {g:db7}{i n k:Nat}:k∈sg7 g i n↔k<n∧(ua7 g k).frm=i:=by
 unfold sg7;simp[List.mem_filter]
theorem pw7 (g:db7) (i n:Nat):(sg7 g i n).Nodup:=List.Pairwise.filter _ List.nodup_range
theorem yx7.take {g:db7}{out:List Nat}{D:Nat→Bool}{ins:List Int}{ids ids':List Nat}{i:Nat}(h:yx7 g out D ins ids) (hf:Full g out D) (hp:(i::ids').Perm ids) :
  i<g.n∧yx7 g (out++[i]) D ins ids'∧yu7 g (out++[i]) D (sg7 g i g.arcs.length):=by
 obtain⟨hi1,hi2,hi3⟩:=(h.idsM i).1 (hp.mem_iff.1 (List.mem_cons_self ..))
 have hn:=List.nodup_cons.1 (hp.nodup_iff.2 h.idsN)
 refine⟨hi1,⟨h.len,h.ins, ?_, ?_,hn.2,fun j=>?_,fun p hpl k hk hd=>?_,fun k hk hd=>List.mem_append_left _ (h.doneOut k hk hd)⟩,pw7 _ _ _,fun k hk=>?_,fun k hk hfr=>?_⟩
 ·rw[List.nodup_append]
  exact⟨h.nodup,by simp,fun a ha b hb e=>hi2 (by rw[List.mem_singleton]at hb;rw[← hb,← e];exact ha)⟩
 ·intro j hj
  rcases List.mem_append.1 hj with hj | hj
  ·exact h.lt j hj
  ·rw[List.mem_singleton.1 hj];exact hi1
 ·have e:j∈ids'↔j∈ids∧j≠i:=by
   rw[← hp.mem_iff,List.mem_cons]
   constructor
   ·intro hj;exact⟨.inr hj,by rintro rfl;exact hn.1 hj⟩
   ·rintro⟨hj,hne⟩;exact hj.resolve_left hne
  rw[e,h.idsM,List.mem_append,List.mem_singleton]
  constructor
  ·rintro⟨⟨a,b,c⟩,d⟩;exact⟨a,fun h=>h.elim b d,c⟩
  ·rintro⟨a,b,c⟩;exact⟨⟨a,fun h=>b (.inl h),c⟩,fun h=>b (.inr h)⟩
 ·by_cases hpo:p<out.length
  ·rw[List.getElem_append_left hpo]at hd
   rw[List.take_append_of_le_length (by omega)]
   exact h.topo p hpo k hk hd
  ·have hpe:p=out.length:=by rw[List.length_append,List.length_singleton]at hpl;omega
   subst hpe
   rw[List.getElem_append_right (Nat.le_refl _)]at hd
   simp only[Nat.sub_self,List.getElem_cons_zero]at hd
   rw[List.take_append_of_le_length (Nat.le_refl _),List.take_length]
   exact h.doneOut k hk ((kw7 _).1 hi3 k hk hd)
 ·obtain⟨h1,h2⟩:=dk7.1 hk
  refine⟨h1, ?_⟩
  cases hD:D k with
  | false=>rfl
  | true=>exact absurd (h2 ▸ h.doneOut k h1 hD) hi2
 ·rcases List.mem_append.1 hfr with hfr | hfr
  ·exact .inl (hf k hk hfr)
  ·exact .inr (dk7.2 ⟨hk,List.mem_singleton.1 hfr⟩)
theorem yx7.dst_new {g:db7}{o:List Nat}{i:Nat}{D:Nat→Bool}{ins:List Int}{ids:List Nat}(h:yx7 g (o++[i]) D ins ids) {k:Nat}(hk:k<g.arcs.length) (hf:(ua7 g k).frm=i):(ua7 g k).dst ∉ o++[i]:=by
 intro hm
 obtain⟨p,hp,e⟩:=List.getElem_of_mem hm
 have ht:=h.topo p hp k hk e.symm
 rw[hf]at ht
 have hpo:p≤o.length:=by rw[List.length_append,List.length_singleton]at hp;omega
 rw[List.take_append_of_le_length hpo]at ht
 have hn:=h.nodup
 rw[List.nodup_append]at hn
 exact hn.2.2 i (List.mem_of_mem_take ht) i (List.mem_singleton.2 rfl) rfl
theorem yx7.arc {g:db7}{o:List Nat}{i:Nat}{D:Nat→Bool}{ins:List Int}{ids:List Nat}(h:yx7 g (o++[i]) D ins ids) {k:Nat}{rest:List Nat}(hP:yu7 g (o++[i]) D (k::rest)) (hf:(ua7 g k).frm=i) (hd:(ua7 g k).dst<g.n)
  {v:Int} (hv:ins.getD (ua7 g k).dst 0=v) {ids':List Nat} (hi:if v-1=0 then ids'.Perm ((ua7 g k).dst::ids) else ids'=ids) :
  (1≤v∧v≤g.arcs.length)∧yx7 g (o++[i]) (upd D k) (ins.set (ua7 g k).dst (v-1)) ids'∧yu7 g (o++[i]) (upd D k) rest:=by
 obtain⟨hP1,hP2,hP3⟩:=hP
 have hP1':=List.nodup_cons.1 hP1
 obtain⟨hk,hDk⟩:=hP2 k (List.mem_cons_self ..)
 have hnew:=h.dst_new hk hf
 have hvc:=h.ins _ hd
 rw[hv]at hvc
 have hdone:=rfb7 (g:=g) hDk rfl g.arcs.length hk
 have hle:=obb7 g D (ua7 g k).dst g.arcs.length
 have hnid:(ua7 g k).dst ∉ ids:=fun hm=>by have:=((h.idsM _).1 hm).2.2;omega
 have key:∀j,j∈ids'↔j<g.n∧j ∉ o++[i]∧jr7 g (upd D k) j g.arcs.length=0:=fun j=>by
  by_cases e:(ua7 g k).dst=j
  ·subst e
   split at hi
   ·rw[hi.mem_iff]
    exact⟨fun _=>⟨hd,hnew,by omega⟩,fun _=>List.mem_cons_self ..⟩
   ·subst hi
    constructor
    ·exact fun hm=>absurd hm hnid
    ·rintro⟨_,_,h0⟩;omega
  ·rw[mr7 e]
   rw[← h.idsM j]
   split at hi
   ·rw[hi.mem_iff,List.mem_cons]
    exact⟨fun hj=>hj.resolve_left (fun h=>e h.symm),.inr⟩
   ·subst hi;exact Iff.rfl
 refine⟨⟨by omega,by omega⟩,⟨by rw[List.length_set];exact h.len,fun j hj=>?_,h.nodup,h.lt, ?_,key,h.topo,fun m hm hD=>?_⟩,hP1'.2,fun m hm=>?_,fun m hm hfr=>?_⟩
 ·rw[List.getD_eq_getElem?_getD,List.getElem?_set]
  by_cases e:(ua7 g k).dst=j
  ·subst e
   rw[if_pos rfl,if_pos (by rw[h.len];exact hj),Option.getD_some];omega
  ·rw[if_neg e,mr7 e,← h.ins j hj,List.getD_eq_getElem?_getD]
 ·split at hi
  ·exact hi.nodup_iff.2 (List.nodup_cons.2 ⟨hnid,h.idsN⟩)
  ·rw[hi];exact h.idsN
 ·unfold upd at hD
  rcases Bool.or_eq_true_iff.1 hD with e | e
  ·rw[beq_iff_eq.1 e,hf];simp
  ·exact h.doneOut m hm e
 ·have hmk:m≠k:=by rintro rfl;exact hP1'.1 hm
  obtain⟨a,b⟩:=hP2 m (List.mem_cons_of_mem _ hm)
  exact⟨a,by simp[upd,hmk,b]⟩
 ·rcases hP3 m hm hfr with hh | hh
  ·exact .inl (by simp[upd,hh])
  ·rcases List.mem_cons.1 hh with rfl | hh
   ·exact .inl (by simp[upd])
   ·exact .inr hh
theorem yu7.full {g:db7}{out:List Nat}{D:Nat→Bool}(h:yu7 g out D []):Full g out D:=fun k hk hf=>(h.2.2 k hk hf).resolve_right (fun h=>by cases h)
structure pxb7 (g:db7) (out:List Nat):Prop where
 nodup:out.Nodup
 lt:∀i∈out,i<g.n
 all:∀i,i<g.n→i∈out
 before:∀p (h:p<out.length),∀k,k<g.arcs.length→(ua7 g k).dst=out[p]→(ua7 g k).frm∈out.take p
theorem yx7.topoAll {g:db7}{out:List Nat}{D:Nat→Bool}{ins:List Int}(h:yx7 g out D ins []) (hf:Full g out D) (hg:kfb7 g):pxb7 g out:=by
 refine⟨h.nodup,h.lt, ?_,h.topo⟩
 intro j
 induction j using Nat.strongRecOn with
 | _ j ih =>
  intro hj
  by_cases hm:j∈out
  ·exact hm
  ·have hz:jr7 g D j g.arcs.length=0:=(kw7 _).2 fun k hk hd=>by
    have ha:=hg.arc _ (List.getElem_mem hk)
    rw[← pd7 hk]at ha
    exact hf k hk (ih _ (by omega) (by omega))
   have:=(h.idsM j).2 ⟨hj,hm,hz⟩
   cases this
theorem pxb7.len {g:db7}{out:List Nat}(h:pxb7 g out):out.length=g.n:=by
 have h1:=jg7 h.nodup h.lt
 have h2:=ml7 (List.range g.n) out List.nodup_range fun x hx=>h.all x (List.mem_range.1 hx)
 rw[List.length_range]at h2
 omega
theorem rw7 (l:List Int) (k i:Nat) (v:Int):(l.set k v).getD i 0=if k=i∧i<l.length then v else l.getD i 0:=by
 rw[List.getD_eq_getElem?_getD,List.getElem?_set,List.getD_eq_getElem?_getD]
 by_cases e:k=i
 ·subst e
  by_cases h:k<l.length
  ·rw[if_pos rfl,if_pos h,if_pos ⟨rfl,h⟩];rfl
  ·rw[if_pos rfl,if_neg h,if_neg (fun h'=>h h'.2),List.getElem?_eq_none (by omega)]
 ·rw[if_neg e,if_neg (fun h=>e h.1)]
structure btb7 (g:db7) (fr d:List Int) (D:Nat→Bool):Prop where
 len:d.length=g.n
 lo:∀j,j<g.n→fr.getD j 0≤d.getD j 0
 up:∀k,k<g.arcs.length→D k=true→d.getD (ua7 g k).frm 0+(ua7 g k).wt≤d.getD (ua7 g k).dst 0
 eq:∀j,j<g.n→d.getD j 0=fr.getD j 0∨∃k,k<g.arcs.length∧D k=true∧(ua7 g k).dst=j∧d.getD j 0=d.getD (ua7 g k).frm 0+(ua7 g k).wt
def wr7 (d:List Int) (s:ay7):List Int:=d.set s.dst (max (d.getD s.dst 0) (d.getD s.frm 0+s.wt))
theorem btb7.start {g:db7}{fr:List Int}(h:fr.length=g.n):btb7 g fr fr (fun _=>false):=⟨h,fun _ _=>Int.le_refl _,(fun _ _ h=>by cases h),fun _ _=>.inl rfl⟩
theorem btb7.arc {g:db7}{fr d:List Int}{D:Nat→Bool}(h:btb7 g fr d D) {k:Nat}(hk:k<g.arcs.length) (hn:(ua7 g k).dst<g.n) (hne:(ua7 g k).frm≠(ua7 g k).dst) (hD:∀m,m<g.arcs.length→D m=true→(ua7 g m).frm≠(ua7 g k).dst) :
  btb7 g fr (wr7 d (ua7 g k)) (upd D k):=by
 have hl:(ua7 g k).dst<d.length:=by rw[h.len];exact hn
 have hget:∀i,(wr7 d (ua7 g k)).getD i 0=if (ua7 g k).dst=i then max (d.getD (ua7 g k).dst 0) (d.getD (ua7 g k).frm 0+(ua7 g k).wt) else d.getD i 0:=fun i=>by
  unfold wr7
  rw[rw7]
  by_cases e:(ua7 g k).dst=i
  ·rw[if_pos ⟨e,by omega⟩,if_pos e]
  ·rw[if_neg (fun h=>e h.1),if_neg e]
 have hfk:(wr7 d (ua7 g k)).getD (ua7 g k).frm 0=d.getD (ua7 g k).frm 0:=by rw[hget,if_neg (fun e=>hne e.symm)]
 have hfm:∀m,m<g.arcs.length→D m=true→(wr7 d (ua7 g k)).getD (ua7 g m).frm 0=d.getD (ua7 g m).frm 0:=fun m hm hd=>by rw[hget,if_neg (fun e=>hD m hm hd e.symm)]
 have hge:∀i,d.getD i 0≤(wr7 d (ua7 g k)).getD i 0:=fun i=>by
  rw[hget]
  by_cases e:(ua7 g k).dst=i
  ·subst e;rw[if_pos rfl];omega
  ·rw[if_neg e];exact Int.le_refl _
 refine⟨by unfold wr7;rw[List.length_set];exact h.len,fun j hj=>Int.le_trans (h.lo j hj) (hge j),fun m hm hd=>?_,fun j hj=>?_⟩
 ·unfold upd at hd
  by_cases e:m=k
  ·subst e
   rw[hfk,hget,if_pos rfl];omega
  ·have hd':D m=true:=by simpa[e]using hd
   rw[hfm m hm hd']
   exact Int.le_trans (h.up m hm hd') (hge _)
 ·by_cases e:(ua7 g k).dst=j
  ·subst e
   rw[hget,if_pos rfl]
   by_cases hc:d.getD (ua7 g k).frm 0+(ua7 g k).wt≤d.getD (ua7 g k).dst 0
   ·rw[show max (d.getD (ua7 g k).dst 0) (d.getD (ua7 g k).frm 0+(ua7 g k).wt)=d.getD (ua7 g k).dst 0 by omega]
    rcases h.eq _ hj with h0 | ⟨m,hm,hd,h1,h2⟩
    ·exact .inl h0
    ·exact .inr ⟨m,hm,by simp[upd,hd],h1,by rw[hfm m hm hd];exact h2⟩
   ·exact .inr ⟨k,hk,by simp[upd],rfl,by rw[hfk];omega⟩
  ·rw[hget,if_neg e]
   rcases h.eq _ hj with h0 | ⟨m,hm,hd,h1,h2⟩
   ·exact .inl h0
   ·exact .inr ⟨m,hm,by simp[upd,hd],h1,by rw[hfm m hm hd];exact h2⟩
def zl7 (g:db7) (fr d:List Int):Prop:=btb7 g fr d (fun _=>true)
theorem btb7.late {g:db7}{fr d:List Int}{D:Nat→Bool}(h:btb7 g fr d D) (hD:∀k,k<g.arcs.length→D k=true):zl7 g fr d :=
 ⟨h.len,h.lo,fun k hk _=>h.up k hk (hD k hk),fun j hj=>(h.eq j hj).imp id fun ⟨k,h1,h2,h3⟩=>⟨k,h1,rfl,h3⟩⟩
theorem zl7.unique {g:db7}{fr d d':List Int}(hg:∀a∈g.arcs,a.frm<a.dst∧a.dst<g.n) (h:zl7 g fr d) (h':zl7 g fr d'):d=d':=by
 have key:∀j,j<g.n→d.getD j 0=d'.getD j 0:=by
  intro j
  induction j using Nat.strongRecOn with
  | _ j ih =>
   intro hj
   have step:∀k,k<g.arcs.length→(ua7 g k).dst=j→d.getD (ua7 g k).frm 0=d'.getD (ua7 g k).frm 0:=fun k hk hd=>by
    have:=hg _ (List.getElem_mem hk)
    rw[← pd7 hk]at this
    exact ih _ (by omega) (by omega)
   have le1:d.getD j 0≤d'.getD j 0:=by
    rcases h.eq j hj with h0 | ⟨k,hk,_,h1,h2⟩
    ·have:=h'.lo j hj;omega
    ·have:=h'.up k hk rfl
     rw[h1,← step k hk h1]at this;omega
   have le2:d'.getD j 0≤d.getD j 0:=by
    rcases h'.eq j hj with h0 | ⟨k,hk,_,h1,h2⟩
    ·have:=h.lo j hj;omega
    ·have:=h.up k hk rfl
     rw[h1,step k hk h1]at this;omega
   omega
 refine List.ext_getElem (by rw[h.len,h'.len]) fun i h1 h2=>?_
 have:=key i (by rw[← h.len];exact h1)
 rw[List.getD_eq_getElem?_getD,List.getD_eq_getElem?_getD,List.getElem?_eq_getElem h1,List.getElem?_eq_getElem h2]at this
 exact this
theorem pxb7.new {g:db7}{l:List Nat}(h:pxb7 g l) {p:Nat}(hp:p<l.length) {k:Nat}(hk:k<g.arcs.length) (hf:(ua7 g k).frm=l[p]):(ua7 g k).dst ∉ l.take (p+1):=by
 intro hm
 obtain⟨q,hq,e⟩:=List.getElem_of_mem hm
 rw[List.getElem_take]at e
 have hq':q<p+1:=by rw[List.length_take]at hq;omega
 have ht:=h.before q (by omega) k hk e.symm
 rw[hf]at ht
 obtain⟨r,hr,e2⟩:=List.getElem_of_mem ht
 rw[List.getElem_take]at e2
 have hrq:r<q:=by rw[List.length_take]at hr;omega
 exact (List.pairwise_iff_getElem.1 h.nodup) r p (by omega) hp (by omega) e2
structure LSt (g:db7) (fr:List Int) (M:Int) (l:List Nat) (p:Nat) (d:List Int) (D:Nat→Bool) (rest:List Nat):Prop where
 inv:btb7 g fr d D
 done:∀k,k<g.arcs.length→D k=true→(ua7 g k).frm∈l.take (p+1)
 part:yu7 g (l.take (p+1)) D rest
 bd:∀j,j<g.n→0≤d.getD j 0∧d.getD j 0≤M+1099511627776*((p:Int)+1)
 bi:∀(h:p<l.length),d.getD l[p] 0≤M+1099511627776*(p:Int)
structure oyb7 (g:db7) (fr:List Int) (M:Int) (l:List Nat) (p:Nat) (d:List Int) (D:Nat→Bool):Prop where
 inv:btb7 g fr d D
 done:∀k,k<g.arcs.length→D k=true→(ua7 g k).frm∈l.take p
 full:Full g (l.take p) D
 bd:∀j,j<g.n→0≤d.getD j 0∧d.getD j 0≤M+1099511627776*(p:Int)
theorem oyb7.start {g:db7}{fr:List Int}{M:Int}{l:List Nat}(h:fr.length=g.n) (hb:∀v∈fr,0≤v∧v≤M):oyb7 g fr M l 0 fr (fun _=>false) :=
 ⟨btb7.start h,(fun _ _ h=>by cases h),(fun _ _ h=>by simp at h),fun j hj=>by
  rw[List.getD_eq_getElem?_getD,List.getElem?_eq_getElem (by omega)]
  have:=hb _ (List.getElem_mem (show j<fr.length by omega))
  simpa using this⟩
theorem oyb7.next {g:db7}{fr:List Int}{M:Int}{l:List Nat}{p:Nat}{d:List Int}{D:Nat→Bool}(h:oyb7 g fr M l p d D) (hT:pxb7 g l) (hp:p<l.length):LSt g fr M l p d D (sg7 g l[p] g.arcs.length):=by
 have htk:l.take (p+1)=l.take p++[l[p]]:=List.take_succ_eq_append_getElem hp
 refine⟨h.inv,fun k hk hd=>by rw[htk];exact List.mem_append_left _ (h.done k hk hd),⟨pw7 _ _ _,fun k hk=>?_,fun k hk hf=>?_⟩,fun j hj=>by have:=h.bd j hj;omega,fun _=>(h.bd _ (hT.lt _ (List.getElem_mem hp))).2⟩
 ·obtain⟨h1,h2⟩:=dk7.1 hk
  refine⟨h1, ?_⟩
  cases hD:D k with
  | false=>rfl
  | true =>
   have hm:=h.done k h1 hD
   rw[h2]at hm
   obtain⟨r,hr,e2⟩:=List.getElem_of_mem hm
   rw[List.getElem_take]at e2
   have hrq:r<p:=by rw[List.length_take]at hr;omega
   exact absurd e2 ((List.pairwise_iff_getElem.1 hT.nodup) r p (by omega) hp (by omega))
 ·rw[htk]at hf
  rcases List.mem_append.1 hf with hf | hf
  ·exact .inl (h.full k hk hf)
  ·exact .inr (dk7.2 ⟨hk,List.mem_singleton.1 hf⟩)
theorem LSt.arc {g:db7}{fr:List Int}{M:Int}{l:List Nat}{p:Nat}{d:List Int}{D:Nat→Bool}{k:Nat}{rest:List Nat}(h:LSt g fr M l p d D (k::rest)) (hg:kfb7 g) (hT:pxb7 g l) (hp:p<l.length) (hk:k<g.arcs.length) (hf:(ua7 g k).frm=l[p]) :
  LSt g fr M l p (wr7 d (ua7 g k)) (upd D k) rest:=by
 have ha:=hg.arc _ (List.getElem_mem hk)
 rw[← pd7 hk]at ha
 have hnew:=hT.new hp hk hf
 have hpi:l[p]∈l.take (p+1):=by rw[List.take_succ_eq_append_getElem hp];exact List.mem_append_right _ (List.mem_singleton.2 rfl)
 have hnd:∀m,m<g.arcs.length→D m=true→(ua7 g m).frm≠(ua7 g k).dst:=fun m hm hd e=>hnew (e ▸ h.done m hm hd)
 have hbi:=h.bi hp
 obtain⟨hP1,hP2,hP3⟩:=h.part
 have hP1':=List.nodup_cons.1 hP1
 have hget:∀i,(wr7 d (ua7 g k)).getD i 0=if (ua7 g k).dst=i then max (d.getD (ua7 g k).dst 0) (d.getD (ua7 g k).frm 0+(ua7 g k).wt) else d.getD i 0:=fun i=>by
  unfold wr7
  rw[rw7]
  by_cases e:(ua7 g k).dst=i
  ·rw[if_pos ⟨e,by rw[h.inv.len];omega⟩,if_pos e]
  ·rw[if_neg (fun h=>e h.1),if_neg e]
 refine⟨h.inv.arc hk ha.2.1 (by omega) hnd,fun m hm hd=>?_,⟨hP1'.2,fun m hm=>?_,fun m hm hfr=>?_⟩,fun j hj=>?_,fun _=>?_⟩
 ·unfold upd at hd
  rcases Bool.or_eq_true_iff.1 hd with e | e
  ·rw[beq_iff_eq.1 e,hf];exact hpi
  ·exact h.done m hm e
 ·have hmk:m≠k:=by rintro rfl;exact hP1'.1 hm
  obtain⟨a,b⟩:=hP2 m (List.mem_cons_of_mem _ hm)
  exact⟨a,by simp[upd,hmk,b]⟩
 ·rcases hP3 m hm hfr with hh | hh
  ·exact .inl (by simp[upd,hh])
  ·rcases List.mem_cons.1 hh with rfl | hh
   ·exact .inl (by simp[upd])
   ·exact .inr hh
 ·have h1:=h.bd j hj
  rw[hget]
  split
  ·rename_i e
   subst e
   rw[hf]
   omega
  ·exact h1
 ·rw[hget,if_neg (fun e:(ua7 g k).dst=l[p]=>hnew (by rw[e];exact hpi))]
  exact hbi
theorem LSt.done' {g:db7}{fr:List Int}{M:Int}{l:List Nat}{p:Nat}{d:List Int}{D:Nat→Bool}(h:LSt g fr M l p d D []):oyb7 g fr M l (p+1) d D :=
 ⟨h.inv,h.done,h.part.full,fun j hj=>by have:=h.bd j hj;push_cast;exact this⟩
theorem oyb7.late {g:db7}{fr:List Int}{M:Int}{l:List Nat}{d:List Int}{D:Nat→Bool}(h:oyb7 g fr M l l.length d D) (hg:kfb7 g) (hT:pxb7 g l):zl7 g fr d:=by
 refine h.inv.late fun k hk=>h.full k hk ?_
 have ha:=hg.arc _ (List.getElem_mem hk)
 rw[← pd7 hk]at ha
 rw[List.take_length]
 exact hT.all _ (by omega)
structure SnT where
 now:Int
 node:Int
 ready:List Int
 l:List Int
def xg7 (x:ba7) (st:SnT) (s:ea7):SnT :=
 ⟨st.now+cb7 x st.node (1+s.sat),1+s.sat,st.ready.set s.sat.toNat (max (st.ready.getD s.sat.toNat 0) (st.now+cb7 x st.node (1+s.sat)+qf7 x s.sat)),st.l++[st.now+cb7 x st.node (1+s.sat)]⟩
structure SnA where
 ready:List Int
 ts:List (List Int)
def hn7 (x:ba7) (a:SnA) (t:List ea7):SnT:=t.foldl (xg7 x) ⟨0,0,a.ready,[]⟩
def og7 (x:ba7) (a:SnA) (t:List ea7):SnA:=⟨(hn7 x a t).ready,a.ts++[(hn7 x a t).l]⟩
def tn7 (x:ba7) (l:List (List ea7)):SnA:=l.foldl (og7 x) ⟨List.replicate x.sats.length 0,[]⟩
structure SnB where
 now:Int
 node:Int
 starts:List Int
def yf7 (x:ba7) (st:SnB) (c:Int):SnB :=
 ⟨max (st.now+cb7 x st.node (1+x.sats.length+c)) (vd7 x c).opn+(vd7 x c).stay,1+x.sats.length+c,st.starts++[max (st.now+cb7 x st.node (1+x.sats.length+c)) (vd7 x c).opn]⟩
def od7 (x:ba7) (ready:List Int) (b:ga7):SnB:=b.stops.foldl (yf7 x) ⟨ready.getD b.sat.toNat 0,1+b.sat,[]⟩
def in7 (x:ba7) (ready:List Int) (b:ga7):qa7 :=
 ⟨ready.getD b.sat.toNat 0,(od7 x ready b).starts,(od7 x ready b).now+cb7 x (od7 x ready b).node (1+b.sat)⟩
def eb7 (x:ba7) (p:ab7):qb7:=⟨(tn7 x p.trucks).ts,p.bikes.map (in7 x (tn7 x p.trucks).ready)⟩
def cj7 (r:qa7):List Int:=r.out::(r.starts++[r.back])
def sj7 (t:qb7):List Int:=t.trucks.flatten++t.bikes.flatMap cj7
theorem gq7 {n:Nat}{arcs:List ay7}{fr d:List Int}:zl7 ⟨n,arcs⟩ fr d↔d.length=n∧(∀j,j<n→fr.getD j 0≤d.getD j 0)∧(∀a∈arcs,d.getD a.frm 0+a.wt≤d.getD a.dst 0)∧∀j,j<n→d.getD j 0=fr.getD j 0∨∃a∈arcs,a.dst=j∧d.getD j 0=d.getD a.frm 0+a.wt:=by
 constructor
 ·intro h
  refine⟨h.len,h.lo,fun a ha=>?_,fun j hj=>?_⟩
  ·obtain⟨k,hk,rfl⟩:=List.getElem_of_mem ha
   have h1:=h.up k hk rfl
   rw[pd7 (g:=⟨n,arcs⟩) hk]at h1
   exact h1
  ·rcases h.eq j hj with h1 | ⟨k,hk,-,h1,h2⟩
   ·exact .inl h1
   ·rw[pd7 (g:=⟨n,arcs⟩) hk]at h1 h2
    exact .inr ⟨arcs[k]'hk,List.getElem_mem _,h1,h2⟩
 ·rintro⟨h1,h2,h3,h4⟩
  refine⟨h1,h2,fun k hk _=>?_,fun j hj=>?_⟩
  ·rw[pd7 (g:=⟨n,arcs⟩) hk];exact h3 _ (List.getElem_mem _)
  ·rcases h4 j hj with h5 | ⟨a,ha,h5,h6⟩
   ·exact .inl h5
   ·obtain⟨k,hk,rfl⟩:=List.getElem_of_mem ha
    exact .inr ⟨k,hk,rfl,by rw[pd7 (g:=⟨n,arcs⟩) hk];exact h5,by rw[pd7 (g:=⟨n,arcs⟩) hk];exact h6⟩
theorem rv7 (l:List Int) (v:Int) (i:Nat):(l++[v]).getD i 0=if i<l.length then l.getD i 0 else if i=l.length then v else 0:=by
 rw[List.getD_eq_getElem?_getD,List.getD_eq_getElem?_getD]
 by_cases h:i<l.length
 ·rw[if_pos h,List.getElem?_append_left h]
 ·rw[if_neg h,List.getElem?_append_right (by omega)]
  by_cases h2:i=l.length
  ·rw[if_pos h2,h2,Nat.sub_self];rfl
  ·rw[if_neg h2,List.getElem?_eq_none (by simp only[List.length_singleton];omega)];rfl
theorem oc7 {l:List Int}{v:Int}{i:Nat}(h:i<l.length):(l++[v]).getD i 0=l.getD i 0:=by rw[rv7,if_pos h]
theorem fd7 (l:List Int) (v:Int):(l++[v]).getD l.length 0=v:=by rw[rv7,if_neg (by omega),if_pos rfl]
theorem lub7 {n:Nat}{arcs new:List ay7}{fr d:List Int}{f v:Int}(h:zl7 ⟨n,arcs⟩ fr d) (hfr:fr.length=n) (ho:∀a∈arcs,a.frm<n∧a.dst<n) (hn:∀a∈new,a.frm<n∧a.dst=n)
  (hf:f≤v) (hu:∀a∈new,d.getD a.frm 0+a.wt≤v) (he:v=f∨∃a∈new,v=d.getD a.frm 0+a.wt):zl7 ⟨n+1,arcs++new⟩ (fr++[f]) (d++[v]):=by
 obtain⟨h1,h2,h3,h4⟩:=gq7.1 h
 subst h1
 have hv:∀j,j<d.length→(fr++[f]).getD j 0=fr.getD j 0:=fun j hj=>oc7 (by omega)
 have hvl:(fr++[f]).getD d.length 0=f:=by rw[← hfr,fd7]
 refine gq7.2 ⟨by simp,fun j hj=>?_,fun a ha=>?_,fun j hj=>?_⟩
 ·rcases Nat.lt_or_ge j d.length with hj' | hj'
  ·rw[hv j hj',oc7 hj'];exact h2 j hj'
  ·obtain rfl:j=d.length:=by omega
   rw[hvl,fd7];exact hf
 ·rcases List.mem_append.1 ha with ha | ha
  ·obtain⟨p,q⟩:=ho a ha
   rw[oc7 p,oc7 q];exact h3 a ha
  ·obtain⟨p,q⟩:=hn a ha
   rw[oc7 p,q,fd7];exact hu a ha
 ·rcases Nat.lt_or_ge j d.length with hj' | hj'
  ·rw[hv j hj',oc7 hj']
   rcases h4 j hj' with h5 | ⟨a,ha,h5,h6⟩
   ·exact .inl h5
   ·exact .inr ⟨a,List.mem_append_left _ ha,h5,by rw[oc7 (ho a ha).1];exact h6⟩
  ·obtain rfl:j=d.length:=by omega
   rw[hvl,fd7]
   rcases he with he | ⟨a,ha,h6⟩
   ·exact .inl he
   ·exact .inr ⟨a,List.mem_append_right _ ha,(hn a ha).2,by rw[oc7 (hn a ha).1];exact h6⟩
structure ch7 (x:ba7) (d:DrS) (ts ready:List Int):Prop where
 late:zl7 ⟨d.fr.length,d.arcs⟩ d.fr ts
 arc:∀a∈d.arcs,a.frm<a.dst∧a.dst<d.fr.length∧0≤a.wt∧a.wt≤1099511627776
 frB:∀f∈d.fr,0≤f∧f≤1000000000
 tsB:∀i,0≤ts.getD i 0
 rdyL:ready.length=x.sats.length
 attL:d.att.length=x.sats.length
 rdy:∀s,s<x.sats.length→0≤ready.getD s 0∧(∀n∈d.att.getD s [],n<d.fr.length∧ts.getD n 0+qf7 x s≤ready.getD s 0)∧(ready.getD s 0=0∨∃n∈d.att.getD s [],ready.getD s 0=ts.getD n 0+qf7 x s)
theorem ch7.len {x:ba7}{d:DrS}{ts ready:List Int}(h:ch7 x d ts ready):ts.length=d.fr.length:=(gq7.1 h.late).1
theorem ch7.event {x:ba7}{d:DrS}{ts ready:List Int}{f v:Int}{new:List ay7}(h:ch7 x d ts ready) (hn:∀a∈new,a.frm<d.fr.length∧a.dst=d.fr.length∧0≤a.wt∧a.wt≤1099511627776)
  (hf0:0≤f∧f≤1000000000) (hf:f≤v) (hu:∀a∈new,ts.getD a.frm 0+a.wt≤v) (he:v=f∨∃a∈new,v=ts.getD a.frm 0+a.wt):ch7 x ⟨d.fr++[f],d.arcs++new,d.att⟩ (ts++[v]) ready:=by
 have hl:=h.len
 refine⟨?_,fun a ha=>?_,fun g hg=>?_,fun i=>?_,h.rdyL,h.attL,fun s hs=>?_⟩
 ·rw[List.length_append,List.length_singleton]
  exact lub7 h.late rfl (fun a ha=>⟨by have:=h.arc a ha;omega,(h.arc a ha).2.1⟩) (fun a ha=>⟨(hn a ha).1,(hn a ha).2.1⟩) hf hu he
 ·rw[List.length_append,List.length_singleton]
  rcases List.mem_append.1 ha with ha | ha
  ·have:=h.arc a ha;omega
  ·have:=hn a ha;omega
 ·rcases List.mem_append.1 hg with hg | hg
  ·exact h.frB g hg
  ·rw[List.mem_singleton.1 hg];exact hf0
 ·have:=h.tsB i
  rw[rv7]
  split
  ·exact this
  ·split <;> omega
 ·obtain⟨h1,h2,h3⟩:=h.rdy s hs
  refine⟨h1,fun n hn'=>?_, ?_⟩
  ·obtain⟨p,q⟩:=h2 n hn'
   rw[List.length_append,List.length_singleton,oc7 (by omega)]
   exact⟨by omega,q⟩
  ·rcases h3 with h3 | ⟨n,hn',h3⟩
   ·exact .inl h3
   ·exact .inr ⟨n,hn',by rw[oc7 (by have:=(h2 n hn').1;omega)];exact h3⟩
theorem lfb7 {α:Type}(l:List α) (k i:Nat) (v z:α) (hk:k<l.length):(l.set k v).getD i z=if k=i then v else l.getD i z:=by
 rw[List.getD_eq_getElem?_getD,List.getD_eq_getElem?_getD,List.getElem?_set]
 by_cases e:k=i
 ·rw[if_pos e,if_pos e,if_pos hk];rfl
 ·rw[if_neg e,if_neg e]
theorem tu7 {x:ba7}(g:Good x) (s:Int):0≤qf7 x s∧qf7 x s≤1000000000:=by
 unfold qf7
 rw[List.getD_eq_getElem?_getD]
 by_cases h:s.toNat<x.sats.length
 ·rw[List.getElem?_eq_getElem h,Option.getD_some];exact (g.sat _ (List.getElem_mem h)).2
 ·rw[List.getElem?_eq_none (by omega)];simp
theorem ju7 {x:ba7}(g:Good x) {c:Int}(hc:gg7 x c):(0≤(vd7 x c).opn∧(vd7 x c).opn≤1000000000)∧((vd7 x c).opn≤(vd7 x c).cls∧(vd7 x c).cls≤1000000000)∧0≤(vd7 x c).stay∧(vd7 x c).stay≤1000000000:=by
 unfold vd7
 obtain⟨h1,h2⟩:=hc
 have h:c.toNat<x.custs.length:=by omega
 rw[List.getD_eq_getElem?_getD,List.getElem?_eq_getElem h,Option.getD_some]
 exact (g.cust _ (List.getElem_mem h)).2
theorem ch7.att {x:ba7}{d:DrS}{ts ready:List Int}{s:Int}{v:Int}{fr:List Int}{arcs:List ay7}{n:Nat}(h:ch7 x ⟨fr,arcs,d.att⟩ ts ready) (hs:0≤s∧s<x.sats.length) (hn:n<fr.length) (hv:ts.getD n 0=v) (gd:Good x) :
  ch7 x ⟨fr,arcs,zg7 d.att s.toNat n⟩ ts (ready.set s.toNat (max (ready.getD s.toNat 0) (v+qf7 x s))):=by
 have ha:s.toNat<d.att.length:=by have:=h.attL;show s.toNat<(DrS.mk fr arcs d.att).att.length;omega
 have hr:s.toNat<ready.length:=by have:=h.rdyL;omega
 have hh:=tu7 gd s
 have hv0:=h.tsB n
 refine⟨h.late,h.arc,h.frB,h.tsB,by rw[List.length_set];exact h.rdyL,by show (zg7 d.att s.toNat n).length=_;unfold zg7;rw[List.length_set];exact h.attL,fun k hk=>?_⟩
 obtain⟨h1,h2,h3⟩:=h.rdy k hk
 show 0≤_∧(∀m∈(zg7 d.att s.toNat n).getD k [],_)∧(_∨∃m∈(zg7 d.att s.toNat n).getD k [],_)
 unfold zg7
 rw[lfb7 _ _ _ _ _ ha,lfb7 _ _ _ _ _ hr]
 by_cases e:s.toNat=k
 ·rw[if_pos e,if_pos e]
  have es:qf7 x (k:Int)=qf7 x s:=by rw[← e,Int.toNat_of_nonneg hs.1]
  rw[es]at h2 h3 ⊢
  rw[e]
  refine⟨by omega,fun m hm=>?_, ?_⟩
  ·rcases List.mem_append.1 hm with hm | hm
   ·obtain⟨p,q⟩:=h2 m hm
    exact⟨p,by omega⟩
   ·rw[List.mem_singleton.1 hm];exact⟨hn,by omega⟩
  ·rcases Int.le_total (v+qf7 x s) (ready.getD k 0) with hle | hle
   ·rw[Int.max_eq_left hle]
    rcases h3 with h3 | ⟨m,hm,h3⟩
    ·exact .inl h3
    ·exact .inr ⟨m,List.mem_append_left _ hm,h3⟩
   ·rw[Int.max_eq_right hle]
    exact .inr ⟨n,List.mem_append_right _ (List.mem_singleton.2 rfl),by rw[hv]⟩
 ·rw[if_neg e,if_neg e]
  exact⟨h1,h2,h3⟩
structure knb7 (x:ba7) (st:StT) (sn:SnT) (ts0:List Int):Prop where
 inv:ch7 x st.d (ts0++sn.l) sn.ready
 node:st.node=sn.node
 first:st.last<0→sn.now=0∧sn.node=0
 next:0≤st.last→st.last.toNat<st.d.fr.length∧(ts0++sn.l).getD st.last.toNat 0=sn.now
theorem knb7.step {x:ba7}(gd:Good x) {st:StT}{sn:SnT}{ts0:List Int}{s:ea7}(h:knb7 x st sn ts0) (hs:de7 x s):knb7 x (nc7 x st s) (xg7 x sn s) ts0:=by
 have hw:=md7 gd st.node (1+s.sat)
 have hw0:=md7 gd 0 (1+s.sat)
 have hl:=h.inv.len
 have key:∃f arcs,(nc7 x st s).d=⟨st.d.fr++[f],st.d.arcs++arcs,zg7 st.d.att s.sat.toNat st.d.fr.length⟩∧ch7 x ⟨st.d.fr++[f],st.d.arcs++arcs,st.d.att⟩ ((ts0++sn.l)++[sn.now+cb7 x sn.node (1+s.sat)]) sn.ready:=by
  by_cases hlast:st.last<0
  ·obtain⟨h1,h2⟩:=h.first hlast
   refine⟨cb7 x 0 (1+s.sat),[], ?_,h.inv.event (by simp) hw0 ?_ (by simp) (.inl ?_)⟩
   ·simp only[nc7,if_pos hlast,List.append_nil]
   ·rw[h1,h2];omega
   ·rw[h1,h2];omega
  ·obtain⟨h1,h2⟩:=h.next (by omega)
   have hb:=h.inv.tsB st.last.toNat
   refine⟨0,[⟨st.last.toNat,st.d.fr.length,cb7 x st.node (1+s.sat)⟩], ?_,h.inv.event (fun a ha=>?_) (by omega) ?_ (fun a ha=>?_) (.inr ⟨_,List.mem_singleton.2 rfl, ?_⟩)⟩
   ·simp only[nc7,if_neg hlast]
   ·rw[List.mem_singleton.1 ha];exact⟨h1,rfl,hw.1,by show cb7 x st.node (1+s.sat)≤_;omega⟩
   ·rw[h.node]at hw;omega
   ·rw[List.mem_singleton.1 ha]
    show (ts0++sn.l).getD st.last.toNat 0+cb7 x st.node (1+s.sat)≤_
    rw[h2,h.node];exact Int.le_refl _
   ·show _=(ts0++sn.l).getD st.last.toNat 0+cb7 x st.node (1+s.sat)
    rw[h2,h.node]
 obtain⟨f,arcs,he,hi⟩:=key
 have ha:=ch7.att (s:=s.sat) (n:=st.d.fr.length) (v:=sn.now+cb7 x sn.node (1+s.sat)) hi hs.1 (by simp) (by rw[← hl,fd7]) gd
 refine⟨?_,rfl,fun hn=>?_,fun _=>?_⟩
 ·rw[he]
  simp only[xg7,← List.append_assoc]
  exact ha
 ·exfalso
  simp only[nc7]at hn
  omega
 ·rw[he]
  simp only[nc7,xg7,← List.append_assoc,Int.toNat_natCast]
  exact⟨by simp,by rw[← hl,fd7]⟩
theorem bgb7 {x:ba7}(gd:Good x) {ts0:List Int}:∀(l:List ea7) (st:StT) (sn:SnT),(∀s∈l,de7 x s)→knb7 x st sn ts0→knb7 x (l.foldl (nc7 x) st) (l.foldl (xg7 x) sn) ts0
 | [],_,_,_,h=>h
 | s::l,st,sn,hl,h=>bgb7 gd l _ _ (fun t ht=>hl t (List.mem_cons_of_mem _ ht)) (h.step gd (hl s List.mem_cons_self))
theorem ksb7 {x:ba7}(gd:Good x) {d:DrS}{a:SnA}{t:List ea7}(ht:∀s∈t,de7 x s) (h:ch7 x d a.ts.flatten a.ready):ch7 x (lg7 x d t) (og7 x a t).ts.flatten (og7 x a t).ready:=by
 have h0:knb7 x ⟨d,-1,0⟩ ⟨0,0,a.ready,[]⟩ a.ts.flatten:=⟨by rw[List.append_nil];exact h,rfl,fun _=>⟨rfl,rfl⟩,fun hh=>absurd hh (by show ¬((0:Int) ≤ -1);omega)⟩
 have h1:=(bgb7 gd t _ _ ht h0).inv
 have e:(og7 x a t).ts.flatten=a.ts.flatten++(t.foldl (xg7 x) ⟨0,0,a.ready,[]⟩).l:=by
  simp only[og7,hn7,List.flatten_append,List.flatten_cons,List.flatten_nil,List.append_nil]
 rw[e]
 exact h1
theorem az7 {x:ba7}(gd:Good x):∀(l:List (List ea7)) (d:DrS) (a:SnA),(∀t∈l,∀s∈t,de7 x s)→ch7 x d a.ts.flatten a.ready→ch7 x (l.foldl (lg7 x) d) (l.foldl (og7 x) a).ts.flatten (l.foldl (og7 x) a).ready
 | [],_,_,_,h=>h
 | t::l,d,a,hl,h=>az7 gd l _ _ (fun u hu=>hl u (List.mem_cons_of_mem _ hu)) (ksb7 gd (hl t List.mem_cons_self) h)
theorem qqb7 (x:ba7):ch7 x (ag7 x) [] (List.replicate x.sats.length 0):=by
 refine⟨gq7.2 ⟨rfl,fun j hj=>absurd hj (by simp[ag7]),fun a ha=>(by cases ha),fun j hj=>absurd hj (by simp[ag7])⟩,(fun a ha=>by cases ha),(fun f hf=>by cases hf),fun i=>by simp,by simp,by simp[ag7],fun s hs=>?_⟩
 have e1:(ag7 x).att.getD s []=[]:=by simp only[ag7,List.getD_eq_getElem?_getD,List.getElem?_replicate];split <;> rfl
 have e2:(List.replicate x.sats.length (0:Int)).getD s 0=0:=by simp only[List.getD_eq_getElem?_getD,List.getElem?_replicate];split <;> rfl
 rw[e1,e2]
 exact⟨by omega,(fun n hn=>by cases hn),.inl rfl⟩
structure nob7 (x:ba7) (st:StB) (sn:SnB) (ts0 ready:List Int):Prop where
 inv:ch7 x st.d (ts0++sn.starts) ready
 node:st.node=sn.node
 last:st.last<st.d.fr.length∧(ts0++sn.starts).getD st.last 0+st.stay=sn.now
 stay:0≤st.stay∧st.stay≤1000000000
theorem nob7.step {x:ba7}(gd:Good x) {st:StB}{sn:SnB}{ts0 ready:List Int}{c:Int}(h:nob7 x st sn ts0 ready) (hc:gg7 x c):nob7 x (gc7 x st c) (yf7 x sn c) ts0 ready:=by
 have hw:=md7 gd st.node (1+x.sats.length+c)
 have hb:=ju7 gd hc
 have hl:=h.inv.len
 have h1:=h.last
 have h2:=h.stay
 have hi:=h.inv.event (f:=(vd7 x c).opn) (v:=max (sn.now+cb7 x sn.node (1+x.sats.length+c)) (vd7 x c).opn) (new:=[⟨st.last,st.d.fr.length,st.stay+cb7 x st.node (1+x.sats.length+c)⟩])
  (fun a ha=>by rw[List.mem_singleton.1 ha];exact⟨h1.1,rfl,by show 0≤st.stay+cb7 x st.node _;omega,by show st.stay+cb7 x st.node _≤_;omega⟩) hb.1 (by omega)
  (fun a ha=>by
   rw[List.mem_singleton.1 ha]
   show (ts0++sn.starts).getD st.last 0+(st.stay+cb7 x st.node _)≤_
   rw[h.node];omega)
  (by
   rcases Int.le_total (sn.now+cb7 x sn.node (1+x.sats.length+c)) (vd7 x c).opn with hle | hle
   ·exact .inl (by omega)
   ·refine .inr ⟨_,List.mem_singleton.2 rfl, ?_⟩
    show _=(ts0++sn.starts).getD st.last 0+(st.stay+cb7 x st.node _)
    rw[h.node];omega)
 refine⟨?_,rfl,⟨by simp[gc7], ?_⟩,hb.2.2⟩
 ·simp only[gc7,yf7,← List.append_assoc]
  exact hi
 ·simp only[gc7,yf7,← List.append_assoc]
  rw[← hl,fd7]
theorem dz7 {x:ba7}(gd:Good x) {ts0 ready:List Int}:∀(l:List Int) (st:StB) (sn:SnB),(∀c∈l,gg7 x c)→nob7 x st sn ts0 ready→nob7 x (l.foldl (gc7 x) st) (l.foldl (yf7 x) sn) ts0 ready
 | [],_,_,_,h=>h
 | s::l,st,sn,hl,h=>dz7 gd l _ _ (fun t ht=>hl t (List.mem_cons_of_mem _ ht)) (h.step gd (hl s List.mem_cons_self))
theorem nvb7 {x:ba7}(gd:Good x) {d:DrS}{ts ready:List Int}{b:ga7}(hb:ko7 x b) (h:ch7 x d ts ready):ch7 x (we7 x d b) (ts++cj7 (in7 x ready b)) ready:=by
 have hl:=h.len
 obtain⟨r1,r2,r3⟩:=h.rdy b.sat.toNat (by have:=hb.1;omega)
 have hnat:((b.sat.toNat:Nat):Int)=b.sat:=Int.toNat_of_nonneg hb.1.1
 rw[hnat]at r2 r3
 have hh:=tu7 gd b.sat
 have hi:=h.event (f:=0) (v:=ready.getD b.sat.toNat 0) (new:=cf7 x d b (d.att.getD b.sat.toNat []).length)
  (fun a ha=>by
   unfold cf7 at ha
   rw[List.take_length]at ha
   obtain⟨n,hn,rfl⟩:=List.mem_map.1 ha
   exact⟨(r2 n hn).1,rfl,hh.1,by show qf7 x b.sat≤_;omega⟩) (by omega) r1
  (fun a ha=>by
   unfold cf7 at ha
   rw[List.take_length]at ha
   obtain⟨n,hn,rfl⟩:=List.mem_map.1 ha
   exact (r2 n hn).2)
  (by
   rcases r3 with r3 | ⟨n,hn,r3⟩
   ·exact .inl r3
   ·refine .inr ⟨⟨n,d.fr.length,qf7 x b.sat⟩, ?_,r3⟩
    unfold cf7
    rw[List.take_length]
    exact List.mem_map.2 ⟨n,hn,rfl⟩)
 have h0:nob7 x (tb7 x d b) ⟨ready.getD b.sat.toNat 0,1+b.sat,[]⟩ (ts++[ready.getD b.sat.toNat 0]) ready:=by
  refine⟨by rw[List.append_nil];exact hi,rfl,⟨by simp[tb7], ?_⟩,by simp[tb7]⟩
  simp only[tb7,List.append_nil]
  rw[← hl,fd7];omega
 have h1:=dz7 gd b.stops _ _ hb.2.2 h0
 have hw:=md7 gd (b.stops.foldl (gc7 x) (tb7 x d b)).node (1+b.sat)
 have hs:=h1.stay
 have hn:=h1.node
 have hla:=h1.last
 have hge:=h1.inv.tsB (b.stops.foldl (gc7 x) (tb7 x d b)).last
 generalize hE:b.stops.foldl (gc7 x) (tb7 x d b)=E at *
 have hS:od7 x ready b=b.stops.foldl (yf7 x) ⟨ready.getD b.sat.toNat 0,1+b.sat,[]⟩:=rfl
 rw[← hS]at h1 hn hla
 have hfin:(od7 x ready b).now+cb7 x (od7 x ready b).node (1+b.sat)=((ts++[ready.getD b.sat.toNat 0])++(od7 x ready b).starts).getD E.last 0+(E.stay+cb7 x E.node (1+b.sat)):=by rw[hn];omega
 have h2:=h1.inv.event (f:=0) (v:=(od7 x ready b).now+cb7 x (od7 x ready b).node (1+b.sat)) (new:=[⟨E.last,E.d.fr.length,E.stay+cb7 x E.node (1+b.sat)⟩])
  (fun a ha=>by rw[List.mem_singleton.1 ha];exact⟨hla.1,rfl,by show 0≤E.stay+cb7 x _ _;omega,by show E.stay+cb7 x _ _≤_;omega⟩) (by omega)
  (by rw[hfin];have:=h1.inv.tsB E.last;omega)
  (fun a ha=>by
   rw[List.mem_singleton.1 ha]
   exact Int.le_of_eq hfin.symm)
  (.inr ⟨_,List.mem_singleton.2 rfl,hfin⟩)
 have e:ts++cj7 (in7 x ready b)=((ts++[ready.getD b.sat.toNat 0])++(b.stops.foldl (yf7 x) ⟨ready.getD b.sat.toNat 0,1+b.sat,[]⟩).starts)++[(od7 x ready b).now+cb7 x (od7 x ready b).node (1+b.sat)]:=by
  simp only[cj7,in7,od7,List.append_assoc,List.cons_append,List.nil_append]
 rw[e,← hS]
 show ch7 x (jp7 x (b.stops.foldl (gc7 x) (tb7 x d b)) b) _ _
 rw[hE]
 exact h2
theorem geb7 {x:ba7}(gd:Good x) {ready:List Int}:∀(l:List ga7) (d:DrS) (ts:List Int),(∀b∈l,ko7 x b)→ch7 x d ts ready→ch7 x (l.foldl (we7 x) d) (ts++(l.map (in7 x ready)).flatMap cj7) ready
 | [],_,_,_,h=>by simpa using h
 | b::l,d,ts,hl,h=>by
  rw[List.foldl_cons,List.map_cons,List.flatMap_cons,← List.append_assoc]
  exact geb7 gd l _ _ (fun u hu=>hl u (List.mem_cons_of_mem _ hu)) (nvb7 gd (hl b List.mem_cons_self) h)
theorem rp7 {x:ba7}{p:ab7}(hok:jdb7 x p):ch7 x (zf7 x p) (sj7 (eb7 x p)) (tn7 x p.trucks).ready :=
 geb7 (li7 hok.inst) p.bikes _ _ hok.bike (az7 (li7 hok.inst) p.trucks _ _ (fun t ht=>(hok.truck t ht).2) (qqb7 x))
theorem xy7 (m k i:Nat):(m ||| 2 ^ k).testBit i=(m.testBit i || decide (k=i)):=by
 rw[Nat.testBit_or,Nat.testBit_two_pow]
theorem zv7 {x:ba7}:∀(l:List ea7) (m:Nat) (left:Int) (r:Nat×Int),l.foldl (pj7 x) (some (m,left))=some r→(l.map fun s=>s.sat.toNat).Nodup∧∀s∈l,m.testBit s.sat.toNat=false
 | [],_,_,_,_=>⟨List.nodup_nil,fun s hs=>by cases hs⟩
 | a::l,m,left,r,h=>by
  rw[List.foldl_cons]at h
  cases hb:jd7 x m a
  ·rw[iq7 hb]at h
   obtain⟨h1,h2⟩:=zv7 l _ _ r h
   have hm:m.testBit a.sat.toNat=false:=by
    simp only[jd7,Bool.or_eq_false_iff]at hb;exact hb.1.1.2
   refine⟨?_,fun s hs=>?_⟩
   ·rw[List.map_cons,List.nodup_cons]
    refine⟨fun hin=>?_,h1⟩
    obtain⟨s,hs,e⟩:=List.mem_map.1 hin
    have:=h2 s hs
    rw[xy7,Bool.or_eq_false_iff]at this
    exact absurd e.symm (by simpa using this.2)
   ·rcases List.mem_cons.1 hs with rfl | hs
    ·exact hm
    ·have:=h2 s hs
     rw[xy7,Bool.or_eq_false_iff]at this
     exact this.1
  ·rw[ln7 hb,zn7]at h;cases h
theorem qx7 {x:ba7}:∀(l:List Int) (m:Nat) (left:Int) (r:Nat×Int),l.foldl (ni7 x) (some (m,left))=some r→(l.map Int.toNat).Nodup∧(∀s∈l,m.testBit s.toNat=false)∧(∀i,r.1.testBit i=false→m.testBit i=false)∧∀s∈l,r.1.testBit s.toNat=true
 | [],m,left,r,h=>by
  cases h
  exact⟨List.nodup_nil,(fun s hs=>by cases hs),fun _ h=>h,fun s hs=>by cases hs⟩
 | a::l,m,left,r,h=>by
  rw[List.foldl_cons]at h
  cases hb:ae7 x m a
  ·rw[uq7 hb]at h
   obtain⟨h1,h2,h3,h4⟩:=qx7 l _ _ r h
   have hm:m.testBit a.toNat=false:=by
    simp only[ae7,Bool.or_eq_false_iff]at hb;exact hb.2
   refine⟨?_,fun s hs=>?_,fun i hi=>?_,fun s hs=>?_⟩
   ·rw[List.map_cons,List.nodup_cons]
    refine⟨fun hin=>?_,h1⟩
    obtain⟨s,hs,e⟩:=List.mem_map.1 hin
    have:=h2 s hs
    rw[xy7,Bool.or_eq_false_iff]at this
    exact absurd e.symm (by simpa using this.2)
   ·rcases List.mem_cons.1 hs with rfl | hs
    ·exact hm
    ·have:=h2 s hs
     rw[xy7,Bool.or_eq_false_iff]at this
     exact this.1
   ·have:=h3 i hi
    rw[xy7,Bool.or_eq_false_iff]at this
    exact this.1
   ·rcases List.mem_cons.1 hs with rfl | hs
    ·cases hr:r.1.testBit s.toNat
     ·have:=h3 _ hr
      rw[xy7,Bool.or_eq_false_iff]at this
      exact absurd this.2 (by simp)
     ·rfl
    ·exact h4 s hs
  ·rw[nn7 hb,kn7]at h;cases h
theorem ss7 {x:ba7}:∀(l:List ga7) (m:Nat) (d:Bool),(bi7 x l m d).1=true→((l.flatMap ga7.stops).map Int.toNat).Nodup∧∀b∈l,∀c∈b.stops,m.testBit c.toNat=false
 | [],_,_,_=>⟨List.nodup_nil,fun b hb=>by cases hb⟩
 | a::l,m,d,h=>by
  cases ha:bg7 x a
  case true=>rw[pn7 ha]at h;cases h
  cases hs:pq7 x m a.stops with
  | none=>rw[ll7 hs]at h;cases h
  | some q =>
   obtain⟨m',left⟩:=q
   rw[up7 ha hs]at h
   obtain⟨h1,h2,h3,h4⟩:=qx7 _ _ _ _ hs
   obtain⟨g1,g2⟩:=ss7 l _ _ h
   refine⟨?_,fun b hb c hc=>?_⟩
   ·rw[List.flatMap_cons,List.map_append,List.nodup_append]
    refine⟨h1,g1,fun i hi j hj e=>?_⟩
    obtain⟨c,hc,rfl⟩:=List.mem_map.1 hi
    obtain⟨c',hc',rfl⟩:=List.mem_map.1 hj
    obtain⟨b,hb,hc'⟩:=List.mem_flatMap.1 hc'
    have e1:=h4 c hc
    have e2:=g2 b hb c' hc'
    rw[e]at e1
    simp only at e1 e2
    rw[e1]at e2;cases e2
   ·rcases List.mem_cons.1 hb with rfl | hb
    ·exact h2 c hc
    ·exact h3 _ (g2 b hb c hc)
theorem gw7 {x:ba7}:∀(l:List (List ea7)) (r d:Bool),(pe7 x l r d).1=true→∀t∈l,(t.map fun s=>s.sat.toNat).Nodup
 | [],_,_,_,t,ht=>by cases ht
 | a::l,r,d,h,t,ht=>by
  cases ha:pi7 x a with
  | none=>rw[el7 ha]at h;cases h
  | some q =>
   obtain⟨m,left⟩:=q
   rw[lk7 ha]at h
   rcases List.mem_cons.1 ht with rfl | ht
   ·exact (zv7 _ _ _ _ ha).1
   ·exact gw7 l _ _ h t ht
theorem inb7 (l:List Nat) (n:Nat) (h:∀v∈l,v≤n):l.sum≤l.length*n:=by
 induction l with
 | nil=>simp
 | cons a l ih =>
  have h1:=h a List.mem_cons_self
  have h2:=ih fun v hv=>h v (List.mem_cons_of_mem _ hv)
  rw[List.sum_cons,List.length_cons,Nat.add_mul,Nat.one_mul];omega
theorem nmb7 (l:List Nat) (h:∀v∈l,1≤v):l.length≤l.sum:=by
 induction l with
 | nil=>simp
 | cons a l ih =>
  have h1:=h a List.mem_cons_self
  have h2:=ih fun v hv=>h v (List.mem_cons_of_mem _ hv)
  rw[List.sum_cons,List.length_cons];omega
structure px7 (x:ba7) (p:ab7):Prop where
 ok:jdb7 x p
 tl:p.trucks.length≤60
 t:gb7 p.trucks p.trucks.length≤720
 t1:∀t∈p.trucks,t.length≤12
 b:p.bikes.length≤6
 s:pb7 p.bikes p.bikes.length≤6
theorem ux7 {x:ba7}{p:ab7}(h:ya7 x p=0) (hn:x.custs.length≤6):px7 x p:=by
 have hok:=aj7 h
 have gd:=li7 hok.inst
 have h2:(id7 x p.trucks).1=true∧(le7 x p.bikes).1=true:=by
  unfold ya7 at h
  rw[if_neg (by simpa using hok.inst)]at h
  split at h
  ·cases h
  split at h
  ·cases h
  rename_i h2
  simpa using h2
 have ht1:∀t∈p.trucks,t.length≤12:=fun t ht=>by
  have h3:=gw7 _ _ _ h2.1 t ht
  have h4:=jg7 h3 (n:=x.sats.length) fun i hi=>by
   obtain⟨s,hs,rfl⟩:=List.mem_map.1 hi
   have:=((hok.truck t ht).2 s hs).1;omega
  rw[List.length_map]at h4
  have:=gd.sats;omega
 have htl:p.trucks.length≤60:=by have:=hok.many;have:=gd.tmany;omega
 have hs:pb7 p.bikes p.bikes.length≤6:=by
  have h3:=(ss7 _ _ _ h2.2).1
  have h4:=jg7 h3 (n:=x.custs.length) fun i hi=>by
   obtain⟨c,hc,rfl⟩:=List.mem_map.1 hi
   obtain⟨b,hb,hc⟩:=List.mem_flatMap.1 hc
   have:=(hok.bike b hb).2.2 c hc;unfold gg7 at this;omega
  rw[List.length_map,List.length_flatMap]at h4
  unfold pb7
  rw[List.take_length];omega
 refine⟨hok,htl, ?_,ht1, ?_,hs⟩
 ·unfold gb7
  rw[List.take_length]
  have:=inb7 (p.trucks.map List.length) 12 fun v hv=>by
   obtain⟨t,ht,rfl⟩:=List.mem_map.1 hv;exact ht1 t ht
  rw[List.length_map]at this;omega
 ·have:=nmb7 (p.bikes.map fun b=>b.stops.length) fun v hv=>by
   obtain⟨b,hb,rfl⟩:=List.mem_map.1 hv;exact (hok.bike b hb).2.1
  unfold pb7 at hs
  rw[List.take_length]at hs
  rw[List.length_map]at this;omega
theorem px7.fr {x:ba7}{p:ab7}(h:px7 x p):(zf7 x p).fr.length=gb7 p.trucks p.trucks.length+pb7 p.bikes p.bikes.length+2*p.bikes.length∧(zf7 x p).arcs.length≤20000:=by
 have gd:=li7 h.ok.inst
 have h1:=xp7 (fun t ht=>(h.ok.truck t ht).2) p.trucks.length (Nat.le_refl _)
 obtain⟨m,hm,h2⟩:=aab7 gd h.ok.bike h1 p.bikes.length (Nat.le_refl _)
 rw[List.take_length,List.take_length]at h2
 have h3:lhb7 x (zf7 x p) _ _:=h2
 refine⟨h3.frL,Nat.le_trans h3.arL (Nat.le_trans hm ?_)⟩
 have hb:=h.b
 have ht:=h.t
 have hs:=h.s
 have h5:enb7 (gb7 p.trucks p.trucks.length) p.bikes p.bikes.length≤738:=by unfold enb7;omega
 exact Nat.le_trans (Nat.mul_le_mul h5 (show p.bikes.length+1≤7 by omega)) (by decide)
theorem px7.graph {x:ba7}{p:ab7}(h:px7 x p):kfb7 ⟨(zf7 x p).fr.length,(zf7 x p).arcs⟩:=by
 have hb:=h.b
 have ht:=h.t
 have hs:=h.s
 exact⟨by show (zf7 x p).fr.length≤1000;rw[h.fr.1];omega,h.fr.2,(rp7 h.ok).arc⟩
theorem px7.late {x:ba7}{p:ab7}(h:px7 x p) {d:List Int}(hd:zl7 ⟨(zf7 x p).fr.length,(zf7 x p).arcs⟩ (zf7 x p).fr d):d=sj7 (eb7 x p) :=
 zl7.unique (fun a ha=>⟨((rp7 h.ok).arc a ha).1,((rp7 h.ok).arc a ha).2.1⟩) hd (rp7 h.ok).late
theorem hk7 {w:World}{F:Nat→Prop}{xs:List qa7}{cs:List Value}(h:iz7.rep w F xs cs) :
  ∃(a:Option Addr) (b off c:Nat),cs=[.slice a xs.length c]∧xs.length≤c∧c≤9223372036854775807∧(0<xs.length→a=some ⟨b,off,none⟩)∧(0<xs.length→F b) ∧
   ∀k (h:k<xs.length),∃v,w.cell? ⟨b,off+k*3,none⟩=some (.int .i64 xs[k].out)∧w.cell? ⟨b,off+k*3+1,none⟩=some v∧w.cell? ⟨b,off+k*3+2,none⟩=some (.int .i64 xs[k].back)∧za7 xs[k].out∧za7 xs[k].back∧(ia7 hf7).rep w F xs[k].starts [v]:=by
 obtain⟨a,b,off,c,rfl,h1,h2,h3,h4⟩:=h
 refine⟨a,b,off,c,rfl,h1,h2,fun h=>(h3 h).1,fun h=>(h3 h).2,fun k hk=>?_⟩
 obtain⟨es,⟨v,rfl,hw,hw',hr⟩,hc⟩:=h4 k hk
 have e0:=hc 0 (by decide)
 have e1:=hc 1 (by decide)
 have e2:=hc 2 (by decide)
 exact⟨v,by simpa[iy7]using e0,by simpa[iy7]using e1,by simpa[iy7]using e2,hw,hw',hr⟩
structure TkS where
 now:Int
 node:Int
 ready:List Int
def sx7 (a f t:Int):Bool:=decide (f≤a)&&decide (a≤t)
def dgb7 (x:ba7) (st:TkS) (s:ea7) (v:Int):Option TkS :=
 if sx7 v (st.now+cb7 x st.node (1+s.sat)) x.fin=true then some ⟨v,1+s.sat,st.ready.set s.sat.toNat (max (st.ready.getD s.sat.toNat 0) (v+qf7 x s.sat))⟩ else none
def eh7 (x:ba7) (t:List ea7) (l ready:List Int):Nat→Option TkS
 | 0=>some ⟨0,0,ready⟩
 | j+1=>(eh7 x t l ready j).bind fun st=>dgb7 x st (t.getD j ⟨0,0⟩) (l.getD j 0)
theorem et7 {x:ba7}{t:List ea7}{l ready:List Int}{j:Nat}(h:eh7 x t l ready j=none):∀m,eh7 x t l ready (j+m)=none
 | 0=>h
 | m+1=>by rw[← Nat.add_assoc];simp only[eh7,et7 h m,Option.bind_none]
def lo7 (x:ba7) (t:List ea7) (l ready:List Int):Option (List Int) :=
 (eh7 x t l ready t.length).bind fun st=>if st.now+cb7 x st.node 0≤x.fin then some st.ready else none
def xf7 (x:ba7) (p:ab7) (t:qb7):Nat→Option (List Int)
 | 0=>some (List.replicate x.sats.length 0)
 | k+1=>(xf7 x p t k).bind fun r=>lo7 x (p.trucks.getD k []) (t.trucks.getD k []) r
theorem qp7 {x:ba7}{p:ab7}{t:qb7}{j:Nat}(h:xf7 x p t j=none):∀m,xf7 x p t (j+m)=none
 | 0=>h
 | m+1=>by rw[← Nat.add_assoc];simp only[xf7,qp7 h m,Option.bind_none]
structure BkS where
 now:Int
 node:Int
def alb7 (x:ba7) (st:BkS) (c v:Int):Option BkS :=
 if sx7 v (max (vd7 x c).opn (st.now+cb7 x st.node (1+x.sats.length+c))) (min (vd7 x c).cls x.fin)=true then some ⟨v+(vd7 x c).stay,1+x.sats.length+c⟩ else none
def mj7 (x:ba7) (b:ga7) (r:qa7):Nat→Option BkS
 | 0=>some ⟨r.out,1+b.sat⟩
 | j+1=>(mj7 x b r j).bind fun st=>alb7 x st (b.stops.getD j 0) (r.starts.getD j 0)
theorem qv7 {x:ba7}{b:ga7}{r:qa7}{j:Nat}(h:mj7 x b r j=none):∀m,mj7 x b r (j+m)=none
 | 0=>h
 | m+1=>by rw[← Nat.add_assoc];simp only[mj7,qv7 h m,Option.bind_none]
def tgb7 (x:ba7) (b:ga7) (r:qa7) (ready:List Int):Bool :=
 sx7 r.out (ready.getD b.sat.toNat 0) x.fin&&match mj7 x b r b.stops.length with
  | none=>false
  | some st=>sx7 r.back (st.now+cb7 x st.node (1+b.sat)) x.fin
def vdb7 (t:qb7) (k:Nat):qa7:=t.bikes.getD k ⟨0,[],0⟩
def ds7 (x:ba7) (p:ab7) (t:qb7) (ready:List Int) (k:Nat):Bool:=(List.range k).all fun i=>tgb7 x (p.bikes.getD i ⟨0,[]⟩) (vdb7 t i) ready
def pt7 (p:ab7) (t:qb7) (k:Nat):Bool:=(List.range k).all fun i=>decide ((t.trucks.getD i []).length=(p.trucks.getD i []).length)
def fq7 (p:ab7) (t:qb7) (k:Nat):Bool:=(List.range k).all fun i=>decide ((vdb7 t i).starts.length=(p.bikes.getD i ⟨0,[]⟩).stops.length)
def gnb7 (p:ab7) (t:qb7):Bool:=(decide (t.trucks.length=p.trucks.length)&&decide (t.bikes.length=p.bikes.length))&&(pt7 p t p.trucks.length&&fq7 p t p.bikes.length)
def cic7 (x:ba7) (p:ab7) (t:qb7):Bool:=match xf7 x p t p.trucks.length with
 | none=>false
 | some r=>ds7 x p t r p.bikes.length
def ra7 (x:ba7) (p:ab7) (t:qb7):Int :=
 if ya7 x p≠0 then ya7 x p else if gnb7 p t=false then 4 else if cic7 x p t=false then 12 else 0
theorem zbb7 (f:Nat→Bool) (k:Nat):(List.range (k+1)).all f=((List.range k).all f&&f k):=by
 rw[List.range_succ,List.all_append];simp
end Go.Proofs.YtabadfkikdefeaaGreat
