/- Texts of the proof, joined: HaulFits, CanD, TimesOwn, Parse2, ReadF, Open, Law. -/
import Derived.BigQuiet
import Derived.Laws.RangeAny
import Derived.Laws.RangeString
import Derived.Test.YtabadfkikdefeaaGreatProg
import Derived.Deep.Slices
import Derived.OpenShut
import Derived.Test.YtabadfkikdefeaaGreatRows
import Derived.ProofKit
import Derived.Test.YtabadfkikdefeaaGreatCode
set_option linter.all false
set_option maxRecDepth 100000
set_option maxHeartbeats 6400000


namespace Go.Proofs.YtabadfkikdefeaaGreat
open Go.RowKit
structure gy7 (TR TI:Nat) (w:World) (B:Nat) (v:Value) (out:List (List Int)) (vs:List Value):Prop where
 own:w.ownsRow B TR 1 v out.length vs
 len:vs.length=out.length
 rows:∀i (h:i<out.length) (h':i<vs.length),w.ownsRow B TI 1 vs[i] out[i].length (out[i].map ib7)
section
variable {TR TI:Nat} {w w':World} {B:Nat} {v v' u:Value} {out:List (List Int)} {vs:List Value}
theorem gy7.nil (TR TI:Nat) (w:World) (B:Nat):gy7 TR TI w B (.slice none 0 0) [] [] :=
 ⟨World.ownsRow_nil _ _ _ _,rfl,fun _ h=>absurd h (Nat.not_lt_zero _)⟩
theorem gy7.below (h:gy7 TR TI w B v out vs) (hb:Below w.heap.size w w'):gy7 TR TI w' B v out vs :=
 ⟨oa7 h.own hb,h.len,fun i h1 h2=>oa7 (h.rows i h1 h2) hb⟩
theorem gy7.blockLt (h:gy7 TR TI w B v out vs):∀i (hi:i<vs.length) b,vs[i].ownBlock=some b→B≤b∧b<w.heap.size:=fun i hi b hb =>
 (h.rows i (by rw[← h.len];exact hi) hi).lt b hb
theorem gy7.keptSet {TP p j:Nat}{cs:List Value}(h:gy7 TR TI w B v out vs) (hr:Row w p TP cs) (h1:TP≠TR) (h2:TP≠TI):gy7 TR TI (w.setCell ⟨p,j,none⟩ u) B v out vs :=
 ⟨la7 h.own hr h1 j u,h.len,fun i k1 k2=>la7 (h.rows i k1 k2) hr h2 j u⟩
theorem gy7.mono {B':Nat}(h:gy7 TR TI w B v out vs) (hb:B'≤B):gy7 TR TI w B' v out vs :=
 ⟨mc7 h.own hb,h.len,fun i h1 h2=>mc7 (h.rows i h1 h2) hb⟩
theorem gy7.keptOwn {T k n B':Nat}{x:Value}{xs:List Value}(h:gy7 TR TI w B v out vs) (ho:w.ownsRow B' T k x n xs) (hg:w.grownBy w' x.ownBlock) (h1:TR≠T) (h2:TI≠T):gy7 TR TI w' B v out vs :=
 ⟨h.own.kept hg (fb7 h.own ho h1),h.len,fun i k1 k2=>(h.rows i k1 k2).kept hg (fb7 (h.rows i k1 k2) ho h2)⟩
theorem gy7.push {t:List Int}(h:gy7 TR TI w B v out vs) (hne:TI≠TR) (hg:w.grownBy w' v.ownBlock) (ho:w'.ownsRow B TR 1 v' (out.length+1) (vs++[u])) (hu:w.ownsRow B TI 1 u t.length (t.map ib7)):gy7 TR TI w' B v' (out++[t]) (vs++[u]):=by
 refine⟨by rw[List.length_append];exact ho,by simp[h.len],fun i h1 h2=>?_⟩
 by_cases hl:i<out.length
 ·have hl':i<vs.length:=by rw[h.len];exact hl
  rw[List.getElem_append_left hl',List.getElem_append_left hl]
  exact (h.rows i hl hl').kept hg (fb7 (h.rows i hl hl') h.own hne)
 ·have:i=out.length:=by simp at h1;omega
  subst this
  have e1:(vs++[u])[out.length]'h2=u:=by rw[List.getElem_append_right (by rw[h.len];exact Nat.le_refl _)];simp[h.len]
  have e2:(out++[t])[out.length]'h1=t:=by rw[List.getElem_append_right (Nat.le_refl _)];simp
  rw[e1,e2]
  exact hu.kept hg (fb7 hu h.own hne)
theorem gy7.rep (h:gy7 TR TI w B v out vs) (hw:∀t∈out,∀s∈t,za7 s):sh7.rep w (fun b=>B≤b) out [v]:=by
 have hr:∀i (h1:i<out.length) (h2:i<vs.length),(ia7 hf7).rep w (fun b=>B≤b) out[i] [vs[i]]:=fun i h1 h2=>kk7 (h.rows i h1 h2) (hw _ (List.getElem_mem h1))
 rcases h.own.2 with ⟨rfl,hn⟩ | ⟨g,cap,cur,rfl,hg,hh,hn1,hc,hsz,ht⟩
 ·have:out=[]:=List.eq_nil_of_length_eq_zero hn
  subst this
  exact fh7 _ _ _
 ·have hR:Row w g TR vs:=⟨cur,cur.toList.drop (out.length*1),hh,by rw[← ht,List.take_append_drop]⟩
  refine or7 (S:=ia7 hf7) (T:=TR) (vs.map fun v=>[v]) (by simp[h.len]) (fun v hv=>by obtain⟨u,_,rfl⟩:=List.mem_map.1 hv;rfl) (fun i h1 h2=>?_) ?_ hn1 hc hg
  ·rw[List.getElem_map];exact hr i h1 _
  ·have:(vs.map fun v=>[v]).flatten=vs:=by
    clear hR ht hr h
    induction vs with
    | nil=>rfl
    | cons a l ih=>rw[List.map_cons,List.flatten_cons,ih];rfl
   rw[this];exact hR
end
theorem xx7.blockLt {TR TI:Nat}{w:World}{B:Nat}{v:Value}{out:List qa7}{vs:List Value}(h:xx7 TR TI w B v out vs):∀i (hi:i<vs.length) b,vs[i].ownBlock=some b→B≤b∧b<w.heap.size:=fun i hi b hb =>
 (h.rows i (by rw[← h.len];exact hi) hi).lt b hb
theorem xx7.mono {TR TI:Nat}{w:World}{B B':Nat}{v:Value}{out:List qa7}{vs:List Value}(h:xx7 TR TI w B v out vs) (hb:B'≤B):xx7 TR TI w B' v out vs :=
 ⟨mc7 h.own hb,h.len,fun i h1 h2=>mc7 (h.rows i h1 h2) hb⟩
def Sep (vs:List Value):Prop:=vs.Pairwise fun a b=>a.ownBlock=none∨a.ownBlock≠b.ownBlock
theorem Sep.nil:Sep []:=List.Pairwise.nil
theorem Sep.push {vs:List Value}{u:Value}{n:Nat}(h:Sep vs) (hv:∀a∈vs,∀b,a.ownBlock=some b→b<n) (hu:∀b,u.ownBlock=some b→n≤b):Sep (vs++[u]):=by
 refine List.pairwise_append.2 ⟨h,List.pairwise_singleton _ _,fun a ha b hb=>?_⟩
 obtain rfl:=List.mem_singleton.1 hb
 cases e:a.ownBlock with
 | none=>exact .inl rfl
 | some k=>exact .inr fun e'=>by have:=hv a ha k e;have:=hu k e'.symm;omega
structure iec7 (x:ba7) (st:SnT):Prop where
 now:0≤st.now∧st.now≤st.l.length*1000000000
 node:0≤st.node∧st.node<nodes x
 len:st.ready.length=x.sats.length
 rdy:∀v∈st.ready,0≤v∧v≤200000000000000
 l:∀v∈st.l,0≤v∧v≤st.l.length*1000000000
theorem iec7.get {x:ba7}{st:SnT}(h:iec7 x st) (i:Nat):0≤st.ready.getD i 0∧st.ready.getD i 0≤200000000000000:=by
 rw[List.getD_eq_getElem?_getD]
 by_cases e:i<st.ready.length
 ·rw[List.getElem?_eq_getElem e];exact h.rdy _ (List.getElem_mem e)
 ·rw[List.getElem?_eq_none (by omega)];simp
theorem iec7.step {x:ba7}(gd:Good x) {st:SnT}{s:ea7}(h:iec7 x st) (hl:st.l.length≤100000) (hs:0≤s.sat∧s.sat<x.sats.length):iec7 x (xg7 x st s):=by
 have h1:=h.now
 have h2:=md7 gd st.node (1+s.sat)
 have h3:=tu7 gd s.sat
 have h4:=h.get s.sat.toNat
 have hlen:(xg7 x st s).l.length=st.l.length+1:=by simp[xg7]
 refine⟨?_, ?_, ?_,fun v hv=>?_,fun v hv=>?_⟩
 ·rw[hlen];show 0≤st.now+_∧st.now+_≤_;push_cast;omega
 ·show 0≤1+s.sat∧1+s.sat<(nodes x:Int);unfold nodes;omega
 ·show (st.ready.set _ _).length=_;rw[List.length_set];exact h.len
 ·rcases List.mem_or_eq_of_mem_set hv with hv | rfl
  ·exact h.rdy _ hv
  ·omega
 ·rw[hlen]
  rcases List.mem_append.1 (show v∈st.l++[st.now+cb7 x st.node (1+s.sat)] from hv) with hv | hv
  ·have:=h.l v hv;push_cast;omega
  ·obtain rfl:=List.mem_singleton.1 hv
   push_cast;omega
structure tmc7 (x:ba7) (a:SnA):Prop where
 len:a.ready.length=x.sats.length
 rdy:∀v∈a.ready,0≤v∧v≤200000000000000
 ts:∀l∈a.ts,∀v∈l,0≤v∧v≤200000000000000
theorem tmc7.start (x:ba7) (a:SnA) (h:tmc7 x a):iec7 x ⟨0,0,a.ready,[]⟩ :=
 ⟨⟨Int.le_refl _,by simp⟩,⟨Int.le_refl _,by show (0:Int)<(nodes x:Int);unfold nodes;omega⟩,h.len,h.rdy,fun v hv=>by cases hv⟩
structure zjc7 (x:ba7) (st:SnB):Prop where
 now:0≤st.now∧st.now≤300000000000000+st.starts.length*3000000000
 node:0≤st.node∧st.node<nodes x
 l:∀v∈st.starts,0≤v∧v≤300000000000000+st.starts.length*3000000000
theorem zjc7.step {x:ba7}(gd:Good x) {st:SnB}{c:Int}(h:zjc7 x st) (hl:st.starts.length≤100000) (hc:gg7 x c):zjc7 x (yf7 x st c):=by
 have h1:=h.now
 have h2:=md7 gd st.node (1+x.sats.length+c)
 have h3:=ju7 gd hc
 have hlen:(yf7 x st c).starts.length=st.starts.length+1:=by simp[yf7]
 refine⟨?_, ?_,fun v hv=>?_⟩
 ·rw[hlen];show 0≤max _ _+_∧max _ _+_≤_;push_cast;omega
 ·show 0≤1+(x.sats.length:Int)+c∧1+(x.sats.length:Int)+c<(nodes x:Int);unfold nodes gg7 at *; omega
 ·rw[hlen]
  rcases List.mem_append.1 (show v∈st.starts++[max (st.now+cb7 x st.node (1+x.sats.length+c)) (vd7 x c).opn] from hv) with hv | hv
  ·have:=h.l v hv;push_cast;omega
  ·obtain rfl:=List.mem_singleton.1 hv
   push_cast;omega
open Go.RowKit Go.Lib
def evb7 (o:Option Nat):Value:=match o with
 | some n=>.tuple #[.int .i64 n,.bool true]
 | none=>.tuple #[.int .i64 0,.bool false]
instance (l:List UInt8):Decidable (canon l):=by unfold canon;infer_instance
theorem ov7 (s:List UInt8):fe7 s=if s.length≤16∧canon s∧(∀c∈s,hh7 c)∧em7 s≤1000000000000000 then some (em7 s) else none:=by
 unfold fe7
 by_cases h:s.length≤16∧canon s∧(∀c∈s,hh7 c)∧em7 s≤1000000000000000
 ·rw[if_pos h,if_pos ⟨h.1,h.2.2.1,eac7 s h.2.2.1 h.2.1,h.2.2.2⟩]
 ·rw[if_neg h,if_neg (fun h2=>h ⟨h2.1,by rw[← h2.2.2.1];exact nqb7 _,h2.2.1,h2.2.2.2⟩)]
theorem dpb7 {s:List UInt8}(ha:∀c∈s,c.toNat<128) {pos:Nat}(h:pos<s.length):Utf8.decode (S s) pos=((s.getD pos 0).toNat,1):=by
 have h2:pos<(S s).size:=h
 have e:(S s)[pos]'h2=s.getD pos 0:=by
  rw[List.getD_eq_getElem?_getD,List.getElem?_eq_getElem h];rfl
 rw[decode_ascii (S s) pos h2 (by rw[e,List.getD_eq_getElem?_getD,List.getElem?_eq_getElem h];exact ha _ (List.getElem_mem h)),e]
theorem mob7 {s:List UInt8}(h:¬(s.length≤16∧canon s∧(∀c∈s,hh7 c)∧em7 s≤1000000000000000)):evb7 (fe7 s) = .tuple #[.int .i64 0,.bool false]:=by
 rw[ov7,if_neg h];rfl
theorem svb7 {s:List UInt8}(ha:∀c∈s,c.toNat<128) (w:World) :
  Calls Tryz.prog 132 #[.string (S s)] w fun e w'=>e = .returned (evb7 (fe7 s))∧Below w.heap.size w w':=by
 have HA:=hid ha
 have HN:=hid (mob7 (s:=s))
 obtain⟨r,hr⟩:∃r,r=evb7 (fe7 s):=⟨_,rfl⟩
 have HR:=hid hr
 rw[← hr]
 clear hr ha
 have hsz:(S s).size=s.length:=rfl
 have HB:=hid (show ∀h:0<(S s).size,(S s)[0]'h=s.getD 0 0 from fun h=>by
  rw[List.getD_eq_getElem?_getD,List.getElem?_eq_getElem h];rfl)
 go_enter Tryz.func132,Tryz.ntmps132
 go_wp2
 all_goals first
  | (refine bodyPost_ret (results_tmp2 rfl _ _ _) rfl ⟨?_,Below.refl _ _⟩;refine congrArg Ending.returned ?_;rw[HR.out];refine (HN.out fun h=>?_).symm)
  | skip
 ·rename_i e;exact h.2.1.1 e
 ·rename_i e5 e4 e3 e2 e1
  rcases e1 with (e1 | e1) | e1
  ·have e7:(s.length:Int)=0:=beq_iff_eq.1 e1;omega
  ·omega
  ·refine h.2.1.2 (by omega) ?_
   rw[← HB.out e2]
   have e6:(((S s)[0]'e2).toNat:Int)=48:=by simpa using e1
   rw[zrb7];exact e6
 ·rename_i e5 e4 e3 e2 e1 K ak
  have hcan:canon s:=⟨e5,fun _ h=>by
   have e6:=e1.2
   rw[HB.out e2,h]at e6
   exact absurd e6 (by decide)⟩
  have HCAN:=hid hcan
  have h16:s.length≤16:=by omega
  have H16:=hid h16
  clear hcan h16
  go_loopw [4] (fun nv wr=>∃pos:Nat,pos≤s.length∧hib7 s pos∧nv = .int .i64 (em7 (s.take pos))∧wr=w.iter (S s) pos) (fun _ wr=>s.length-wr.iterPos w.heap.size)
  case atStart=>exact⟨0,Nat.zero_le _,fun _ h=>absurd h (Nat.not_lt_zero _),rfl,rfl⟩
  case round =>
   obtain⟨pos,hp,hd,rfl,rfl⟩:=hrel
   have hv:=elb7 pos hp hd
   have hv2:10 ^ pos≤10 ^ 16:=Nat.pow_le_pow_right (by omega) (by have:=H16.out;omega)
   have h1016:10 ^ 16=10000000000000000:=by decide
   have hvb:em7 (s.take pos)≤10000000000000000:=by omega
   have HT:=hid (fun h:pos<s.length=>ku7 h)
   have HD:=hid hd
   have HV:=hid (show pos=s.length→em7 s=em7 (s.take pos) from fun e=>by rw[e,List.take_length])
   obtain⟨n,hn⟩:∃n,n=em7 (s.take pos):=⟨_,rfl⟩
   have HN2:=hid hn
   rw[← hn]at hvb ⊢
   clear hv hv2 h1016 hd hn
   by_cases hlt:pos<s.length
   ·obtain⟨c,hc⟩:∃c,c=(s.getD pos 0).toNat:=⟨_,rfl⟩
    have hnx:∀ty,(Instr.next (.pointer (some ⟨w.heap.size,0,none⟩)) true ty).run Tryz.prog (w.iter (S s) pos) = .ok (.tuple #[.bool true,.int .i64 pos,.int .i32 c]) (w.iter (S s) (pos+1)):=fun ty=>by
     have:=run_next_any (P:=Tryz.prog) w (S s) pos ty hlt
     rw[dpb7 HA.out hlt,← hc]at this
     exact this
    have hc8:c<256:=by rw[hc];exact (s.getD pos 0).toNat_lt
    have HCC:=hid hc
    have hnd:¬(48≤c∧c≤57)→r = .tuple #[.int .i64 0,.bool false]:=fun h=>by
     rw[HR.out]
     refine HN.out fun h3=>h ?_
     have:=h3.2.2.1 (s.getD pos 0) (by rw[List.getD_eq_getElem?_getD,List.getElem?_eq_getElem hlt];exact List.getElem_mem hlt)
     rw[hc];exact this
    have HND:=hid hnd
    clear hc hnd
    by_cases hdig:48≤c∧c≤57
    ·have g1:¬(c:Int)<48:=by omega
     have g2:¬(57:Int)<(c:Int):=by omega
     go_wp2
     go_roundw
     case rel =>
      refine⟨pos+1,hlt,zr7 HD.out (by unfold hh7;rw[← HCC.out];exact hdig), ?_,rfl⟩
      rw[HT.out hlt,← HN2.out,bwb7,← HCC.out]
      exact congrArg (Value.int .i64) (by omega)
     case measure =>
      simp
      omega
    ·have HDG:=hid hdig
     clear hdig
     go_wp2
     all_goals first
      | (refine bodyPost_ret (results_tmp2 rfl _ _ _) rfl ⟨?_,(Below.refl _ _).alloc (Nat.le_refl _) _⟩;exact congrArg Ending.returned (HND.out HDG.out).symm)
      | (exfalso;have hdg:=HDG.out;omega)
   ·have hnx:∀ty,(Instr.next (.pointer (some ⟨w.heap.size,0,none⟩)) true ty).run Tryz.prog (w.iter (S s) pos)=_:=fun ty=>run_next_end w (S s) pos ty hlt
    have hpe:pos=s.length:=by omega
    have HPE:=hid hpe
    have hr1:n≤1000000000000000→r = .tuple #[.int .i64 n,.bool true]:=fun h=>by
     have hv:=HV.out HPE.out
     have hd2:=HD.out
     rw[HPE.out]at hd2
     rw[HR.out,ov7,if_pos ⟨H16.out,HCAN.out,mv7 hd2,by rw[hv,← HN2.out];exact h⟩,hv,← HN2.out];rfl
    have hr2:¬n≤1000000000000000→r = .tuple #[.int .i64 0,.bool false]:=fun h=>by
     have hv:=HV.out HPE.out
     rw[HR.out]
     refine HN.out fun h3=>h ?_
     rw[HN2.out,← hv];exact h3.2.2.2
    have HR1:=hid hr1
    have HR2:=hid hr2
    clear hr1 hr2 hpe
    go_wp2
    all_goals
     refine bodyPost_ret (results_tmp2 rfl _ _ _) rfl ⟨?_,(Below.refl _ _).alloc (Nat.le_refl _) _⟩
    ·exact congrArg Ending.returned (HR2.out (by omega)).symm
    ·exact congrArg Ending.returned (HR1.out (by omega)).symm
 ·rename_i e4 e3 e2 e1
  rcases e2 with e2 | e2
  ·have e7:(s.length:Int)=0:=beq_iff_eq.1 e2
   exact e4 (List.length_eq_zero_iff.1 (by omega))
  ·omega
 ·rename_i e4 e3 e2 K ak e1
  have hcan:canon s:=⟨e4,fun h=>absurd h (by omega)⟩
  have HCAN:=hid hcan
  have h16:s.length≤16:=by omega
  have H16:=hid h16
  clear hcan h16
  go_loopw [4] (fun nv wr=>∃pos:Nat,pos≤s.length∧hib7 s pos∧nv = .int .i64 (em7 (s.take pos))∧wr=w.iter (S s) pos) (fun _ wr=>s.length-wr.iterPos w.heap.size)
  case atStart=>exact⟨0,Nat.zero_le _,fun _ h=>absurd h (Nat.not_lt_zero _),rfl,rfl⟩
  case round =>
   obtain⟨pos,hp,hd,rfl,rfl⟩:=hrel
   have hv:=elb7 pos hp hd
   have hv2:10 ^ pos≤10 ^ 16:=Nat.pow_le_pow_right (by omega) (by have:=H16.out;omega)
   have h1016:10 ^ 16=10000000000000000:=by decide
   have hvb:em7 (s.take pos)≤10000000000000000:=by omega
   have HT:=hid (fun h:pos<s.length=>ku7 h)
   have HD:=hid hd
   have HV:=hid (show pos=s.length→em7 s=em7 (s.take pos) from fun e=>by rw[e,List.take_length])
   obtain⟨n,hn⟩:∃n,n=em7 (s.take pos):=⟨_,rfl⟩
   have HN2:=hid hn
   rw[← hn]at hvb ⊢
   clear hv hv2 h1016 hd hn
   by_cases hlt:pos<s.length
   ·obtain⟨c,hc⟩:∃c,c=(s.getD pos 0).toNat:=⟨_,rfl⟩
    have hnx:∀ty,(Instr.next (.pointer (some ⟨w.heap.size,0,none⟩)) true ty).run Tryz.prog (w.iter (S s) pos) = .ok (.tuple #[.bool true,.int .i64 pos,.int .i32 c]) (w.iter (S s) (pos+1)):=fun ty=>by
     have:=run_next_any (P:=Tryz.prog) w (S s) pos ty hlt
     rw[dpb7 HA.out hlt,← hc]at this
     exact this
    have hc8:c<256:=by rw[hc];exact (s.getD pos 0).toNat_lt
    have HCC:=hid hc
    have hnd:¬(48≤c∧c≤57)→r = .tuple #[.int .i64 0,.bool false]:=fun h=>by
     rw[HR.out]
     refine HN.out fun h3=>h ?_
     have:=h3.2.2.1 (s.getD pos 0) (by rw[List.getD_eq_getElem?_getD,List.getElem?_eq_getElem hlt];exact List.getElem_mem hlt)
     rw[hc];exact this
    have HND:=hid hnd
    clear hc hnd
    by_cases hdig:48≤c∧c≤57
    ·have g1:¬(c:Int)<48:=by omega
     have g2:¬(57:Int)<(c:Int):=by omega
     go_wp2
     go_roundw
     case rel =>
      refine⟨pos+1,hlt,zr7 HD.out (by unfold hh7;rw[← HCC.out];exact hdig), ?_,rfl⟩
      rw[HT.out hlt,← HN2.out,bwb7,← HCC.out]
      exact congrArg (Value.int .i64) (by omega)
     case measure =>
      simp
      omega
    ·have HDG:=hid hdig
     clear hdig
     go_wp2
     all_goals first
      | (refine bodyPost_ret (results_tmp2 rfl _ _ _) rfl ⟨?_,(Below.refl _ _).alloc (Nat.le_refl _) _⟩;exact congrArg Ending.returned (HND.out HDG.out).symm)
      | (exfalso;have hdg:=HDG.out;omega)
   ·have hnx:∀ty,(Instr.next (.pointer (some ⟨w.heap.size,0,none⟩)) true ty).run Tryz.prog (w.iter (S s) pos)=_:=fun ty=>run_next_end w (S s) pos ty hlt
    have hpe:pos=s.length:=by omega
    have HPE:=hid hpe
    have hr1:n≤1000000000000000→r = .tuple #[.int .i64 n,.bool true]:=fun h=>by
     have hv:=HV.out HPE.out
     have hd2:=HD.out
     rw[HPE.out]at hd2
     rw[HR.out,ov7,if_pos ⟨H16.out,HCAN.out,mv7 hd2,by rw[hv,← HN2.out];exact h⟩,hv,← HN2.out];rfl
    have hr2:¬n≤1000000000000000→r = .tuple #[.int .i64 0,.bool false]:=fun h=>by
     have hv:=HV.out HPE.out
     rw[HR.out]
     refine HN.out fun h3=>h ?_
     rw[HN2.out,← hv];exact h3.2.2.2
    have HR1:=hid hr1
    have HR2:=hid hr2
    clear hr1 hr2 hpe
    go_wp2
    all_goals
     refine bodyPost_ret (results_tmp2 rfl _ _ _) rfl ⟨?_,(Below.refl _ _).alloc (Nat.le_refl _) _⟩
    ·exact congrArg Ending.returned (HR2.out (by omega)).symm
    ·exact congrArg Ending.returned (HR1.out (by omega)).symm
 ·omega
end Go.Proofs.YtabadfkikdefeaaGreat
namespace Go.Proofs.YtabadfkikdefeaaGreat
open Go.RowKit
section
variable (ws:List (List UInt8×Nat))
def ap7 (most:Int) (s:Stt):Int×Stt:=vz7 ws s.1 s.2 most
def eab7 (w:List UInt8) (s:Stt):Stt:=ks7 ws s.1 s.2 w
def oi7 (a:(List ea7×List Int)×Stt):(List ea7×List Int)×Stt :=
 ((a.1.1++[⟨(ap7 ws 11 a.2).1,(ap7 ws 1000000000 (ap7 ws 11 a.2).2).1⟩],a.1.2++[(ap7 ws 1000000000 (ap7 ws 1000000000 (ap7 ws 11 a.2).2).2).1]),(ap7 ws 1000000000 (ap7 ws 1000000000 (ap7 ws 11 a.2).2).2).2)
def ph7 (s:Stt):(List ea7×List Int)×Stt:=rep (oi7 ws) (ap7 ws 12 s).1.toNat (([],[]),(ap7 ws 12 s).2)
def jc7 (a:(List (List ea7)×List (List Int))×Stt):(List (List ea7)×List (List Int))×Stt :=
 ((a.1.1++[(ph7 ws a.2).1.1],a.1.2++[(ph7 ws a.2).1.2]),(ph7 ws a.2).2)
def tr7 (a:(List Int×List Int)×Stt):(List Int×List Int)×Stt :=
 ((a.1.1++[(ap7 ws 47 a.2).1],a.1.2++[(ap7 ws 1000000000 (ap7 ws 47 a.2).2).1]),(ap7 ws 1000000000 (ap7 ws 47 a.2).2).2)
def xs7 (s:Stt):(List Int×List Int)×Stt:=rep (tr7 ws) (ap7 ws 48 s).1.toNat (([],[]),(ap7 ws 48 s).2)
def dd7 (a:(List ga7×List qa7)×Stt):(List ga7×List qa7)×Stt :=
 let s:=ap7 ws 11 a.2
 let o:=ap7 ws 1000000000 s.2
 let l:=xs7 ws o.2
 let b:=ap7 ws 1000000000 l.2
 ((a.1.1++[⟨s.1,l.1.1⟩],a.1.2++[⟨o.1,l.1.2,b.1⟩]),b.2)
def lw7:ld7×Stt :=
 let c:=ap7 ws 1000000000000000 (eab7 ws [112,108,97,110] (0,0))
 let n:=ap7 ws 60 (eab7 ws [116,114,117,99,107,115] c.2)
 let T:=rep (jc7 ws) n.1.toNat (([],[]),n.2)
 let m:=ap7 ws 60 (eab7 ws [98,105,107,101,115] T.2)
 let B:=rep (dd7 ws) m.1.toNat (([],[]),m.2)
 (⟨⟨T.1.1,B.1.1⟩,⟨T.1.2,B.1.2⟩,c.1⟩,eab7 ws [101,110,100] B.2)
theorem gm7 {A α:Type}{f:(A×α)×Stt→(A×α)×Stt}{h:α×Stt→α×Stt}(hf:∀a l s,f ((a,l),s)=((a,(h (l,s)).1),(h (l,s)).2)):∀n a l s,rep f n ((a,l),s)=((a,(rep h n (l,s)).1),(rep h n (l,s)).2)
 | 0,_,_,_=>rfl
 | n+1,a,l,s=>by
  show rep f n (f ((a,l),s))=_
  rw[hf]
  exact gm7 hf n a _ _
theorem jib7 (A:Type) (a:A) (l:List ea7×List Int) (s:Stt):(nkb7 ws A).f ((a,l),s)=((a,(oi7 ws (l,s)).1),(oi7 ws (l,s)).2):=rfl
theorem leb7 (A:Type) (a:A) (l:List (List ea7)×List (List Int)) (s:Stt):(mw7 ws A).f ((a,l),s)=((a,(jc7 ws (l,s)).1),(jc7 ws (l,s)).2):=by
 simp only[mw7,Rd.seq,Rd.num,Rd.map,Rd.rep]
 rw[gm7 (jib7 ws _)]
 rfl
theorem uib7 (A:Type) (a:A) (l:List Int×List Int) (s:Stt):(nlb7 ws A).f ((a,l),s)=((a,(tr7 ws (l,s)).1),(tr7 ws (l,s)).2):=rfl
theorem ahb7 (A:Type) (a:A) (l:List ga7×List qa7) (s:Stt):(zeb7 ws A).f ((a,l),s)=((a,(dd7 ws (l,s)).1),(dd7 ws (l,s)).2):=by
 simp only[zeb7,Rd.seq,Rd.num,Rd.map,Rd.rep]
 rw[gm7 (uib7 ws _)]
 rfl
theorem iib7:(rj7 ws).f ((),(0,0))=lw7 ws:=by
 simp only[rj7,Rd.seq,Rd.num,Rd.map,Rd.must,Rd.rep]
 rw[gm7 (leb7 ws _)]
 simp only
 rw[gm7 (ahb7 ws _)]
 rfl
end
end Go.Proofs.YtabadfkikdefeaaGreat

namespace Go.Proofs.YtabadfkikdefeaaGreat
open Go.RowKit Go.WideShapes Go.ChangeShapes
theorem Tryz.own:ownKnob Tryz.prog.godebug=none:=by kernel_rfl
theorem Tryz.laid:laidOutB Tryz.prog=true:=by kernel_rfl
section
variable {H:Type} {enc:TypeId×Value→H} {P:Program}
theorem wp7 (hl:laidOutB P=true) {W W':World}(hb:Below W.heap.size W W') {sp:Nat→Bool}:∀(ts:List TypeId) (vs:List Value) (ds:List (DataW H)) (ps:List MemPlace),DataW.TrodAll enc P W 0 (fun _=>true) true ts vs ds ps →
  (∀t∈ts,P.readableRec t=true∧t<P.types.size)→(∀x∈ps,x.block<W.heap.size)→(∀x∈ps,sp x.block=true)→DataW.TrodAll enc P W' 0 sp true ts vs ds ps
 | [],[],[],_,h,_,_,_=>h
 | t::ts,v::vs,d::ds,ps,h,ht,hlt,hsp=>by
  obtain⟨p,q,h1,h2,rfl⟩:=h
  exact⟨p,q,WideElems.Trod_stays hl (ht t (List.mem_cons_self ..)).1 (ht t (List.mem_cons_self ..)).2 h1 (fun x hx=>hb.same (hlt x (List.mem_append_left _ hx))) (fun x hx=>hsp x (List.mem_append_left _ hx)),
   wp7 hl hb ts vs ds q h2 (fun t h=>ht t (List.mem_cons_of_mem _ h)) (fun x hx=>hlt x (List.mem_append_right _ hx)) (fun x hx=>hsp x (List.mem_append_right _ hx)),rfl⟩
 | [],_::_,_,_,h,_,_,_=>h.elim
 | [],[],_::_,_,h,_,_,_=>h.elim
 | _::_,[],_,_,h,_,_,_=>h.elim
 | _::_,_::_,[],_,h,_,_,_=>h.elim
theorem lkb7 {f:Func}{s:ChangeSpec}{fresh handsOn again:Bool}{W W':World}{args:Array Value}{ds gs:List (DataW H)}{before:List MemPlace}{bt:TypeId}(hl:laidOutB P=true)
  (hW:DataW.Whole enc P f.params.toList s.vars false W args.toList ds gs before) (hv:s.vars=[]) (hs:s.fn H (ds++gs)={ results:=[.lit (.bool true)],args:=ds }) (hr:f.resultTypes = #[bt]) (hbt:P.underlying bt=some .bool)
  (ht:∀t∈f.params.toList,P.readableRec t=true∧t<P.types.size) (hb:Below W.heap.size W W'):s.post enc P f false fresh handsOn again W args (.bool true) W':=by
 have hlt:∀p∈before,p.block<W.heap.size:=fun p hp=>hW.lt p hp
 have hW2:=hW
 obtain⟨pa,pv,hA,hV,rfl,hz,-⟩:=hW2
 have hpv:pv=[]:=by
  rw[hv]at hV
  cases gs with
  | nil=>exact hV
  | cons g gs=>exact hV.elim
 have hgs:gs=[]:=by
  rw[hv]at hV
  cases gs with
  | nil=>rfl
  | cons g gs=>exact hV.elim
 subst hpv
 have hres:∀(b:Nat) (sp:Nat→Bool) (hd:Bool),DataW.TrodAll enc P W' b sp hd f.resultTypes.toList ((Value.bool true).resultList f.resultTypes.size) (s.fn H (ds++gs)).results []:=fun b sp hd=>by
  rw[hs,hr]
  exact trodAll_mk1 (shut_bool hbt _)
 have hargs:∀sp:Nat→Bool,(∀p∈pa++[],sp p.block=true)→DataW.TrodAll enc P W' 0 sp true f.params.toList args.toList (s.fn H (ds++gs)).args pa:=fun sp hsp=>by
  rw[hs]
  exact wp7 hl hb _ _ _ _ hA ht (fun x hx=>hlt x (List.mem_append_left _ hx)) (fun x hx=>hsp x (List.mem_append_left _ hx))
 have hvars:∀sp:Nat→Bool,DataW.TrodVars enc P W' sp s.vars (s.fn H (ds++gs)).vars []:=fun sp=>by
  rw[hs,hv];rfl
 refine⟨ds,gs,pa++[],[],pa,[],hW,hres _ _ _,hargs _ (fun p hp=>by simpa using hlt p hp),hvars _,World.keptBut_mono (fun p hp=>⟨hp, ?_⟩) (hb.frame (· ∈ pa++[])),fun _=>?_⟩
 ·rw[List.append_nil]at hp
  exact Or.inr (.inl hp)
 ·refine⟨ok_one hr rfl (okWide_bool_mk hbt _),_,_,([]++pa)++[],⟨[]++pa,[],trodAll_append (hargs _ (fun _ _=>rfl)) (hres _ _ _),hvars _,rfl, ?_, ?_⟩, ?_⟩
  ·intro b off hp
   have hin:MemPlace.cell b off∈pa++[]:=by simpa using hp
   rw[hb.frozen (hlt _ hin)]
   exact hz b off hin
  ·intro ha;cases ha
  ·intro p hp _
   simpa using hp
end
end Go.Proofs.YtabadfkikdefeaaGreat
