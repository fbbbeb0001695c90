/- The abstract machine: literals, make, append. -/
import Derived.Deep.AppendSrc
import Derived.Test.YtabadfkikdefeaaGreatQ2
set_option linter.all false
set_option maxRecDepth 100000
set_option maxHeartbeats 6400000
namespace Go.Proofs.YtabadfkikdefeaaGreat.Ab
open Go.RowKit
section
variable {P:Program} {ty:Ty} {E:Env} {nt:Nat} {M M':Mp} {H H':List Root} {σ:AS} {a:Act} {w w':World}
theorem Row.notOne {r:Row}(h:r.isBox=false):r.one=false:=by cases r <;> first | rfl | (cases h;done)
theorem zk7.of0 {bx:Bool}{x:AV}{v:Value}(h:mf7 M.rho w x v):zk7 M H w bx x v:=by
 unfold zk7;split
 ·exact Con.of0 h
 ·exact h
theorem zk7.keep {bx:Bool}{x:AV}{v:Value}(hk:Kp M H w M' H' w') (hr:∀b,M.rho b→w'.heap[b]? = w.heap[b]?) (hrr:∀b,M.rho b→M'.rho b) (h:zk7 M H w bx x v):zk7 M' H' w' bx x v:=by
 unfold zk7 at h ⊢; split
 ·rename_i hb;rw[if_pos hb]at h;exact hk _ _ h
 ·rename_i hb;rw[if_neg hb]at h;exact h.keep hr hrr
theorem bn7 (h:Rel E M H w) (hg:w.grownBy w' none) {cur:Array Value}{t:TypeId}(hb:w'.heap[w.heap.size]? = some (.cells cur t (0,0))) {sz:Nat}{r:Row}(hbx:r.one=false) (h0:0<sz) {cap:Nat}(hc:cap*sz=cur.size) (hl:r.len≤cap)
  (hv:∀i,i<r.len→∀o,o<sz→∃v,cur[i*sz+o]? = some v∧v.oneCell'=true∧zk7 M H w r.isBox (r.get i o) v) :
  Rel E (M.upd H.length w.heap.size 0) (H++[.live false t sz r]) w'∧Kp M H w (M.upd H.length w.heap.size 0) (H++[.live false t sz r]) w':=by
 have p:=Put.push h hg (t:=t) (sz:=sz) (r:=r)
 refine⟨p.rel h ⟨cur,hb,h0, ?_,⟨cap,by rw[Nat.zero_add];exact hc⟩,fun hb=>(by rw[hbx]at hb;cases hb),fun i hi o ho=>?_⟩,p.kp h⟩
 ·rw[Nat.zero_add,← hc];exact Nat.mul_le_mul_right _ hl
 ·obtain⟨v,h1,h2,h3⟩:=hv i hi o ho
  exact⟨v,by rw[Nat.zero_add];exact h1,h2,h3.keep (p.kp h) (p.rho h) (fun _ h=>h)⟩
theorem mf7.one {rho:Nat→Prop}{x:AV}{v:Value}(hn:x.nj=true) (h:mf7 rho w x v):v.oneCell'=true:=by
 cases x with
 | ptr=>exact h.elim
 | h=>exact h.elim
 | ws=>exact h.elim
 | wu=>exact h.elim
 | wp=>exact h.elim
 | junk=>cases hn
 | sl=>obtain⟨a,b,off,c,rfl,-⟩:=h;rfl
 | rp=>obtain⟨b,off,rfl,-⟩:=h;rfl
 | int=>cases h;rfl
 | bool=>cases h;rfl
 | flt=>cases h;rfl
 | str=>cases h;rfl
 | nilp=>cases h;rfl
 | nils=>cases h;rfl
theorem gjb7 (z:List AV):∀n,(rep z n).length=n*z.length
 | 0=>by simp[rep]
 | n+1=>by simp[rep,gjb7 z n,Nat.add_mul];omega
theorem sqb7 (z:List AV):∀n j,j<n*z.length→nth (rep z n) j=nth z (j % z.length)
 | 0,j,h=>by simp at h
 | n+1,j,h=>by
  simp only[rep]
  rw[jz7]
  split
  ·rename_i hlt;rw[Nat.mod_eq_of_lt hlt]
  ·rename_i hlt
   rw[Nat.add_mul]at h
   rw[sqb7 z n _ (by omega),← Nat.mod_eq_sub_mod (by omega)]
theorem jeb7:∀(n:Nat) (l:List AV) (j:Nat),j<n→nth (takeN n l) j=nth l j
 | n+1,[],j,_=>by simp[takeN,nth]
 | n+1,a::l,0,_=>rfl
 | n+1,a::l,j+1,h=>jeb7 n l j (by omega)
theorem agb7:∀(n:Nat) (l:List AV) (j:Nat),nth (hmb7 n l) j=nth l (n+j)
 | 0,l,j=>by simp[hmb7]
 | n+1,[],j=>by simp[hmb7,nth]
 | n+1,a::l,j=>by rw[show n+1+j=(n+j)+1 by omega];exact agb7 n l j
theorem sw7 (sz:Nat):∀(n:Nat) (l:List AV),(chunk sz n l).length=n
 | 0,_=>rfl
 | n+1,l=>by simp[chunk,sw7 sz n]
theorem mq7 (sz:Nat):∀(n:Nat) (l:List AV) (i o:Nat),i<n→o<sz→nth ((chunk sz n l).getD i []) o=nth l (i*sz+o)
 | n+1,l,0,o,_,h=>by simp only[chunk,List.getD_cons_zero,Nat.zero_mul,Nat.zero_add];exact jeb7 _ _ _ h
 | n+1,l,i+1,o,hi,h=>by
  simp only[chunk,List.getD_cons_succ]
  rw[mq7 sz n _ i o (by omega) h,agb7]
  congr 1
  rw[Nat.add_mul];omega
theorem uw7 {k:IntKind}:∀{els:List (List AV)}{l:List Int},mx7 k els=some l→l.length=els.length∧∀i,i<els.length→els.getD i []=[.int k (l.getD i 0)]
 | [],l,h=>by cases h;exact⟨rfl,fun i hi=>absurd hi (Nat.not_lt_zero _)⟩
 | x::els,l,h=>by
  unfold mx7 at h
  split at h
  ·rename_i he;cases he
  ·rename_i k' n l' he
   obtain⟨rfl,rfl⟩:=List.cons.inj he
   split at h
   ·rename_i hk
    subst hk
    obtain⟨m,hm,rfl⟩:=Option.map_eq_some_iff.1 h
    obtain⟨h1,h2⟩:=uw7 hm
    refine⟨by simp[h1],fun i hi=>?_⟩
    cases i with
    | zero=>rfl
    | succ i=>simpa using h2 i (by simpa using hi)
   ·cases h
  ·cases h
theorem mt7:∀{els:List (List AV)}{l:List Bool},cr7 els=some l→l.length=els.length∧∀i,i<els.length→els.getD i []=[.bool (l.getD i false)]
 | [],l,h=>by cases h;exact⟨rfl,fun i hi=>absurd hi (Nat.not_lt_zero _)⟩
 | x::els,l,h=>by
  unfold cr7 at h
  split at h
  ·rename_i he;cases he
  ·rename_i n l' he
   obtain⟨rfl,rfl⟩:=List.cons.inj he
   obtain⟨m,hm,rfl⟩:=Option.map_eq_some_iff.1 h
   obtain⟨h1,h2⟩:=mt7 hm
   refine⟨by simp[h1],fun i hi=>?_⟩
   cases i with
   | zero=>rfl
   | succ i=>simpa using h2 i (by simpa using hi)
  ·cases h
theorem krb7 {k:TyK}{els:List (List AV)}(h:(lr7 k els).1):(lr7 k els).2.len=els.length∧(lr7 k els).2.isBox=false∧∀i o,i<els.length→nth (els.getD i []) o=(lr7 k els).2.get i o∨nth (els.getD i []) o = .junk:=by
 unfold lr7 at h ⊢
 split at h
 ·split at h
  ·rename_i l hl
   obtain⟨h1,h2⟩:=uw7 hl
   refine⟨h1,rfl,fun i o hi=>?_⟩
   rw[h2 i hi]
   cases o with
   | zero=>exact .inl rfl
   | succ o=>exact .inr rfl
  ·exact h.elim
 ·split at h
  ·rename_i l hl
   obtain⟨h1,h2⟩:=mt7 hl
   refine⟨h1,rfl,fun i o hi=>?_⟩
   rw[h2 i hi]
   cases o with
   | zero=>exact .inl rfl
   | succ o=>exact .inr rfl
  ·exact h.elim
 ·exact h.elim
 ·exact⟨rfl,rfl,fun i o _=>.inl rfl⟩
theorem ihc7 {x:AV}(h:x.nj=true) (hp:∀id n i o,x ≠ .ptr id n i o) (hv:∀id st len,x = .h id st len→gmb7 H id st len):(frz H x).nj=true:=by
 cases x with
 | h id st len =>
  have:=hv _ _ _ rfl
  unfold gmb7 at this
  split at this
  ·rename_i hr;simp only[frz,hr];rfl
  ·exact this.elim
 | ptr=>exact absurd rfl (hp _ _ _ _)
 | junk=>cases h
 | _=>rfl
theorem ug7:∀{l:List AV},ih7 H l→∀j,j<l.length→(nth (zs7 H l) j).nj=true
 | a::l,h,0,_=>by
  cases a with
  | h=>exact ihc7 rfl (fun _ _ _ _ e=>by cases e) (fun _ _ _ e=>by cases e;exact h.1)
  | ptr=>exact h.elim
  | junk=>exact h.elim
  | ws=>exact h.elim
  | wu=>exact h.elim
  | wp=>exact h.elim
  | _=>rfl
 | a::l,h,j+1,hj=>by
  have hj':j<l.length:=by simpa using hj
  cases a with
  | h=>exact ug7 h.2 j hj'
  | ptr=>exact h.elim
  | junk=>exact h.elim
  | ws=>exact h.elim
  | wu=>exact h.elim
  | wp=>exact h.elim
  | int=>exact ug7 (l:=l) h j hj'
  | bool=>exact ug7 (l:=l) h j hj'
  | flt=>exact ug7 (l:=l) h j hj'
  | str=>exact ug7 (l:=l) h j hj'
  | nilp=>exact ug7 (l:=l) h j hj'
  | nils=>exact ug7 (l:=l) h j hj'
  | sl=>exact ug7 (l:=l) h j hj'
  | rp=>exact ug7 (l:=l) h j hj'
theorem tgc7 (h:Rel E M H w) {l:List AV}{vs:Array Value}{n sz:Nat}{k:TyK}(e:TypeId) (hc:of7 M H w l vs.toList) (hf:ih7 H l) (hm:(lr7 k (chunk sz n (zs7 H l))).1) (h0:0<sz) (hn:n*sz=l.length) (hmax:n≤maxLen) :
  ∃M',Rel E M' (frzH H l++[.live false e sz (lr7 k (chunk sz n (zs7 H l))).2]) (w.alloc (.cells vs e))∧Kp M H w M' (frzH H l++[.live false e sz (lr7 k (chunk sz n (zs7 H l))).2]) (w.alloc (.cells vs e)) ∧
   Con M' (frzH H l++[.live false e sz (lr7 k (chunk sz n (zs7 H l))).2]) (w.alloc (.cells vs e)) (.h H.length 0 n) (.slice (some ⟨w.heap.size,0,none⟩) n n):=by
 obtain⟨M1,e1,e2,h1,k1,c1⟩:=ew7 l h hf
 have hcl:=c1 _ hc
 have hlen:=hcl.len
 rw[hu7]at hlen
 obtain⟨m1,m2,m3⟩:=krb7 hm
 rw[sw7]at m1 m3
 have hg:w.grownBy (w.alloc (.cells vs e)) none:=⟨rfl,rfl,rfl,by simp,fun k hk _=>Below.heap_alloc _ _ _ hk⟩
 have hsz:n*sz=vs.size:=by simp at hlen;omega
 obtain⟨r1,r2⟩:=bn7 h1 hg (qi7 w _) (Row.notOne m2) h0 hsz (by omega) (fun i hi o ho=>by
  have hi':i<n:=by omega
  have hlt:i*sz+o<l.length:=by
   rw[← hn]
   have:(i+1)*sz≤n*sz:=Nat.mul_le_mul_right _ hi'
   rw[Nat.add_mul]at this
   omega
  have hlt2:i*sz+o<vs.size:=by omega
  have hcon:=hcl.get (i*sz+o) vs[i*sz+o] (by simp[hlt2])
  have hnj:=ug7 hf _ hlt
  refine⟨vs[i*sz+o],by simp[hlt2],hcon.one hnj, ?_⟩
  rcases m3 i o hi' with q | q
  ·rw[← q,mq7 _ _ _ _ _ hi' ho];exact (zk7.of0 hcon)
  ·rw[mq7 _ _ _ _ _ hi' ho]at q
   rw[q]at hnj;cases hnj)
 refine⟨_,r1,k1.trans r2, ?_⟩
 have:=tq7 (M:=M1) (H:=frzH H l) (w:=w) (w':=w.alloc (.cells vs e)) (t:=e) (sz:=sz) (n:=n) (cap:=n) (r:=(lr7 k (chunk sz n (zs7 H l))).2) (cur:=vs) m1.symm (Nat.le_refl _) hmax (qi7 w _) hsz
 rw[jn7]at this ⊢
 exact this
theorem al7 (hT:uh7 P ty) (h:St E nt M σ a w) (t e:TypeId) (hk:(ty t).k = .sl e) (n:Nat) (ps:Array (Nat×Operand)) (hg:gOk true (pgs σ.rd ps.toList))
  (ho:(ig7 (fun i=>(i*(ty e).sz,(ty e).sz)) σ.rd (rep (ty e).zero n) ps.toList).1) (h0:0<(ty e).sz) (hmax:n*(ty e).sz≤16777216) :
  ∃out:Array Value,of7 M σ.H w (ig7 (fun i=>(i*(ty e).sz,(ty e).sz)) σ.rd (rep (ty e).zero n) ps.toList).2 out.toList∧out.size=n*(ty e).sz∧∀w',(Instr.buildSlice t n (ps.map fun (i,x)=>(i,a.eval x))).run P w' = .ok (.slice (some ⟨w'.heap.size,0,none⟩) n n) (w'.alloc (.cells out e)):=by
 obtain⟨hu,hke⟩:P.underlying t=some (.slice e)∧_:=sc7 hT hk
 obtain⟨i,z,hi,hz,hs,-,hzs,hzl,hzc⟩:=ej7 (M:=M) (σ:=σ) (w:=w) (P:=P) hT (t:=e) hke
 have hzl2:(ty e).zero.length=(ty e).sz:=by have:=hzc.len;simp at this;omega
 have hzero:of7 M σ.H w (rep (ty e).zero n) (((Array.range (n*i.size)).map (z.cells[· % z.cells.size]!)).toList):=by
  refine of7.of_getElem (by rw[gjb7,hzl2,hs];simp) fun j v hj=>?_
  have hjl:j<n*(ty e).sz:=by
   have:=(List.getElem?_eq_some_iff.1 hj).1
   simpa[hs]using this
  have hpos:j % (ty e).sz<z.cells.size:=by rw[hzs];exact Nat.mod_lt _ h0
  have hv:v=z.cells[j % (ty e).sz]:=by
   simp only[Array.getElem?_toList,Array.getElem?_map,Array.getElem?_range,hs,hjl,if_true,Option.map_some,Option.some.injEq]at hj
   rw[← hj,hzs]
   exact getElem!_pos z.cells _ hpos
  rw[sqb7 _ _ _ (by rw[hzl2];exact hjl),hzl2]
  refine hzc.get _ _ ?_
  rw[hv];simp[hpos]
 obtain⟨out,h1,h2⟩:=aib7 (M:=M) (σ:=σ) (w:=w) (a:=a) (fun i=>(i*(ty e).sz,(ty e).sz)) (fun i=>some (i*(ty e).sz,(ty e).sz)) (fun _ _=>rfl) ps.toList (rep (ty e).zero n) _ (fun x _ hx=>h.rd hx) hg hzero ho
 have hlen:∀(ps:List (Nat×Operand)) (l:List AV),(ig7 (fun i=>(i*(ty e).sz,(ty e).sz)) σ.rd l ps).2.length=l.length:=by
  intro ps
  induction ps with
  | nil=>intro l;rfl
  | cons p ps ih=>intro l;obtain⟨i,x⟩:=p;simp only[ig7];rw[ih,ohb7]
 have hos:out.size=n*(ty e).sz:=by
  have:=h2.len
  rw[hlen,gjb7,hzl2]at this
  simpa using this
 refine⟨out,h2,hos,fun w'=>?_⟩
 rcases Nat.eq_zero_or_pos n with rfl | hn0
 ·have hps:ps.toList=[]:=by
   cases hq:ps.toList with
   | nil=>rfl
   | cons q qs =>
    rw[hq]at ho
    obtain⟨⟨-,-,-,h4⟩,-⟩:=ho
    simp only[rep,List.length_nil]at h4
    omega
  have hps2:ps = #[]:=by simpa using hps
  subst hps2
  have:out = #[]:=by simpa using hos
  subst this
  have hz0:(Array.map (fun _=>(default:Value)) (Array.range 0)) = #[]:=by simp
  simp[Instr.buildSlice,run_underlying hu,sizeOf,typeInfo,hi,newRow,Instr.fill,hz0]
 refine run_buildSlice w' t e n _ out i z hu hi hz (by rw[hs];omega) (by rw[hs];exact Nat.pos_iff_ne_zero.1 (Nat.mul_pos hn0 h0)) ?_
 rw[← h1,hs]
 simp
theorem wsb7 {k:TyK}{z:List AV}(hz:zOk k z) (n:Nat):(zeros k z n).len=n∧(zeros k z n).isBox=false∧∀i o,i<n→o<z.length→(zeros k z n).get i o=nth z o:=by
 unfold zOk at hz
 unfold zeros
 split at hz
 ·subst hz
  refine⟨by simp[Row.len],rfl,fun i o hi ho=>?_⟩
  have:o=0:=by simpa using ho
  subst this
  simp[Row.get,nth,List.getD_eq_getElem?_getD,List.getElem?_replicate,hi]
 ·subst hz
  refine⟨by simp[Row.len],rfl,fun i o hi ho=>?_⟩
  have:o=0:=by simpa using ho
  subst this
  simp[Row.get,nth,List.getD_eq_getElem?_getD,List.getElem?_replicate,hi]
 ·exact hz.elim
 ·rename_i h1 h2 h3
  split
  ·exact absurd rfl (h1 _)
  ·exact absurd rfl h2
  ·refine⟨by simp[Row.len],rfl,fun i o hi ho=>?_⟩
   simp[Row.get,List.getD_eq_getElem?_getD,List.getElem?_replicate,hi]
theorem unb7 {wk:Option (List CK)}{k:TyK}{z:List AV}(hz:zOk k z) (n:Nat):(bm7 wk k z n).len=n∧(bm7 wk k z n).one=false∧∀i o,i<n→o<z.length→(bm7 wk k z n).get i o=nth z o:=by
 unfold bm7
 split
 ·refine⟨by simp[Row.len],rfl,fun i o hi ho=>?_⟩
  simp[Row.get,List.getD_eq_getElem?_getD,List.getElem?_replicate,hi]
 ·obtain⟨h1,h2,h3⟩:=wsb7 hz n
  exact⟨h1,Row.notOne h2,h3⟩
theorem wdc7 (hT:uh7 P ty) (h:Rel E M H w) (t e:TypeId) (hk:(ty t).k = .sl e) (kl kc:IntKind) (n:Int) (h1:0≤n) (h2:n≤1099511627776) (h0:0<(ty e).sz) (hb:(ty e).bytes≤128) (hz:zOk (ty e).k (ty e).zero) :
  ∃M' w' v,(Instr.makeSlice t (.int kl n) (.int kc n)).run P w = .ok v w'∧Below w.heap.size w w'∧Rel E M' (H++[.live false e (ty e).sz (bm7 (ty e).wk (ty e).k (ty e).zero n.toNat)]) w'∧Kp M H w M' (H++[.live false e (ty e).sz (bm7 (ty e).wk (ty e).k (ty e).zero n.toNat)]) w'∧Con M' (H++[.live false e (ty e).sz (bm7 (ty e).wk (ty e).k (ty e).zero n.toNat)]) w' (.h H.length 0 n.toNat) v:=by
 obtain⟨hu,hke⟩:P.underlying t=some (.slice e)∧_:=sc7 hT hk
 obtain⟨i,z,hi,hzz,hs,hby,hzs,hzl,-⟩:=ej7 (M:=M) (σ:=⟨[],H⟩) (w:=w) (P:=P) hT (t:=e) hke
 obtain⟨m,rfl⟩:∃m:Nat,n=m:=⟨n.toNat,by omega⟩
 have hmx:m≤maxLen:=by unfold maxLen;omega
 have hzn:(ty e).zero.length=(ty e).sz:=by have:=lab7 hzl;simp at this;omega
 obtain⟨w',hr,hown,hg⟩:=run_make_full (P:=P) (w:=w) w.heap.size t e i z (ty e).sz hu hi hzz hs kl kc m (by rw[hby];have:=Nat.mul_le_mul hb (show m≤1099511627776 by omega);omega) hmx (Nat.le_refl _)
 obtain⟨hl,hor⟩:=hown
 rcases hor with ⟨hbad,-⟩ | ⟨g,cap,cur,hv,hge,hheap,hcap,hcm,hcs,htk⟩
 ·cases hbad
 ·cases hv
  have hcur:cur.toList=(madeCells z.cells (m*(ty e).sz)).toList:=by rw[← htk,List.take_of_length_le];simp[hcs]
  have hcur2:cur=madeCells z.cells (m*(ty e).sz):=Array.toList_inj.1 hcur
  obtain⟨z1,z2,z3⟩:=unb7 (wk:=(ty e).wk) hz m
  obtain⟨r1,r2⟩:=bn7 (r:=bm7 (ty e).wk (ty e).k (ty e).zero m) h hg hheap z2 h0 hcs.symm (by omega) (fun i hi o ho=>by
   have hi':i<m:=by omega
   have hlt:i*(ty e).sz+o<m*(ty e).sz:=by
    have:(i+1)*(ty e).sz≤m*(ty e).sz:=Nat.mul_le_mul_right _ hi'
    rw[Nat.add_mul]at this
    omega
   have ho2:o<z.cells.size:=by omega
   have hzo:=sbb7 hzl o z.cells[o] (by simp[ho2])
   refine⟨z.cells[o], ?_,otb7 hzo, ?_⟩
   ·rw[hcur2]
    unfold madeCells
    have hmod:(i*(ty e).sz+o) % z.cells.size=o:=by rw[hzs,Nat.mul_comm,Nat.mul_add_mod];exact Nat.mod_eq_of_lt ho
    simp only[Array.getElem?_map,Array.getElem?_range,hlt,if_true,Option.map_some,hmod]
    rw[getElem!_pos z.cells o ho2]
   ·rw[z3 i o hi' (by omega)];exact zk7.of0 (gub7 hzo))
  refine⟨_,w',_,hr,⟨hg.os,hg.tape,hg.output,hg.size,fun k hk=>hg.block k hk (by simp)⟩,r1,r2, ?_⟩
  exact tq7 (w:=w) z1.symm (Nat.le_refl _) hmx hheap hcs.symm
theorem tlb7 {r:Row}(hb:r.one=false) (st:Nat):((r.drop st).one=false∧(r.drop st).isBox=r.isBox)∧(r.drop st).len=r.len-st∧∀i o,(r.drop st).get i o=r.get (st+i) o:=by
 cases r with
 | box=>cases hb
 | own l=>exact⟨⟨rfl,rfl⟩,by simp[Row.drop,Row.len],fun i o=>by simp[Row.drop,Row.get,List.getD_eq_getElem?_getD,List.getElem?_drop]⟩
 | ints k l=>exact⟨⟨rfl,rfl⟩,by simp[Row.drop,Row.len],fun i o=>by simp[Row.drop,Row.get,List.getD_eq_getElem?_getD,List.getElem?_drop]⟩
 | bools l=>exact⟨⟨rfl,rfl⟩,by simp[Row.drop,Row.len],fun i o=>by simp[Row.drop,Row.get,List.getD_eq_getElem?_getD,List.getElem?_drop]⟩
 | gen l=>exact⟨⟨rfl,rfl⟩,by simp[Row.drop,Row.len],fun i o=>by simp[Row.drop,Row.get,List.getD_eq_getElem?_getD,List.getElem?_drop]⟩
theorem wl7 {α:Type}(l m:List α) (i:Nat) (d:α):(l++m).getD i d=if i<l.length then l.getD i d else m.getD (i-l.length) d:=by
 simp only[List.getD_eq_getElem?_getD]
 split
 ·rename_i h;rw[List.getElem?_append_left h]
 ·rename_i h;rw[List.getElem?_append_right (by omega)]
theorem nib7 {r s:Row}(h:(r.app s).1):(r.app s).2.one=false∧((r.app s).2.isBox=r.isBox∧s.isBox=r.isBox)∧(r.app s).2.len=r.len+s.len∧∀i o,(r.app s).2.get i o=if i<r.len then r.get i o else s.get (i-r.len) o:=by
 unfold Row.app at h ⊢
 split at h
 ·rename_i k l k' m
  simp only at h
  subst h
  exact⟨rfl,⟨rfl,rfl⟩,by simp[Row.len],fun i o=>by simp only[Row.get,Row.len,wl7];split <;> simp[*]⟩
 ·exact⟨rfl,⟨rfl,rfl⟩,by simp[Row.len],fun i o=>by simp only[Row.get,Row.len,wl7];split <;> simp[*]⟩
 ·exact⟨rfl,⟨rfl,rfl⟩,by simp[Row.len],fun i o=>by simp only[Row.get,Row.len,wl7];split <;> simp[*]⟩
 ·exact⟨rfl,⟨rfl,rfl⟩,by simp[Row.len],fun i o=>by simp only[Row.get,Row.len,wl7];split <;> simp[*]⟩
 ·exact h.elim
structure vdc7 (M:Mp) (H:List Root) (w:World) (v:Value) (s:Row) (sz:Nat) (ad:Addr) (c:Nat) (news:List Value):Prop where
 v:v = .slice (some ad) s.len c
 len:news.length=s.len*sz
 cell:∀j u,news[j]? = some u→w.cell? (ad.add j)=some u
 one:∀u∈news,u.oneCell'=true
 con:∀i o,i<s.len→o<sz→∃u,news[i*sz+o]? = some u∧zk7 M H w s.isBox (s.get i o) u
theorem mz7 {k:IntKind}{g:Nat→AV}:∀{n i:Nat}{l:List Int},cmb7 k g i n=some l→l.length=n∧∀j,j<n→g (i+j) = .int k (l.getD j 0)
 | 0,i,l,h=>by cases h;exact⟨rfl,fun j hj=>absurd hj (Nat.not_lt_zero _)⟩
 | n+1,i,l,h=>by
  unfold cmb7 at h
  split at h
  ·rename_i k' v hg
   split at h
   ·rename_i hk
    subst hk
    obtain⟨m,hm,rfl⟩:=Option.map_eq_some_iff.1 h
    obtain⟨h1,h2⟩:=mz7 hm
    refine⟨by simp[h1],fun j hj=>?_⟩
    cases j with
    | zero=>simpa using hg
    | succ j =>
     have:=h2 j (by omega)
     rw[show i+1+j=i+(j+1) by omega]at this
     simpa using this
   ·cases h
  ·cases h
theorem hlb7 (f:Nat→Nat→AV) (sz:Nat):∀n i:Nat,(fmb7 f sz i n).length=n
 | 0,_=>rfl
 | n+1,i=>by simp[fmb7,hlb7 f sz n (i+1)]
theorem wjb7 (f:Nat→Nat→AV) (sz:Nat):∀n i j:Nat,j<n→(fmb7 f sz i n).getD j []=tab (f (i+j)) 0 sz
 | 0,_,_,h=>absurd h (Nat.not_lt_zero _)
 | n+1,i,0,_=>rfl
 | n+1,i,j+1,h=>by
  have:=wjb7 f sz n (i+1) j (by omega)
  rw[show i+1+j=i+(j+1) by omega]at this
  simpa[fmb7]using this
theorem veb7 (n sz:Nat) (f:Nat→Nat→AV):(aob7 n sz f).len=n∧(aob7 n sz f).one=false∧(aob7 n sz f).isBox=false∧∀i o,i<n→o<sz→(aob7 n sz f).get i o=f i o:=by
 have gen:(Row.gen (fmb7 f sz 0 n)).len=n∧(Row.gen (fmb7 f sz 0 n)).one=false∧(Row.gen (fmb7 f sz 0 n)).isBox=false∧∀i o,i<n→o<sz→(Row.gen (fmb7 f sz 0 n)).get i o=f i o:=by
  refine⟨hlb7 f sz n 0,rfl,rfl,fun i o hi ho=>?_⟩
  show nth ((fmb7 f sz 0 n).getD i []) o=_
  rw[wjb7 f sz n 0 i hi,dbb7 _ _ _ _ ho,Nat.zero_add,Nat.zero_add]
 unfold aob7
 split
 ·split
  ·rename_i l hl
   obtain⟨h1,h2⟩:=mz7 hl
   split
   ·rename_i hs
    refine⟨h1,rfl,rfl,fun i o hi ho=>?_⟩
    have:=h2 i hi
    rw[Nat.zero_add]at this
    rw[show o=0 by omega,this];rfl
   ·exact gen
  ·exact gen
 ·exact gen
theorem src_ok (h:Rel E M H w) {x:RV}{v:Value}(hx:ic7 M H w x v) (ho:(rh7 H x).1):∃ad c news,vdc7 M H w v (rh7 H x).2.1 (rh7 H x).2.2 ad c news:=by
 unfold rh7 at ho ⊢
 split at ho
 ·rename_i n sz f
  obtain⟨⟨h0,h1⟩,hnj⟩:=ho
  simp only[List.all_eq_true,List.mem_range]at hnj
  obtain⟨a,b,off,c,rfl,k1,k2,k3,k4⟩:=hx
  obtain⟨rfl,hrho⟩:=k3 h0
  obtain⟨g1,g2,g3,g4⟩:=veb7 n sz f
  obtain⟨news,n1,n2⟩:=eu7 (Q:=fun j u=>w.cell? ⟨b,off+j,none⟩=some u∧mf7 M.rho w (f (j / sz) (j % sz)) u) (n*sz) fun j hj=>by
   have hi:j / sz<n:=(Nat.div_lt_iff_lt_mul h1).2 hj
   obtain⟨u,u1,u2⟩:=k4 (j / sz) hi (j % sz) (Nat.mod_lt _ h1)
   refine⟨u, ?_,u2⟩
   rw[← u1]
   congr 2
   rw[Nat.add_assoc,Nat.mul_comm (j / sz),Nat.div_add_mod]
  refine⟨⟨b,off,none⟩,c,news,⟨by rw[g1],by rw[g1];exact n1,fun j u hj=>?_,fun u hu=>?_,fun i o hi ho=>?_⟩⟩
  ·rw[addr_add];exact (n2 j u hj).1
  ·obtain⟨j,hj,rfl⟩:=List.getElem_of_mem hu
   have hj2:j<n*sz:=by rw[← n1];exact hj
   exact mf7.one (hnj _ ((Nat.div_lt_iff_lt_mul h1).2 hj2) _ (Nat.mod_lt _ h1)) (n2 j _ (List.getElem?_eq_getElem hj)).2
  ·rw[g1]at hi
   have ho:o<sz:=ho
   have hlt:i*sz+o<n*sz:=by
    have:(i+1)*sz≤n*sz:=Nat.mul_le_mul_right _ hi
    rw[Nat.add_mul]at this
    omega
   obtain⟨u,hu⟩:∃u,news[i*sz+o]? = some u:=⟨_,List.getElem?_eq_getElem (by rw[n1];exact hlt)⟩
   refine⟨u,hu, ?_⟩
   have:=(n2 _ u hu).2
   rw[show (i*sz+o) / sz=i by rw[Nat.mul_comm,Nat.mul_add_div h1,Nat.div_eq_of_lt ho];rfl,show (i*sz+o) % sz=o by rw[Nat.mul_comm,Nat.mul_add_mod,Nat.mod_eq_of_lt ho]]at this
   unfold zk7
   rw[g3,if_neg (by simp),g4 i o hi ho]
   exact this
 ·rename_i id st len
  split at ho
  ·rename_i fz t sz r hr
   obtain⟨h1,h2⟩:=ho
   obtain⟨cap,cur,ad,rfl,h3,h4,h5,h6,h7⟩:=(hx.2 _ _ _ _ hr).2 h1
   obtain⟨cur2,k1,k2,k3,k4,k5,k6⟩:=h.row _ _ _ _ _ hr
   rw[h5]at k1
   cases k1
   obtain⟨⟨d0,d1⟩,d2,d3⟩:=tlb7 h2 st
   have hl:(r.drop st).len=len:=by omega
   have hfit:M.off id+st*sz+len*sz≤cur.size:=by rw[Nat.add_assoc,← Nat.add_mul,h1];exact k3
   refine⟨ad,cap,(cur.toList.drop (M.off id+st*sz)).take (len*sz),⟨by rw[hl],by rw[hl];simp;omega,fun j u hj=>?_,fun u hu=>?_,fun i o hi ho=>?_⟩⟩
   ·have hjl:j<len*sz:=by have:=(List.getElem?_eq_some_iff.1 hj).1;simp at this;omega
    have hpos:0<len:=Nat.pos_of_ne_zero (fun h0=>by rw[h0,Nat.zero_mul]at hjl;omega)
    obtain rfl:=h7 (by omega)
    rw[List.getElem?_take_of_lt hjl,List.getElem?_drop]at hj
    rw[addr_add]
    simp only[World.cell?,h5,Option.isSome_none,Bool.false_eq_true,if_false]
    simpa using hj
   ·obtain⟨j,hj,rfl⟩:=List.getElem_of_mem hu
    have hjl:j<len*sz:=by simp at hj;omega
    have hi:j / sz<len:=(Nat.div_lt_iff_lt_mul k2).2 hjl
    obtain⟨v,e1,e2,e3⟩:=k6 (st+j / sz) (by omega) (j % sz) (Nat.mod_lt _ k2)
    have e4:M.off id+(st+j / sz)*sz+j % sz=M.off id+st*sz+j:=by rw[Nat.add_mul,← Nat.add_assoc (M.off id),Nat.add_assoc _ (j / sz*sz),Nat.mul_comm (j / sz),Nat.div_add_mod]
    rw[e4]at e1
    have:((cur.toList.drop (M.off id+st*sz)).take (len*sz))[j]=v:=by
     rw[List.getElem_take,List.getElem_drop]
     have hh:=(Array.getElem?_eq_some_iff.1 e1).2
     simpa using hh
    rw[this];exact e2
   ·rw[hl]at hi
    have ho:o<sz:=ho
    obtain⟨v,e1,e2,e3⟩:=k6 (st+i) (by omega) o ho
    have hlt:i*sz+o<len*sz:=by
     have:(i+1)*sz≤len*sz:=Nat.mul_le_mul_right _ hi
     rw[Nat.add_mul]at this
     omega
    refine⟨v, ?_, ?_⟩
    ·rw[List.getElem?_take_of_lt hlt,List.getElem?_drop,show M.off id+st*sz+(i*sz+o)=M.off id+(st+i)*sz+o by rw[Nat.add_mul];omega]
     simpa using e1
    ·rw[d1,d3];exact e3
  ·exact ho.elim
 ·exact ho.elim
theorem yob7 (hT:uh7 P ty) (h:Rel E M H w) (t e rt:TypeId) (hk:(ty t).k = .sl e) (h0:0<(ty e).sz) (hb:(ty e).bytes≤128) {v:Value}{s:Row}{ad:Addr}{c:Nat}{news:List Value}(hs:vdc7 M H w v s (ty e).sz ad c news) (hbx:s.one=false) (hn:0<s.len∧s.len≤1099511627776) :
  ∃M' w' v',(Builtin.append_ #[t,t] rt #[.slice none 0 0,v]).run P w = .ok v' w'∧Rel E M' (H++[.live false e (ty e).sz s]) w'∧Kp M H w M' (H++[.live false e (ty e).sz s]) w'∧Con M' (H++[.live false e (ty e).sz s]) w' (.h H.length 0 s.len) v'∧(w.heap.size≤w'.heap.size∧∀b,b<w.heap.size→w'.heap[b]? = w.heap[b]?):=by
 obtain⟨hu,hke⟩:P.underlying t=some (.slice e)∧_:=sc7 hT hk
 obtain⟨i,z,hi,hzz,hsz,hby,hzs,hzl,-⟩:=ej7 (M:=M) (σ:=⟨[],H⟩) (w:=w) (P:=P) hT (t:=e) hke
 have hown:w.ownsRow w.heap.size e (ty e).sz (.slice none 0 0) 0 []:=⟨by simp,.inl ⟨rfl,rfl⟩⟩
 obtain⟨v',w',hr,ho,hg,hnone,hblk⟩:=run_append_own_at (P:=P) (w:=w) w.heap.size t rt e i z (ty e).sz (ty e).bytes hu hi hzz hsz hby hzs h0 (.slice none 0 0) 0 [] hown ad s.len c news hs.len hs.cell hs.one (by unfold maxLen;omega)
  (by have:=Nat.mul_le_mul (show 0+s.len≤1099511627776 by omega) hb;omega) (Nat.le_refl _)
 rw[← hs.v]at hr
 obtain⟨hl,hor⟩:=ho
 rcases hor with ⟨hbad,-⟩ | ⟨g,cap,cur,rfl,hge,hheap,hcap,hcm,hcs,htk⟩
 ·have:=(hnone.1 hbad).2;omega
 ·have hgg:g=w.heap.size:=by
   rcases hblk with hb | hb
   ·simp[Value.ownBlock]at hb
   ·simpa[Value.ownBlock]using hb
  subst hgg
  simp only[List.nil_append,Nat.zero_add]at htk hl hcap ⊢
  rw[Nat.zero_add]at hr
  obtain⟨r1,r2⟩:=bn7 (r:=s) h hg hheap hbx h0 hcs.symm (by omega) (fun i hi o ho=>by
   obtain⟨u,u1,u2⟩:=hs.con i o hi ho
   refine⟨u, ?_,hs.one u (List.mem_of_getElem? u1),u2⟩
   have hlt:i*(ty e).sz+o<s.len*(ty e).sz:=by
    have:(i+1)*(ty e).sz≤s.len*(ty e).sz:=Nat.mul_le_mul_right _ hi
    rw[Nat.add_mul]at this
    omega
   rw[← htk,List.getElem?_take_of_lt hlt]at u1
   simpa using u1)
  exact⟨_,w',_,hr,r1,r2,tq7 (w:=w) rfl hcap hcm hheap hcs.symm,hg.size,fun b hb=>(show w.grownBy w' none from hg).block b hb (by simp)⟩
theorem egb7 (P:Program) {w:World}{b o:Nat}{cur:Array Value}{t:TypeId}{vs:List Value}(h:w.heap[b]? = some (.cells cur t (0,0))) (hl:o+vs.length≤cur.size) (h1:∀v∈vs,v.oneCell'=true) :
  w.setCells b o vs=w.setRow b (spl cur o vs)∧(∀j,j<vs.length→(w.cell? ⟨b,o+j,none⟩).isSome=true)∧∀j,j<vs.length→w.frozen? ⟨b,o+j,none⟩=false:=by
 have c1:∀j,j<vs.length→(w.cell? ⟨b,o+j,none⟩).isSome=true:=fun j hj=>by
  simp only[World.cell?,h,Option.isSome_none,Bool.false_eq_true,if_false]
  rw[Array.getElem?_eq_getElem (by omega)];rfl
 have c2:∀j,j<vs.length→w.frozen? ⟨b,o+j,none⟩=false:=fun j hj=>by
  simp[World.frozen?,h]
 have k1:=run_storeCells_at P b o t vs 0 cur w h (by omega) h1
 have k2:=run_storeCells_cells (P:=P) b o vs 0 w (by simpa using c1) (by simpa using c2) h1
 rw[k1]at k2
 simp only[Nat.add_zero]at k2
 injection k2 with _ k3
 exact⟨k3.symm,c1,c2⟩
theorem swb7 (w:World) (t tx rt e:TypeId) (i:TypeInfo) (ht:P.underlying t=some (.slice e)) (hi:P.info? e=some i) (base:Option Addr) (sLen sCap:Nat) (hle:sLen≤sCap) (x:Value) (hs:Src P i.size tx x 0 [] w) :
  (Builtin.append_ #[t,tx] rt #[.slice base sLen sCap,x]).run P w = .ok (.slice base sLen sCap) w:=by
 rcases hs.kind with ⟨e',hk⟩ | hk <;> cases base <;> simp[Builtin.append_,run_underlying ht,run_underlying hk,sizeOf,typeInfo,hi,hs.len,hle,hs.cells,storeCells]
theorem ngb7 (h:Rel E M H w) {id e sz:Nat}{r s:Row}(hr:da7 H id = .live false e sz r) (happ:(r.app s).1) {w':World}{g f cap':Nat}{cur':Array Value}(hg:w.grownBy w' (some (M.phi id))) (hheap:w'.heap[g]? = some (.cells cur' e (0,0)))
  (hgg:g=M.phi id∨w.heap.size≤g) (h0:0<sz) (hcs:f+cap'*sz=cur'.size) (hcap:r.len+s.len≤cap')
  (hcell:∀i o,i<r.len+s.len→o<sz→∃u,cur'[f+i*sz+o]? = some u∧u.oneCell'=true∧zk7 M H w r.isBox (if i<r.len then r.get i o else s.get (i-r.len) o) u)
  (hold:0<s.len∨(g=M.phi id∧f=M.off id∧∀cur,w.heap[M.phi id]? = some (.cells cur e (0,0))→cur'.size=cur.size)) :
  Rel E (M.upd id g f) (ja7 H id (.live false e sz (r.app s).2)) w'∧Kp M H w (M.upd id g f) (ja7 H id (.live false e sz (r.app s).2)) w':=by
 obtain⟨a1,⟨a2,a5⟩,a3,a4⟩:=nib7 happ
 have hidl:=sf7 hr
 have p:Put E M H (ja7 H id (.live false e sz (r.app s).2)) w w' (some (M.phi id)) id g f e sz (r.app s).2 :=
  ⟨hg,fun j hj=>(by rw[rc7,if_neg (fun h=>hj h.1)]),(by rw[rc7,if_pos ⟨rfl,hidl⟩]),(by rw[va7];exact Nat.le_refl _),fun e=>(by rw[hr]at e;cases e),
   fun b e'=>⟨(Option.some.inj e').symm,_,_,r,hr⟩,(by rcases hgg with rfl | hgg;exact .inl ⟨rfl,_,_,r,hr⟩;exact .inr hgg),fun fz t2 s2 r2 e'=>by
    rw[hr]at e'
    cases e'
    rcases Nat.eq_zero_or_pos s.len with h0' | h0'
    ·rcases hold with hpos | ⟨rfl,rfl,h3⟩
     ·left;omega
     ·exact .inr ⟨by omega,rfl,rfl,rfl,rfl,fun c hc=>⟨cur',hheap,h3 c hc⟩⟩
    ·left;omega⟩
 have hk:=p.kp h
 refine⟨p.rel h ⟨cur',hheap,h0, ?_,⟨cap',hcs⟩,fun hb=>(by rw[a1]at hb;cases hb),fun i hi o ho=>?_⟩,hk⟩
 ·rw[a3,← hcs];exact Nat.add_le_add_left (Nat.mul_le_mul_right _ hcap) _
 ·rw[a3]at hi
  obtain⟨u,u1,u2,u3⟩:=hcell i o hi ho
  refine⟨u,u1,u2, ?_⟩
  rw[a2,a4]
  exact u3.keep hk (p.rho h) (fun _ h=>h)
structure xmc7 (M:Mp) (H:List Root) (w:World) (s:Row) (sz:Nat) (news:List Value):Prop where
 len:news.length=s.len*sz
 one:∀u∈news,u.oneCell'=true
 con:∀i o,i<s.len→o<sz→∃u,news[i*sz+o]? = some u∧zk7 M H w s.isBox (s.get i o) u
theorem vx7 (hT:uh7 P ty) (h:Rel E M H w) (t tx e rt:TypeId) (hk:(ty t).k = .sl e) (h0:0<(ty e).sz) (hb:(ty e).bytes≤128) {v q:Value}{s:Row}{news:List Value}(hs0:Src P (ty e).sz tx v s.len news w) (hs:xmc7 M H w s (ty e).sz news)
  {id len:Nat} {r:Row} (hr:da7 H id = .live false e (ty e).sz r) (hlen:len=r.len) (hq:Con M H w (.h id 0 len) q) (hmax:len+s.len≤1099511627776) (happ:(r.app s).1) :
  ∃M' w' v',(Builtin.append_ #[t,tx] rt #[q,v]).run P w = .ok v' w'∧Rel E M' (ja7 H id (.live false e (ty e).sz (r.app s).2)) w'∧Kp M H w M' (ja7 H id (.live false e (ty e).sz (r.app s).2)) w'∧Con M' (ja7 H id (.live false e (ty e).sz (r.app s).2)) w' (.h id 0 (len+s.len)) v'∧(w.heap.size≤w'.heap.size∧∀b,b<w.heap.size→b≠M.phi id→w'.heap[b]? = w.heap[b]?):=by
 obtain⟨hu,hke⟩:P.underlying t=some (.slice e)∧_:=sc7 hT hk
 obtain⟨i,z,hi,hzz,hsz,hby,hzs,hzl,-⟩:=ej7 (M:=M) (σ:=⟨[],H⟩) (w:=w) (P:=P) hT (t:=e) hke
 obtain⟨cap,cur,aq,rfl,q1,q2,q3,q4,q5⟩:=(hq.2 _ _ _ _ hr).2 (by omega)
 simp only[Nat.zero_mul,Nat.zero_add,Nat.add_zero]at q4 q5 ⊢
 obtain⟨cur2,k1,k2,k3,k4,k5,k6⟩:=h.row _ _ _ _ _ hr
 rw[q3]at k1
 cases k1
 subst hlen
 obtain⟨-,-,a3,-⟩:=nib7 happ
 have hidl:=sf7 hr
 have hsrc:Src P i.size tx v s.len news w:=by rw[hsz];exact hs0
 have con:∀{w':World} {g f cap':Nat} {cur':Array Value} {a':Addr},w'.heap[g]? = some (.cells cur' e (0,0))→f+cap'*(ty e).sz=cur'.size→r.len+s.len≤cap'→cap'≤maxLen→(0<cap'→a'=⟨g,f,none⟩) →
   Con (M.upd id g f) (ja7 H id (.live false e (ty e).sz (r.app s).2)) w' (.h id 0 (r.len+s.len)) (.slice (some a') (r.len+s.len) cap'):=fun hheap hcs hcap hcm ha=>by
  refine⟨⟨by rw[va7];exact hidl,rfl⟩,fun fz t2 s2 r2 e'=>?_⟩
  rw[rc7,if_pos ⟨rfl,hidl⟩]at e'
  cases e'
  exact⟨by omega,fun _=>⟨_,_,_,rfl,hcap,hcm,by simpa[Mp.upd]using hheap,by simpa[Mp.upd]using hcs,fun h=>by simpa[Mp.upd]using ha h⟩⟩
 have olds:∀{n:List Value} (i o:Nat),i<r.len→o<(ty e).sz→∃u,((cur.toList.drop (M.off id)).take (r.len*(ty e).sz)++n)[i*(ty e).sz+o]? = some u∧cur[M.off id+i*(ty e).sz+o]? = some u∧u.oneCell'=true∧zk7 M H w r.isBox (r.get i o) u:=fun i o hi ho=>by
  obtain⟨u,u1,u2,u3⟩:=k6 i hi o ho
  have hlt:i*(ty e).sz+o<r.len*(ty e).sz:=by
   have:(i+1)*(ty e).sz≤r.len*(ty e).sz:=Nat.mul_le_mul_right _ hi
   rw[Nat.add_mul]at this
   omega
  refine⟨u, ?_,u1,u2,u3⟩
  rw[List.getElem?_append_left (by simp;omega),List.getElem?_take_of_lt hlt,List.getElem?_drop,← Nat.add_assoc]
  simpa using u1
 have mids:∀(i o:Nat),r.len≤i→i<r.len+s.len→o<(ty e).sz→∃u,news[i*(ty e).sz+o-r.len*(ty e).sz]? = some u∧r.len*(ty e).sz≤i*(ty e).sz∧i*(ty e).sz+o-r.len*(ty e).sz<news.length∧u.oneCell'=true∧zk7 M H w r.isBox (if i<r.len then r.get i o else s.get (i-r.len) o) u:=fun i o h1 h2 ho=>by
  obtain⟨u,u1,u2⟩:=hs.con (i-r.len) o (by omega) ho
  have hle:r.len*(ty e).sz≤i*(ty e).sz:=Nat.mul_le_mul_right _ h1
  rw[Nat.sub_mul,show i*(ty e).sz-r.len*(ty e).sz+o=i*(ty e).sz+o-r.len*(ty e).sz by omega]at u1
  refine⟨u,u1,hle,(List.getElem?_eq_some_iff.1 u1).1,hs.one u (List.mem_of_getElem? u1), ?_⟩
  rw[if_neg (by omega),← (nib7 happ).2.1.2]
  exact u2
 rcases Nat.eq_zero_or_pos s.len with hz | hpos
 ·have hn:news=[]:=List.eq_nil_of_length_eq_zero (by rw[hs.len,hz,Nat.zero_mul])
  have hrun:=swb7 w t tx rt e i hu hi (some aq) r.len cap q1 v (by rw[hz,hn]at hsrc;exact hsrc)
  obtain⟨f1,f2⟩:=ngb7 h hr happ (w':=w) (f:=M.off id) ⟨rfl,rfl,rfl,Nat.le_refl _,fun _ _ _=>rfl⟩ q3 (.inl rfl) h0 q4 (by omega) (fun i o hi ho=>by
   obtain⟨u,-,u1,u2,u3⟩:=olds (n:=[]) i o (by omega) ho
   exact⟨u,u1,u2,by rw[if_pos (by omega)];exact u3⟩) (.inr ⟨rfl,rfl,fun c hc=>by rw[q3]at hc;cases hc;rfl⟩)
  have f3:=con (a':=aq) q3 q4 (by omega) q2 q5
  rw[hz]at f3 ⊢
  exact⟨_,_,_,hrun,f1,f2,f3,Nat.le_refl _,fun _ _ _=>rfl⟩
 ·by_cases hroom:r.len+s.len≤cap
  ·obtain rfl:=q5 (by omega)
   have hfit:M.off id+r.len*(ty e).sz+news.length≤cur.size:=by
    rw[hs.len,Nat.add_assoc,← Nat.add_mul,← q4];exact Nat.add_le_add_left (Nat.mul_le_mul_right _ hroom) _
   obtain⟨e1,e2,e3⟩:=egb7 P q3 (o:=M.off id+r.len*(ty e).sz) hfit hs.one
   have hrun:=run_append_room_src w t tx rt e i hu hi (M.phi id) (M.off id) r.len cap v s.len news hsrc hroom (by rw[hsz];exact e2) (by rw[hsz];exact e3)
   rw[hsz,e1]at hrun
   have hnew:(w.setRow (M.phi id) (spl cur (M.off id+r.len*(ty e).sz) news)).heap[M.phi id]? = some (.cells (spl cur (M.off id+r.len*(ty e).sz) news) e (0,0)):=setRow_heap w _ cur _ e _ q3
   have hsp:(spl cur (M.off id+r.len*(ty e).sz) news).size=cur.size:=xi7 _ _ _ hfit
   obtain⟨f1,f2⟩:=ngb7 h hr happ (f:=M.off id) (w':=w.setRow (M.phi id) (spl cur (M.off id+r.len*(ty e).sz) news)) ⟨rfl,rfl,rfl,by simp[World.setRow],fun k _ hne=>setRow_other w _ _ _ (fun e=>hne (by rw[e]))⟩ hnew (.inl rfl) h0 (by rw[hsp];exact q4) hroom (fun i o hi ho=>by
    unfold spl
    by_cases hil:i<r.len
    ·obtain⟨u,-,u1,u2,u3⟩:=olds (n:=[]) i o hil ho
     have hlt2:i*(ty e).sz+o<r.len*(ty e).sz:=by
      have:(i+1)*(ty e).sz≤r.len*(ty e).sz:=Nat.mul_le_mul_right _ hil
      rw[Nat.add_mul]at this
      omega
     exact⟨u,by rw[mn7 _ _ _ _ hfit,if_neg (by omega)];exact u1,u2,by rw[if_pos hil];exact u3⟩
    ·obtain⟨u,u1,u4,u5,u2,u3⟩:=mids i o (by omega) hi ho
     refine⟨u, ?_,u2,u3⟩
     rw[mn7 _ _ _ _ hfit,if_pos (by omega),← u1]
     congr 1;omega) (.inl hpos)
   exact⟨_,_,_,hrun,f1,f2,con hnew (by rw[hsp];exact q4) hroom q2 (fun _=>rfl),by simp[World.setRow],fun k _ hne=>setRow_other w _ _ _ (fun e=>hne (by rw[e]))⟩
  ·have hol:((cur.toList.drop (M.off id)).take (r.len*(ty e).sz)).length=r.len*(ty e).sz:=by simp;omega
   have holds:(Builtin.firstCells i.size r.len (.slice (some aq) r.len cap)).run P w.drew = .ok ((cur.toList.drop (M.off id)).take (r.len*(ty e).sz)).toArray w.drew:=by
    rw[hsz]
    refine run_firstCells_some (P:=P) w.drew (ty e).sz r.len aq r.len cap _ hol (fun j u hj=>?_)
    have hjl:j<r.len*(ty e).sz:=by have:=(List.getElem?_eq_some_iff.1 hj).1;rw[hol]at this;exact this
    have hp:0<r.len:=by
     rcases Nat.eq_zero_or_pos r.len with hz | hz
     ·rw[hz,Nat.zero_mul]at hjl;omega
     ·exact hz
    obtain rfl:=q5 (by omega)
    rw[List.getElem?_take_of_lt hjl,List.getElem?_drop]at hj
    rw[addr_add]
    simp only[World.cell?,heap_drew,q3,Option.isSome_none,Bool.false_eq_true,if_false]
    simpa using hj
   have hrun:=run_append_grow_src w t tx rt e i z hu hi hzz (some aq) r.len cap _ holds v s.len news hsrc (by omega) (by omega)
    (growslice_fits (by omega) (by rw[hby];have:=Nat.mul_le_mul hmax hb;omega))
   have hge:=grownCap_ge w (r.len+s.len) cap e
   have hcm:=grownCap_le_maxLen w (r.len+s.len) cap e (by unfold maxLen;omega)
   have hsize:0+grownCap w (r.len+s.len) cap e*(ty e).sz=(((cur.toList.drop (M.off id)).take (r.len*(ty e).sz)++news).toArray++Builtin.zeroCells z.cells (grownCap w (r.len+s.len) cap e-(r.len+s.len))).size:=by
    simp only[Array.size_append,List.size_toArray,List.length_append,size_zeroCells,hzs,hol,hs.len,← Nat.add_mul,Nat.zero_add]
    congr 1;omega
   obtain⟨f1,f2⟩:=ngb7 h hr happ (f:=0) (w':=w.drew.alloc (.cells (((cur.toList.drop (M.off id)).take (r.len*(ty e).sz)++news).toArray++Builtin.zeroCells z.cells (grownCap w (r.len+s.len) cap e-(r.len+s.len))) e))
    ⟨rfl,rfl,rfl,by simp,fun k hk _=>heap_alloc_old w.drew _ hk⟩ (heap_alloc_new w.drew _) (.inr (Nat.le_refl _)) h0 hsize hge (fun i o hi ho=>by
     rw[Nat.zero_add]
     by_cases hil:i<r.len
     ·obtain⟨u,u1,-,u2,u3⟩:=olds (n:=news) i o hil ho
      refine⟨u, ?_,u2,by rw[if_pos hil];exact u3⟩
      have hlt:=(List.getElem?_eq_some_iff.1 u1).1
      rw[Array.getElem?_append_left (by simpa using hlt),List.getElem?_toArray]
      exact u1
     ·obtain⟨u,u1,u4,u5,u2,u3⟩:=mids i o (by omega) hi ho
      refine⟨u, ?_,u2,u3⟩
      rw[Array.getElem?_append_left (by simp;simp at hol;omega),List.getElem?_toArray,List.getElem?_append_right (by omega),hol]
      exact u1) (.inl hpos)
   exact⟨_,_,_,hrun,f1,f2,con (heap_alloc_new w.drew _) hsize hge hcm (fun _=>rfl),by simp,fun k hk _=>heap_alloc_old w.drew _ hk⟩
theorem upb7 (hT:uh7 P ty) (h:Rel E M H w) (t e rt:TypeId) (hk:(ty t).k = .sl e) (h0:0<(ty e).sz) (hb:(ty e).bytes≤128) {v q:Value}{s:Row}{ad:Addr}{c:Nat}{news:List Value}(hs:vdc7 M H w v s (ty e).sz ad c news)
  {id len:Nat} {r:Row} (hr:da7 H id = .live false e (ty e).sz r) (hlen:len=r.len) (hq:Con M H w (.h id 0 len) q) (hmax:len+s.len≤1099511627776) (happ:(r.app s).1) :
  ∃M' w' v',(Builtin.append_ #[t,t] rt #[q,v]).run P w = .ok v' w'∧Rel E M' (ja7 H id (.live false e (ty e).sz (r.app s).2)) w'∧Kp M H w M' (ja7 H id (.live false e (ty e).sz (r.app s).2)) w'∧Con M' (ja7 H id (.live false e (ty e).sz (r.app s).2)) w' (.h id 0 (len+s.len)) v'∧(w.heap.size≤w'.heap.size∧∀b,b<w.heap.size→b≠M.phi id→w'.heap[b]? = w.heap[b]?):=by
 obtain⟨hu,hke⟩:P.underlying t=some (.slice e)∧_:=sc7 hT hk
 exact vx7 hT h t t e rt hk h0 hb (by rw[hs.v];exact Src.ofSlice w hu ad s.len c news hs.len hs.cell hs.one) ⟨hs.len,hs.one,hs.con⟩ hr hlen hq hmax happ
theorem pl7 (s:ByteArray):(byI s).length=s.size:=by unfold byI;rw[List.length_map];rfl
theorem zhb7 {tx:TypeId}(hu:P.underlying tx=some .string) (s:ByteArray):Src P 1 tx (.string s) (Row.ints .u8 (byI s)).len (Go.byteCells s) w∧xmc7 M H w (.ints .u8 (byI s)) 1 (Go.byteCells s):=by
 have hl:(Go.byteCells s).length=s.size:=Go.byteCells_length s
 have hS:=Src.ofString w hu s
 refine⟨by show Src P 1 tx _ (byI s).length _ w;rw[pl7];exact hS,⟨by show _=(byI s).length*1;rw[pl7,hl];omega,hS.one,fun i o hi ho=>?_⟩⟩
 obtain rfl:o=0:=by omega
 have hi':i<s.data.toList.length:=by
  have h1:i<(byI s).length:=hi
  rwa [show (byI s).length=s.data.toList.length by simp[byI]]at h1
 refine⟨.int .u8 ((s.data.toList[i]).toNat:Int),by rw[Nat.mul_one,Nat.add_zero];show (s.data.toList.map _)[i]? = _;rw[List.getElem?_map,List.getElem?_eq_getElem hi'];rfl, ?_⟩
 show zk7 M H w false (.int .u8 ((byI s).getD i 0)) _
 have:(byI s).getD i 0=((s.data.toList[i]).toNat:Int):=by
  unfold byI
  rw[List.getD_eq_getElem?_getD,List.getElem?_map,List.getElem?_eq_getElem hi'];rfl
 rw[this];exact rfl
theorem ny7 (hT:uh7 P ty) (h:Rel E M H w) (t tx e rt:TypeId) (hk:(ty t).k = .sl e) (hx:(ty tx).k = .str) (he:(ty e).k = .i .u8∧(ty e).sz=1∧(ty e).bytes=1) {s:ByteArray}(hn:0<s.size∧s.size≤1099511627776) :
  ∃M' w' v',(Builtin.append_ #[t,tx] rt #[.slice none 0 0,.string s]).run P w = .ok v' w'∧Rel E M' (H++[.live false e 1 (.ints .u8 (byI s))]) w'∧Kp M H w M' (H++[.live false e 1 (.ints .u8 (byI s))]) w'∧Con M' (H++[.live false e 1 (.ints .u8 (byI s))]) w' (.h H.length 0 s.size) v'∧(w.heap.size≤w'.heap.size∧∀b,b<w.heap.size→w'.heap[b]? = w.heap[b]?):=by
 obtain⟨hu,hke⟩:P.underlying t=some (.slice e)∧_:=sc7 hT hk
 have hux:P.underlying tx=some .string:=sc7 hT hx
 obtain⟨hS,hC⟩:=zhb7 (P:=P) (M:=M) (H:=H) (w:=w) hux s
 have hl:(byI s).length=s.size:=pl7 s
 have hS':Src P (ty e).sz tx (.string s) s.size (Go.byteCells s) w:=by rw[he.2.1];exact Src.ofString w hux s
 obtain⟨i,z,hi,hzz,hsz,hby,hzs,hzl,-⟩:=ej7 (M:=M) (σ:=⟨[],H⟩) (w:=w) (P:=P) hT (t:=e) hke
 have hrun:=run_append_grow_src w t tx rt e i z hu hi hzz none 0 0 [] (run_firstCells_none w.drew i.size 0 0 0) (.string s) s.size (Go.byteCells s) (by rw[hsz];exact hS') (by omega) (by omega)
  (growslice_fits (by omega) (by rw[hby,he.2.2];omega))
 simp only[Nat.zero_add,List.nil_append]at hrun
 have hge:=grownCap_ge w s.size 0 e
 have hcm:=grownCap_le_maxLen w s.size 0 e (by unfold maxLen;omega)
 have hsize:grownCap w s.size 0 e*1=((Go.byteCells s).toArray++Builtin.zeroCells z.cells (grownCap w s.size 0 e-s.size)).size:=by
  simp only[Array.size_append,List.size_toArray,Go.byteCells_length,size_zeroCells,hzs,he.2.1];omega
 have hnew:=heap_alloc_new w.drew (.cells ((Go.byteCells s).toArray++Builtin.zeroCells z.cells (grownCap w s.size 0 e-s.size)) e)
 obtain⟨r1,r2⟩:=bn7 (r:=.ints .u8 (byI s)) (sz:=1) h (w':=w.drew.alloc (.cells ((Go.byteCells s).toArray++Builtin.zeroCells z.cells (grownCap w s.size 0 e-s.size)) e))
  ⟨rfl,rfl,rfl,by simp,fun k hk _=>heap_alloc_old w.drew _ hk⟩ hnew rfl Nat.one_pos hsize (by show (byI s).length≤_;rw[hl];exact hge) (fun i hi o ho=>by
   have hi:i<(byI s).length:=hi
   obtain⟨u,u1,u2⟩:=hC.con i o hi ho
   refine⟨u, ?_,hC.one u (List.mem_of_getElem? u1),u2⟩
   have hlt:=(List.getElem?_eq_some_iff.1 u1).1
   rw[Array.getElem?_append_left (by simpa using hlt),List.getElem?_toArray]
   exact u1)
 refine⟨_,_,_,hrun,r1,r2, ?_,by simp,fun k hk=>heap_alloc_old w.drew _ hk⟩
 exact tq7 (w:=w) (r:=.ints .u8 (byI s)) (by show s.size=(byI s).length;exact hl.symm) hge hcm hnew hsize
end
end Go.Proofs.YtabadfkikdefeaaGreat.Ab
