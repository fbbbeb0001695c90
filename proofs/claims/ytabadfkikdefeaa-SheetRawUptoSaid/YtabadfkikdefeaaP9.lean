/- Texts of the proof, joined: HaulFits, CanD, TimesOwn, Open, Open3, OpenU, Law. -/
import Derived.BigQuiet
import Derived.Test.YtabadfkikdefeaaProg
import Derived.Deep.Slices
import Derived.OpenShut
import Derived.Test.YtabadfkikdefeaaRows
import Derived.ProofKit
import Derived.Test.YtabadfkikdefeaaCode
set_option linter.all false
set_option maxRecDepth 100000
set_option maxHeartbeats 6400000


namespace Go.Proofs.Ytabadfkikdefeaa
open Go.RowKit
structure ju7 (TR TI:Nat) (w:World) (B:Nat) (v:Value) (out:List (List Int)) (vs:List Value):Prop where
 own:w.ownsRow B TR 1 v out.length vs
 len:vs.length = out.length
 rows:∀ i (h:i < out.length) (h':i < vs.length),w.ownsRow B TI 1 vs[i] out[i].length (out[i].map fb7)
section
variable {TR TI:Nat} {w w':World} {B:Nat} {v v' u:Value} {out:List (List Int)} {vs:List Value}
theorem ju7.nil (TR TI:Nat) (w:World) (B:Nat):ju7 TR TI w B (.slice none 0 0) [] [] :=
 ⟨World.ownsRow_nil _ _ _ _,rfl,fun _ h=>absurd h (Nat.not_lt_zero _)⟩
theorem ju7.below (h:ju7 TR TI w B v out vs) (hb:Below w.heap.size w w'):ju7 TR TI w' B v out vs :=
 ⟨na7 h.own hb,h.len,fun i h1 h2=>na7 (h.rows i h1 h2) hb⟩
theorem ju7.blockLt (h:ju7 TR TI w B v out vs):∀ i (hi:i < vs.length) b,vs[i].ownBlock = some b → B ≤ b ∧ b < w.heap.size:=fun i hi b hb =>
 (h.rows i (by rw [← h.len]; exact hi) hi).lt b hb
theorem ju7.keptSet {TP p j:Nat} {cs:List Value} (h:ju7 TR TI w B v out vs) (hr:Row w p TP cs) (h1:TP ≠ TR) (h2:TP ≠ TI):ju7 TR TI (w.setCell ⟨p,j,none⟩ u) B v out vs :=
 ⟨ja7 h.own hr h1 j u,h.len,fun i k1 k2=>ja7 (h.rows i k1 k2) hr h2 j u⟩
theorem ju7.mono {B':Nat} (h:ju7 TR TI w B v out vs) (hb:B' ≤ B):ju7 TR TI w B' v out vs :=
 ⟨vb7 h.own hb,h.len,fun i h1 h2=>vb7 (h.rows i h1 h2) hb⟩
theorem ju7.keptOwn {T k n B':Nat} {x:Value} {xs:List Value} (h:ju7 TR TI w B v out vs) (ho:w.ownsRow B' T k x n xs) (hg:w.grownBy w' x.ownBlock) (h1:TR ≠ T) (h2:TI ≠ T):ju7 TR TI w' B v out vs :=
 ⟨h.own.kept hg (eb7 h.own ho h1),h.len,fun i k1 k2=>(h.rows i k1 k2).kept hg (eb7 (h.rows i k1 k2) ho h2)⟩
theorem ju7.push {t:List Int} (h:ju7 TR TI w B v out vs) (hne:TI ≠ TR) (hg:w.grownBy w' v.ownBlock) (ho:w'.ownsRow B TR 1 v' (out.length + 1) (vs ++ [u])) (hu:w.ownsRow B TI 1 u t.length (t.map fb7)):ju7 TR TI w' B v' (out ++ [t]) (vs ++ [u]):=by
 refine ⟨by rw [List.length_append]; exact ho,by simp [h.len],fun i h1 h2 => ?_⟩
 by_cases hl:i < out.length
 ·have hl':i < vs.length:=by rw [h.len]; exact hl
  rw [List.getElem_append_left hl',List.getElem_append_left hl]
  exact (h.rows i hl hl').kept hg (eb7 (h.rows i hl hl') h.own hne)
 ·have:i = out.length:=by simp at h1; omega
  subst this
  have e1:(vs ++ [u])[out.length]'h2 = u:=by rw [List.getElem_append_right (by rw [h.len]; exact Nat.le_refl _)]; simp [h.len]
  have e2:(out ++ [t])[out.length]'h1 = t:=by rw [List.getElem_append_right (Nat.le_refl _)]; simp
  rw [e1,e2]
  exact hu.kept hg (eb7 hu h.own hne)
theorem ju7.rep (h:ju7 TR TI w B v out vs) (hw:∀ t ∈ out, ∀ s ∈ t,wa7 s):gg7.rep w (fun b=>B ≤ b) out [v]:=by
 have hr:∀ i (h1:i < out.length) (h2:i < vs.length),(ga7 je7).rep w (fun b=>B ≤ b) out[i] [vs[i]]:=fun i h1 h2=>si7 (h.rows i h1 h2) (hw _ (List.getElem_mem h1))
 rcases h.own.2 with ⟨rfl,hn⟩ | ⟨g,cap,cur,rfl,hg,hh,hn1,hc,hsz,ht⟩
 ·have:out = []:=List.eq_nil_of_length_eq_zero hn
  subst this
  exact tf7 _ _ _
 ·have hR:Row w g TR vs:=⟨cur,cur.toList.drop (out.length * 1),hh,by rw [← ht,List.take_append_drop]⟩
  refine gp7 (S:=ga7 je7) (T:=TR) (vs.map fun v=>[v]) (by simp [h.len]) (fun v hv=>by obtain ⟨u,_,rfl⟩:=List.mem_map.1 hv; rfl) (fun i h1 h2 => ?_) ?_ hn1 hc hg
  ·rw [List.getElem_map]; exact hr i h1 _
  ·have:(vs.map fun v=>[v]).flatten = vs:=by
    clear hR ht hr h
    induction vs with
    | nil=>rfl
    | cons a l ih=>rw [List.map_cons,List.flatten_cons,ih]; rfl
   rw [this]; exact hR
end
theorem eu7.blockLt {TR TI:Nat} {w:World} {B:Nat} {v:Value} {out:List yc7} {vs:List Value} (h:eu7 TR TI w B v out vs):∀ i (hi:i < vs.length) b,vs[i].ownBlock = some b → B ≤ b ∧ b < w.heap.size:=fun i hi b hb =>
 (h.rows i (by rw [← h.len]; exact hi) hi).lt b hb
theorem eu7.mono {TR TI:Nat} {w:World} {B B':Nat} {v:Value} {out:List yc7} {vs:List Value} (h:eu7 TR TI w B v out vs) (hb:B' ≤ B):eu7 TR TI w B' v out vs :=
 ⟨vb7 h.own hb,h.len,fun i h1 h2=>vb7 (h.rows i h1 h2) hb⟩
def Sep (vs:List Value):Prop:=vs.Pairwise fun a b=>a.ownBlock = none ∨ a.ownBlock ≠ b.ownBlock
theorem Sep.nil:Sep []:=List.Pairwise.nil
theorem Sep.push {vs:List Value} {u:Value} {n:Nat} (h:Sep vs) (hv:∀ a ∈ vs, ∀ b,a.ownBlock = some b → b < n) (hu:∀ b,u.ownBlock = some b → n ≤ b):Sep (vs ++ [u]):=by
 refine List.pairwise_append.2 ⟨h,List.pairwise_singleton _ _,fun a ha b hb => ?_⟩
 obtain rfl:=List.mem_singleton.1 hb
 cases e:a.ownBlock with
 | none=>exact .inl rfl
 | some k=>exact .inr fun e'=>by have:=hv a ha k e; have:=hu k e'.symm; omega
structure sub7 (x:ba7) (st:SnT):Prop where
 now:0 ≤ st.now ∧ st.now ≤ st.l.length * 1000000000
 node:0 ≤ st.node ∧ st.node < nodes x
 len:st.ready.length = x.sats.length
 rdy:∀ v ∈ st.ready,0 ≤ v ∧ v ≤ 200000000000000
 l:∀ v ∈ st.l,0 ≤ v ∧ v ≤ st.l.length * 1000000000
theorem sub7.get {x:ba7} {st:SnT} (h:sub7 x st) (i:Nat):0 ≤ st.ready.getD i 0 ∧ st.ready.getD i 0 ≤ 200000000000000:=by
 rw [List.getD_eq_getElem?_getD]
 by_cases e:i < st.ready.length
 ·rw [List.getElem?_eq_getElem e]; exact h.rdy _ (List.getElem_mem e)
 ·rw [List.getElem?_eq_none (by omega)]; simp
theorem sub7.step {x:ba7} (gd:Good x) {st:SnT} {s:ea7} (h:sub7 x st) (hl:st.l.length ≤ 100000) (hs:0 ≤ s.sat ∧ s.sat < x.sats.length):sub7 x (jf7 x st s):=by
 have h1:=h.now
 have h2:=wc7 gd st.node (1 + s.sat)
 have h3:=cs7 gd s.sat
 have h4:=h.get s.sat.toNat
 have hlen:(jf7 x st s).l.length = st.l.length + 1:=by simp [jf7]
 refine ⟨?_, ?_, ?_,fun v hv => ?_,fun v hv => ?_⟩
 ·rw [hlen]; show 0 ≤ st.now + _ ∧ st.now + _ ≤ _; push_cast; omega
 ·show 0 ≤ 1 + s.sat ∧ 1 + s.sat < (nodes x:Int); unfold nodes; omega
 ·show (st.ready.set _ _).length = _; rw [List.length_set]; exact h.len
 ·rcases List.mem_or_eq_of_mem_set hv with hv | rfl
  ·exact h.rdy _ hv
  ·omega
 ·rw [hlen]
  rcases List.mem_append.1 (show v ∈ st.l ++ [st.now + xa7 x st.node (1 + s.sat)] from hv) with hv | hv
  ·have:=h.l v hv; push_cast; omega
  ·obtain rfl:=List.mem_singleton.1 hv
   push_cast; omega
structure ccc7 (x:ba7) (a:SnA):Prop where
 len:a.ready.length = x.sats.length
 rdy:∀ v ∈ a.ready,0 ≤ v ∧ v ≤ 200000000000000
 ts:∀ l ∈ a.ts, ∀ v ∈ l,0 ≤ v ∧ v ≤ 200000000000000
theorem ccc7.start (x:ba7) (a:SnA) (h:ccc7 x a):sub7 x ⟨0,0,a.ready,[]⟩ :=
 ⟨⟨Int.le_refl _,by simp⟩,⟨Int.le_refl _,by show (0:Int) < (nodes x:Int); unfold nodes; omega⟩,h.len,h.rdy,fun v hv=>by cases hv⟩
structure zac7 (x:ba7) (st:SnB):Prop where
 now:0 ≤ st.now ∧ st.now ≤ 300000000000000 + st.starts.length * 3000000000
 node:0 ≤ st.node ∧ st.node < nodes x
 l:∀ v ∈ st.starts,0 ≤ v ∧ v ≤ 300000000000000 + st.starts.length * 3000000000
theorem zac7.step {x:ba7} (gd:Good x) {st:SnB} {c:Int} (h:zac7 x st) (hl:st.starts.length ≤ 100000) (hc:xe7 x c):zac7 x (oe7 x st c):=by
 have h1:=h.now
 have h2:=wc7 gd st.node (1 + x.sats.length + c)
 have h3:=vq7 gd hc
 have hlen:(oe7 x st c).starts.length = st.starts.length + 1:=by simp [oe7]
 refine ⟨?_, ?_,fun v hv => ?_⟩
 ·rw [hlen]; show 0 ≤ max _ _ + _ ∧ max _ _ + _ ≤ _; push_cast; omega
 ·show 0 ≤ 1 + (x.sats.length:Int) + c ∧ 1 + (x.sats.length:Int) + c < (nodes x:Int); unfold nodes xe7 at *; omega
 ·rw [hlen]
  rcases List.mem_append.1 (show v ∈ st.starts ++ [max (st.now + xa7 x st.node (1 + x.sats.length + c)) (xc7 x c).opn] from hv) with hv | hv
  ·have:=h.l v hv; push_cast; omega
  ·obtain rfl:=List.mem_singleton.1 hv
   push_cast; omega
def ku7 {α:Type} (P:Program) (t:TypeId) (S:Shape α):Prop :=
 ∀ (H:Type) (enc:TypeId × Value → H) (w:World) (base:Nat) (spare:Nat → Bool) (held:Bool) (fuel:Nat) (cs:List Value) (x:DataW H × List MemPlace),DataW.trod enc P w base spare held fuel t cs = some x → ∃ y,S.rep w (fun _=>True) y cs
theorem jab7 {P:Program} {t:TypeId} (ht:P.underlying t = some (.int .i64)):ku7 P t je7:=by
 intro H enc w base spare held fuel cs x h
 cases fuel with
 | zero=>simp [DataW.trod] at h
 | succ n =>
  unfold DataW.trod at h
  rw [ht] at h
  split at h <;> simp_all
  rename_i k2 m e
  obtain ⟨⟨_,hw⟩, -⟩:=h
  subst e
  refine ⟨m,rfl, ?_⟩
  simpa [Lit.wf,IntKind.min,IntKind.max,IntKind.signed,IntKind.bits,wa7] using hw
theorem xcb7 {α:Type} {p:Nat → α → Prop}:∀ (n:Nat),(∀ i,i < n → ∃ x,p i x) → ∃ xs:List α,xs.length = n ∧ ∀ i (h:i < xs.length),p i xs[i]
 | 0,_=>⟨[],rfl,fun _ h=>absurd h (Nat.not_lt_zero _)⟩
 | n + 1,h=>by
  obtain ⟨xs,hl,hx⟩:=xcb7 n fun i hi=>h i (by omega)
  obtain ⟨x,hp⟩:=h n (by omega)
  refine ⟨xs ++ [x],by simp [hl],fun i hi => ?_⟩
  by_cases hlt:i < xs.length
  ·rw [List.getElem_append_left hlt]; exact hx i hlt
  ·have:i = n:=by simp at hi; omega
   subst this
   rw [List.getElem_append_right (by omega)]
   simpa [hl] using hp
theorem qab7 {w:World} {a:Addr} {v:Value} (h:w.cell? a = some v):a.spot = none:=by
 unfold World.cell? at h
 split at h
 ·split at h
  ·cases h
  ·rename_i hs; simpa using hs
 ·cases h
theorem fcb7 {α:Type} {P:Program} {t e:TypeId} {S:Shape α} {h0:0 < S.sz} (ht:P.underlying t = some (.slice e)) (hc:P.cellsOf e = S.sz) (he:ku7 P e S):ku7 P t (ga7 S h0):=by
 intro H enc w base spare held fuel cs x h
 rcases Deep.open_slice ht h with ⟨rfl, -⟩ | ⟨a,len,cap,m,n,D,Pl,rfl, -,hl,hm,hmm, -,hx⟩
 ·exact ⟨[],none,0,0,0,rfl,Nat.le_refl _,Nat.zero_le _,fun h=>absurd h (Nat.not_lt_zero _),fun i h=>absurd h (Nat.not_lt_zero _)⟩
 ·have hlm:len ≤ m:=by rw [hmm]; split <;> omega
  obtain ⟨xs,hxl,hxs⟩:=xcb7 (p:=fun i y => ∃ es,S.rep w (fun _=>True) y es ∧ ∀ j,j < S.sz → w.cell? ((a.add (i * S.sz)).add j) = es[j]?) len (fun i hi=>by
   obtain ⟨cs',h1,h2⟩:=hx i (by omega)
   obtain ⟨y,hy⟩:=he _ _ _ _ _ _ _ _ _ h2
   rw [hc] at h1
   obtain ⟨_,_,h3⟩:=World.cells?_some h1
   exact ⟨y,cs',hy,h3⟩)
  obtain ⟨b,off,spot⟩:=a
  subst hxl
  have hsp:0 < xs.length → spot = none:=fun hpos=>by
   obtain ⟨es,hr,hce⟩:=hxs 0 hpos
   have hle:=S.len hr
   have:=hce 0 h0
   rw [List.getElem?_eq_getElem (by omega),Nat.zero_mul] at this
   simpa [Addr.add] using qab7 this
  refine ⟨xs,some ⟨b,off,spot⟩,b,off,cap,rfl,hl,hm,fun hpos=>⟨by rw [hsp hpos],trivial⟩,fun i hi => ?_⟩
  obtain rfl:=hsp (by omega)
  obtain ⟨es,hr,hce⟩:=hxs i hi
  refine ⟨es,hr,fun j hj => ?_⟩
  rw [← hce j hj]
  congr 1
  by_cases e1:i * S.sz = 0 <;> by_cases e2:j = 0 <;> simp [Addr.add,e1,e2]
theorem jn7 {P:Program} {t:TypeId} {fs:Array Field} {H:Type} {enc:TypeId × Value → H} {w:World} {base:Nat} {spare:Nat → Bool} {held:Bool} {fuel:Nat} {cs:List Value} {x:DataW H × List MemPlace}
  (ht:P.underlying t = some (.struct fs)) (h:DataW.trod enc P w base spare held fuel t cs = some x) (i ft o k:Nat) (hf:(fs[i]?).map (fun f=>(f.type,f.offset)) = some (ft,o)) (hk:P.cellsOf ft = k) :
  ∃ n y,DataW.trod enc P w base spare held n ft ((cs.drop o).take k) = some y:=by
 obtain ⟨xs,n, -, -, -,hl,hx⟩:=DataW.trod_struct ht h
 obtain ⟨f,hf1,hf2⟩:=Option.map_eq_some_iff.1 hf
 simp only [Prod.mk.injEq] at hf2
 obtain ⟨rfl,rfl⟩:=hf2
 have h1:=hx i f hf1
 have hi:i < xs.length:=by
  rw [hl]
  exact (Array.getElem?_eq_some_iff.1 hf1).1
 rw [List.getElem?_eq_getElem hi,hk] at h1
 exact ⟨n,_,h1⟩
theorem fk7 {P:Program} {t:TypeId} {fs:Array Field} {H:Type} {enc:TypeId × Value → H} {w:World} {base:Nat} {spare:Nat → Bool} {held:Bool} {fuel:Nat} {cs:List Value} {x:DataW H × List MemPlace}
  (ht:P.underlying t = some (.struct fs)) (h:DataW.trod enc P w base spare held fuel t cs = some x):cs.length = P.cellsOf t:=by
 obtain ⟨xs,n, -, -,hl, -⟩:=DataW.trod_struct ht h
 exact hl
theorem rmb7:Try.prog.cellsOf 3 = 1:=by kernel_rfl
theorem cy7:Try.prog.cellsOf 2 = 1:=by kernel_rfl
theorem mab7:ku7 Try.prog 2 je7:=jab7 Try.underlying2
theorem tjb7:ku7 Try.prog 3 je7:=jab7 Try.underlying3
theorem gz7:ku7 Try.prog 43 (ga7 je7):=fcb7 (S:=je7) Try.underlying43 cy7 mab7
theorem mgb7 {P:Program} {w:World} {r:Reach} {base:Nat} {t:TypeId} {fs:Array Field} {v:Value} (ht:P.underlying t = some (.struct fs)) (h:Value.okWide P w r base t v):∃ cs:List Value,v = .agg cs.toArray ∧ v.cells.toList = cs:=by
 unfold Value.okWide at h
 rw [ht] at h
 obtain ⟨cs,rfl, -⟩:=h
 exact ⟨cs.toList,by simp,by simp [Value.cells]⟩
theorem ttb7:ku7 Try.prog 79 af7:=by
 intro H enc w base spare held fuel cs x h
 have hl:cs.length = 2:=(fk7 Try.underlying79 h).trans (by kernel_rfl)
 match cs,hl with
 | [v0,v1],_ =>
  obtain ⟨n0,y0,f0⟩:=jn7 Try.underlying79 h 0 3 0 1 rfl rmb7
  obtain ⟨n1,y1,f1⟩:=jn7 Try.underlying79 h 1 2 1 1 rfl cy7
  obtain ⟨a0,e0,w0⟩:=tjb7 _ _ _ _ _ _ _ _ _ f0
  obtain ⟨a1,e1,w1⟩:=mab7 _ _ _ _ _ _ _ _ _ f1
  simp at e0 e1
  subst e0; subst e1
  exact ⟨⟨a0,a1⟩,rfl,w0,w1⟩
theorem ctb7:ku7 Try.prog 58 pq7:=by
 intro H enc w base spare held fuel cs x h
 have hl:cs.length = 3:=(fk7 Try.underlying58 h).trans (by kernel_rfl)
 match cs,hl with
 | [v0,v1,v2],_ =>
  obtain ⟨n0,y0,f0⟩:=jn7 Try.underlying58 h 0 2 0 1 rfl cy7
  obtain ⟨n1,y1,f1⟩:=jn7 Try.underlying58 h 1 43 1 1 rfl (by kernel_rfl)
  obtain ⟨n2,y2,f2⟩:=jn7 Try.underlying58 h 2 2 2 1 rfl cy7
  obtain ⟨a0,e0,w0⟩:=mab7 _ _ _ _ _ _ _ _ _ f0
  obtain ⟨a1,r1⟩:=gz7 _ _ _ _ _ _ _ _ _ f1
  obtain ⟨a2,e2,w2⟩:=mab7 _ _ _ _ _ _ _ _ _ f2
  simp at e0 e2
  subst e0; subst e2
  exact ⟨⟨a0,a1,a2⟩,v1,rfl,w0,w2,r1⟩
theorem snb7 {H:Type} (d:DataW H):1 ≤ Rows.uptoBulk d:=by
 cases d with
 | lit l=>cases l <;> simp [Rows.uptoBulk]
 | nil=>simp [Rows.uptoBulk]
 | ptr d=>simp [Rows.uptoBulk]
 | slice elems spare=>simp [Rows.uptoBulk]
 | agg parts=>simp [Rows.uptoBulk]
 | iface t d=>simp [Rows.uptoBulk]
 | map entries=>simp [Rows.uptoBulk]
 | held h=>simp [Rows.uptoBulk]
theorem ey7 {H:Type} {d:DataW H} {l:List (DataW H)} (h:d ∈ l):Rows.uptoBulk d ≤ Rows.uptoBulkAll l:=by
 induction l with
 | nil=>cases h
 | cons x r ih =>
  simp only [Rows.uptoBulkAll]
  cases List.mem_cons.1 h with
  | inl e=>subst e; omega
  | inr e=>have:=ih e; omega
theorem dqb7 {H:Type} (l:List (DataW H)):l.length ≤ Rows.uptoBulkAll l:=by
 induction l with
 | nil=>simp [Rows.uptoBulkAll]
 | cons x r ih=>have:=snb7 x; simp only [Rows.uptoBulkAll,List.length_cons]; omega
def bq7 {α:Type} (P:Program) (t:TypeId) (S:Shape α) (q:Nat → α → Prop):Prop :=
 ∀ (H:Type) (enc:TypeId × Value → H) (w:World) (base:Nat) (spare:Nat → Bool) (held:Bool) (fuel:Nat) (cs:List Value) (x:DataW H × List MemPlace) (B:Nat),DataW.trod enc P w base spare held fuel t cs = some x → Rows.uptoBulk x.1 ≤ B → ∃ y,S.rep w (fun _=>True) y cs ∧ q B y
theorem ku7.u {α:Type} {P:Program} {t:TypeId} {S:Shape α} (h:ku7 P t S):bq7 P t S (fun _ _=>True):=fun _ _ _ _ _ _ _ _ _ _ h1 _=>(h _ _ _ _ _ _ _ _ _ h1).imp fun _ h=>⟨h,trivial⟩
theorem ue7 {α:Type} {P:Program} {t e:TypeId} {S:Shape α} {h0:0 < S.sz} {q:Nat → α → Prop} (ht:P.underlying t = some (.slice e)) (hc:P.cellsOf e = S.sz) (he:bq7 P e S q):bq7 P t (ga7 S h0) (fun B l=>l.length ≤ B ∧ ∀ x ∈ l,q B x):=by
 intro H enc w base spare held fuel cs x B h hB
 rcases Deep.open_slice ht h with ⟨rfl, -⟩ | ⟨a,len,cap,m,n,D,Pl,rfl, -,hl,hm,hmm,hxx,hx⟩
 ·exact ⟨[],⟨none,0,0,0,rfl,Nat.le_refl _,Nat.zero_le _,fun h=>absurd h (Nat.not_lt_zero _),fun i h=>absurd h (Nat.not_lt_zero _)⟩,Nat.zero_le _,fun x hx=>by cases hx⟩
 ·have hlm:len ≤ m:=by rw [hmm]; split <;> omega
  rw [hxx] at hB
  simp only [Rows.uptoBulk] at hB
  have hBl:=dqb7 ((List.range len).map D)
  rw [List.length_map,List.length_range] at hBl
  obtain ⟨xs,hxl,hxs⟩:=xcb7 (p:=fun i y=>(∃ es,S.rep w (fun _=>True) y es ∧ ∀ j,j < S.sz → w.cell? ((a.add (i * S.sz)).add j) = es[j]?) ∧ q B y) len (fun i hi=>by
   obtain ⟨cs',h1,h2⟩:=hx i (by omega)
   have hb:=ey7 (List.mem_map_of_mem (f:=D) (List.mem_range.2 hi))
   obtain ⟨y,hy,hq⟩:=he _ _ _ _ _ _ _ _ _ B h2 (by show Rows.uptoBulk (D i) ≤ B; omega)
   rw [hc] at h1
   obtain ⟨_,_,h3⟩:=World.cells?_some h1
   exact ⟨y,⟨cs',hy,h3⟩,hq⟩)
  obtain ⟨b,off,spot⟩:=a
  subst hxl
  have hsp:0 < xs.length → spot = none:=fun hpos=>by
   obtain ⟨⟨es,hr,hce⟩, -⟩:=hxs 0 hpos
   have hle:=S.len hr
   have:=hce 0 h0
   rw [List.getElem?_eq_getElem (by omega),Nat.zero_mul] at this
   simpa [Addr.add] using qab7 this
  refine ⟨xs,⟨some ⟨b,off,spot⟩,b,off,cap,rfl,hl,hm,fun hpos=>⟨by rw [hsp hpos],trivial⟩,fun i hi => ?_⟩,by omega,fun x hx => ?_⟩
  ·obtain rfl:=hsp (by omega)
   obtain ⟨⟨es,hr,hce⟩, -⟩:=hxs i hi
   refine ⟨es,hr,fun j hj => ?_⟩
   rw [← hce j hj]
   congr 1
   by_cases e1:i * S.sz = 0 <;> by_cases e2:j = 0 <;> simp [Addr.add,e1,e2]
  ·obtain ⟨i,hi,rfl⟩:=List.getElem_of_mem hx
   exact (hxs i hi).2
theorem ci7 {P:Program} {t:TypeId} {fs:Array Field} {H:Type} {enc:TypeId × Value → H} {w:World} {base:Nat} {spare:Nat → Bool} {held:Bool} {fuel B:Nat} {cs:List Value} {x:DataW H × List MemPlace}
  (ht:P.underlying t = some (.struct fs)) (h:DataW.trod enc P w base spare held fuel t cs = some x) (hB:Rows.uptoBulk x.1 ≤ B) (i ft o k:Nat) (hf:(fs[i]?).map (fun f=>(f.type,f.offset)) = some (ft,o)) (hk:P.cellsOf ft = k) :
  ∃ n y,DataW.trod enc P w base spare held n ft ((cs.drop o).take k) = some y ∧ Rows.uptoBulk y.1 ≤ B:=by
 obtain ⟨xs,n, -,rfl, -,hl,hx⟩:=DataW.trod_struct ht h
 obtain ⟨f,hf1,hf2⟩:=Option.map_eq_some_iff.1 hf
 simp only [Prod.mk.injEq] at hf2
 obtain ⟨rfl,rfl⟩:=hf2
 have h1:=hx i f hf1
 have hi:i < xs.length:=by
  rw [hl]
  exact (Array.getElem?_eq_some_iff.1 hf1).1
 rw [List.getElem?_eq_getElem hi,hk] at h1
 refine ⟨n,_,h1, ?_⟩
 have:=ey7 (List.mem_map_of_mem (f:=fun y:DataW H × List MemPlace=>y.1) (List.getElem_mem hi))
 simp only [Rows.uptoBulk] at hB
 omega
theorem jjb7:bq7 Try.prog 82 (ga7 af7) (fun B l=>l.length ≤ B):=by
 intro H enc w base spare held fuel cs x B h hB
 have hl:cs.length = 1:=(fk7 Try.underlying82 h).trans (by kernel_rfl)
 match cs,hl with
 | [v0],_ =>
  obtain ⟨_,_,f0,b0⟩:=ci7 Try.underlying82 h hB 0 80 0 1 rfl (by kernel_rfl)
  obtain ⟨a,h1,h2⟩:=ue7 (S:=af7) (h0:=by decide) Try.underlying80 (by kernel_rfl) ttb7.u _ _ _ _ _ _ _ _ _ B f0 b0
  exact ⟨a,h1,h2.1⟩
theorem bqb7:bq7 Try.prog 73 in7 (fun B b=>b.stops.length ≤ B):=by
 intro H enc w base spare held fuel cs x B h hB
 have hl:cs.length = 2:=(fk7 Try.underlying73 h).trans (by kernel_rfl)
 match cs,hl with
 | [v0,v1],_ =>
  obtain ⟨n0,y0,f0⟩:=jn7 Try.underlying73 h 0 3 0 1 rfl rmb7
  obtain ⟨_,_,f1,b1⟩:=ci7 Try.underlying73 h hB 1 71 1 1 rfl (by kernel_rfl)
  obtain ⟨a0,e0,w0⟩:=tjb7 _ _ _ _ _ _ _ _ _ f0
  obtain ⟨a1,r1,r2⟩:=ue7 (S:=je7) (h0:=by decide) Try.underlying71 rmb7 tjb7.u _ _ _ _ _ _ _ _ _ B f1 b1
  simp at e0
  subst e0
  exact ⟨⟨a0,a1⟩,⟨v1,rfl,w0,r1⟩,r2.1⟩
theorem bob7:bq7 Try.prog 25 kd7 (fun B p=>(p.trucks.length ≤ B ∧ ∀ t ∈ p.trucks,t.length ≤ B) ∧ p.bikes.length ≤ B ∧ ∀ b ∈ p.bikes,b.stops.length ≤ B):=by
 intro H enc w base spare held fuel cs x B h hB
 have hl:cs.length = 2:=(fk7 Try.underlying25 h).trans (by kernel_rfl)
 match cs,hl with
 | [v0,v1],_ =>
  obtain ⟨_,_,f0,b0⟩:=ci7 Try.underlying25 h hB 0 22 0 1 rfl (by kernel_rfl)
  obtain ⟨_,_,f1,b1⟩:=ci7 Try.underlying25 h hB 1 23 1 1 rfl (by kernel_rfl)
  obtain ⟨a0,r0,q0⟩:=ue7 (S:=ga7 af7) (h0:=by decide) Try.underlying22 (by kernel_rfl) jjb7 _ _ _ _ _ _ _ _ _ B f0 b0
  obtain ⟨a1,r1,q1⟩:=ue7 (S:=in7) (h0:=by decide) Try.underlying23 (by kernel_rfl) bqb7 _ _ _ _ _ _ _ _ _ B f1 b1
  exact ⟨⟨a0,a1⟩,⟨v0,v1,rfl,r0,r1⟩,q0,q1⟩
theorem jlb7:bq7 Try.prog 29 ve7 (fun B t=>t.trucks.length ≤ B ∧ t.bikes.length ≤ B):=by
 intro H enc w base spare held fuel cs x B h hB
 have hl:cs.length = 2:=(fk7 Try.underlying29 h).trans (by kernel_rfl)
 match cs,hl with
 | [v0,v1],_ =>
  obtain ⟨_,_,f0,b0⟩:=ci7 Try.underlying29 h hB 0 26 0 1 rfl (by kernel_rfl)
  obtain ⟨_,_,f1,b1⟩:=ci7 Try.underlying29 h hB 1 27 1 1 rfl (by kernel_rfl)
  obtain ⟨a0,r0,q0⟩:=ue7 (S:=ga7 je7) (h0:=by decide) Try.underlying26 (by kernel_rfl) gz7.u _ _ _ _ _ _ _ _ _ B f0 b0
  obtain ⟨a1,r1,q1⟩:=ue7 (S:=pq7) (h0:=by decide) Try.underlying27 (by kernel_rfl) ctb7.u _ _ _ _ _ _ _ _ _ B f1 b1
  exact ⟨⟨a0,a1⟩,⟨v0,v1,rfl,r0,r1⟩,q0.1,q1.1⟩
theorem ojb7:bq7 Try.prog 31 wh7 (fun B s=>(s.times.trucks.length ≤ B ∧ s.times.bikes.length ≤ B) ∧ (s.plan.trucks.length ≤ B ∧ ∀ t ∈ s.plan.trucks,t.length ≤ B) ∧ s.plan.bikes.length ≤ B ∧ ∀ b ∈ s.plan.bikes,b.stops.length ≤ B):=by
 intro H enc w base spare held fuel cs x B h hB
 have hl:cs.length = 5:=(fk7 Try.underlying31 h).trans (by kernel_rfl)
 match cs,hl with
 | [v0,v1,v2,v3,v4],_ =>
  obtain ⟨_,_,f0,b0⟩:=ci7 Try.underlying31 h hB 0 25 0 2 rfl (by kernel_rfl)
  obtain ⟨_,_,f1,b1⟩:=ci7 Try.underlying31 h hB 1 29 2 2 rfl (by kernel_rfl)
  obtain ⟨_,_,f2⟩:=jn7 Try.underlying31 h 2 2 4 1 rfl cy7
  obtain ⟨a0,r0,q0⟩:=bob7 _ _ _ _ _ _ _ _ _ B f0 b0
  obtain ⟨a1,r1,q1⟩:=jlb7 _ _ _ _ _ _ _ _ _ B f1 b1
  obtain ⟨a2,e2,w2⟩:=mab7 _ _ _ _ _ _ _ _ _ f2
  simp at e2
  subst e2
  exact ⟨⟨a0,a1,a2⟩,⟨v0,v1,v2,v3,rfl,w2,r0,r1⟩,q1,q0⟩
open Go.RowKit Go.WideShapes Go.ChangeShapes
theorem Try.own:ownKnob Try.prog.godebug = none:=by kernel_rfl
theorem Try.laid:laidOutB Try.prog = true:=by kernel_rfl
section
variable {H:Type} {enc:TypeId × Value → H} {P:Program}
theorem go7 (hl:laidOutB P = true) {W W':World} (hb:Below W.heap.size W W') {sp:Nat → Bool}:∀ (ts:List TypeId) (vs:List Value) (ds:List (DataW H)) (ps:List MemPlace),DataW.TrodAll enc P W 0 (fun _=>true) true ts vs ds ps →
  (∀ t ∈ ts,P.readableRec t = true ∧ t < P.types.size) → (∀ x ∈ ps,x.block < W.heap.size) → (∀ x ∈ ps,sp x.block = true) → DataW.TrodAll enc P W' 0 sp true ts vs ds ps
 | [],[],[],_,h,_,_,_=>h
 | t :: ts,v :: vs,d :: ds,ps,h,ht,hlt,hsp=>by
  obtain ⟨p,q,h1,h2,rfl⟩:=h
  exact ⟨p,q,WideElems.Trod_stays hl (ht t (List.mem_cons_self ..)).1 (ht t (List.mem_cons_self ..)).2 h1 (fun x hx=>hb.same (hlt x (List.mem_append_left _ hx))) (fun x hx=>hsp x (List.mem_append_left _ hx)),
   go7 hl hb ts vs ds q h2 (fun t h=>ht t (List.mem_cons_of_mem _ h)) (fun x hx=>hlt x (List.mem_append_right _ hx)) (fun x hx=>hsp x (List.mem_append_right _ hx)),rfl⟩
 | [],_ :: _,_,_,h,_,_,_=>h.elim
 | [],[],_ :: _,_,h,_,_,_=>h.elim
 | _ :: _,[],_,_,h,_,_,_=>h.elim
 | _ :: _,_ :: _,[],_,h,_,_,_=>h.elim
theorem bpb7 {f:Func} {s:ChangeSpec} {fresh handsOn again:Bool} {W W':World} {args:Array Value} {ds gs:List (DataW H)} {before:List MemPlace} {bt:TypeId} (hl:laidOutB P = true)
  (hW:DataW.Whole enc P f.params.toList s.vars false W args.toList ds gs before) (hv:s.vars = []) (hs:s.fn H (ds ++ gs) = { results:=[.lit (.bool true)],args:=ds }) (hr:f.resultTypes = #[bt]) (hbt:P.underlying bt = some .bool)
  (ht:∀ t ∈ f.params.toList,P.readableRec t = true ∧ t < P.types.size) (hb:Below W.heap.size W W'):s.post enc P f false fresh handsOn again W args (.bool true) W':=by
 have hlt:∀ p ∈ before,p.block < W.heap.size:=fun p hp=>hW.lt p hp
 have hW2:=hW
 obtain ⟨pa,pv,hA,hV,rfl,hz, -⟩:=hW2
 have hpv:pv = []:=by
  rw [hv] at hV
  cases gs with
  | nil=>exact hV
  | cons g gs=>exact hV.elim
 have hgs:gs = []:=by
  rw [hv] at hV
  cases gs with
  | nil=>rfl
  | cons g gs=>exact hV.elim
 subst hpv
 have hres:∀ (b:Nat) (sp:Nat → Bool) (hd:Bool),DataW.TrodAll enc P W' b sp hd f.resultTypes.toList ((Value.bool true).resultList f.resultTypes.size) (s.fn H (ds ++ gs)).results []:=fun b sp hd=>by
  rw [hs,hr]
  exact trodAll_mk1 (shut_bool hbt _)
 have hargs:∀ sp:Nat → Bool,(∀ p ∈ pa ++ [],sp p.block = true) → DataW.TrodAll enc P W' 0 sp true f.params.toList args.toList (s.fn H (ds ++ gs)).args pa:=fun sp hsp=>by
  rw [hs]
  exact go7 hl hb _ _ _ _ hA ht (fun x hx=>hlt x (List.mem_append_left _ hx)) (fun x hx=>hsp x (List.mem_append_left _ hx))
 have hvars:∀ sp:Nat → Bool,DataW.TrodVars enc P W' sp s.vars (s.fn H (ds ++ gs)).vars []:=fun sp=>by
  rw [hs,hv]; rfl
 refine ⟨ds,gs,pa ++ [],[],pa,[],hW,hres _ _ _,hargs _ (fun p hp=>by simpa using hlt p hp),hvars _,World.keptBut_mono (fun p hp=>⟨hp, ?_⟩) (hb.frame (· ∈ pa ++ [])),fun _ => ?_⟩
 ·rw [List.append_nil] at hp
  exact Or.inr (.inl hp)
 ·refine ⟨ok_one hr rfl (okWide_bool_mk hbt _),_,_,([] ++ pa) ++ [],⟨[] ++ pa,[],trodAll_append (hargs _ (fun _ _=>rfl)) (hres _ _ _),hvars _,rfl, ?_, ?_⟩, ?_⟩
  ·intro b off hp
   have hin:MemPlace.cell b off ∈ pa ++ []:=by simpa using hp
   rw [hb.frozen (hlt _ hin)]
   exact hz b off hin
  ·intro ha; cases ha
  ·intro p hp _
   simpa using hp
end
end Go.Proofs.Ytabadfkikdefeaa
