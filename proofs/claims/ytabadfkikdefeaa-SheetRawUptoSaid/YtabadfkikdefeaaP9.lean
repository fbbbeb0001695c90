/- Texts of the proof, joined: HaulFits, CanD, TimesOwn, Open, Open3, OpenU, Law. -/
import Derived.BigQuiet
import Derived.Test.YtabadfkikdefeaaProg
import Derived.Deep.Slices
import Derived.OpenShut
import Derived.Test.YtabadfkikdefeaaRows
import Derived.ProofKit
import Derived.Test.YtabadfkikdefeaaCode
set_option linter.all false
set_option maxRecDepth 100000
set_option maxHeartbeats 6400000


namespace Go.Proofs.Ytabadfkikdefeaa
open Go.RowKit
structure iu7 (TR TI:Nat) (w:World) (B:Nat) (v:Value) (out:List (List Int)) (vs:List Value):Prop where
 own:w.ownsRow B TR 1 v out.length vs
 len:vs.length = out.length
 rows:∀ i (h:i < out.length) (h':i < vs.length),w.ownsRow B TI 1 vs[i] out[i].length (out[i].map gb7)
section
variable {TR TI:Nat} {w w':World} {B:Nat} {v v' u:Value} {out:List (List Int)} {vs:List Value}
theorem iu7.nil (TR TI:Nat) (w:World) (B:Nat):iu7 TR TI w B (.slice none 0 0) [] [] :=
 ⟨World.ownsRow_nil _ _ _ _,rfl,fun _ h=>absurd h (Nat.not_lt_zero _)⟩
theorem iu7.below (h:iu7 TR TI w B v out vs) (hb:Below w.heap.size w w'):iu7 TR TI w' B v out vs :=
 ⟨na7 h.own hb,h.len,fun i h1 h2=>na7 (h.rows i h1 h2) hb⟩
theorem iu7.blockLt (h:iu7 TR TI w B v out vs):∀ i (hi:i < vs.length) b,vs[i].ownBlock = some b → B ≤ b ∧ b < w.heap.size:=fun i hi b hb =>
 (h.rows i (by rw [← h.len]; exact hi) hi).lt b hb
theorem iu7.keptSet {TP p j:Nat} {cs:List Value} (h:iu7 TR TI w B v out vs) (hr:Row w p TP cs) (h1:TP ≠ TR) (h2:TP ≠ TI):iu7 TR TI (w.setCell ⟨p,j,none⟩ u) B v out vs :=
 ⟨ja7 h.own hr h1 j u,h.len,fun i k1 k2=>ja7 (h.rows i k1 k2) hr h2 j u⟩
theorem iu7.mono {B':Nat} (h:iu7 TR TI w B v out vs) (hb:B' ≤ B):iu7 TR TI w B' v out vs :=
 ⟨vb7 h.own hb,h.len,fun i h1 h2=>vb7 (h.rows i h1 h2) hb⟩
theorem iu7.keptOwn {T k n B':Nat} {x:Value} {xs:List Value} (h:iu7 TR TI w B v out vs) (ho:w.ownsRow B' T k x n xs) (hg:w.grownBy w' x.ownBlock) (h1:TR ≠ T) (h2:TI ≠ T):iu7 TR TI w' B v out vs :=
 ⟨h.own.kept hg (eb7 h.own ho h1),h.len,fun i k1 k2=>(h.rows i k1 k2).kept hg (eb7 (h.rows i k1 k2) ho h2)⟩
theorem iu7.push {t:List Int} (h:iu7 TR TI w B v out vs) (hne:TI ≠ TR) (hg:w.grownBy w' v.ownBlock) (ho:w'.ownsRow B TR 1 v' (out.length + 1) (vs ++ [u])) (hu:w.ownsRow B TI 1 u t.length (t.map gb7)):iu7 TR TI w' B v' (out ++ [t]) (vs ++ [u]):=by
 refine ⟨by rw [List.length_append]; exact ho,by simp [h.len],fun i h1 h2 => ?_⟩
 by_cases hl:i < out.length
 ·have hl':i < vs.length:=by rw [h.len]; exact hl
  rw [List.getElem_append_left hl',List.getElem_append_left hl]
  exact (h.rows i hl hl').kept hg (eb7 (h.rows i hl hl') h.own hne)
 ·have:i = out.length:=by simp at h1; omega
  subst this
  have e1:(vs ++ [u])[out.length]'h2 = u:=by rw [List.getElem_append_right (by rw [h.len]; exact Nat.le_refl _)]; simp [h.len]
  have e2:(out ++ [t])[out.length]'h1 = t:=by rw [List.getElem_append_right (Nat.le_refl _)]; simp
  rw [e1,e2]
  exact hu.kept hg (eb7 hu h.own hne)
theorem iu7.rep (h:iu7 TR TI w B v out vs) (hw:∀ t ∈ out, ∀ s ∈ t,wa7 s):gg7.rep w (fun b=>B ≤ b) out [v]:=by
 have hr:∀ i (h1:i < out.length) (h2:i < vs.length),(ga7 ge7).rep w (fun b=>B ≤ b) out[i] [vs[i]]:=fun i h1 h2=>xi7 (h.rows i h1 h2) (hw _ (List.getElem_mem h1))
 rcases h.own.2 with ⟨rfl,hn⟩ | ⟨g,cap,cur,rfl,hg,hh,hn1,hc,hsz,ht⟩
 ·have:out = []:=List.eq_nil_of_length_eq_zero hn
  subst this
  exact wf7 _ _ _
 ·have hR:Row w g TR vs:=⟨cur,cur.toList.drop (out.length * 1),hh,by rw [← ht,List.take_append_drop]⟩
  refine bp7 (S:=ga7 ge7) (T:=TR) (vs.map fun v=>[v]) (by simp [h.len]) (fun v hv=>by obtain ⟨u,_,rfl⟩:=List.mem_map.1 hv; rfl) (fun i h1 h2 => ?_) ?_ hn1 hc hg
  ·rw [List.getElem_map]; exact hr i h1 _
  ·have:(vs.map fun v=>[v]).flatten = vs:=by
    clear hR ht hr h
    induction vs with
    | nil=>rfl
    | cons a l ih=>rw [List.map_cons,List.flatten_cons,ih]; rfl
   rw [this]; exact hR
end
theorem du7.blockLt {TR TI:Nat} {w:World} {B:Nat} {v:Value} {out:List xc7} {vs:List Value} (h:du7 TR TI w B v out vs):∀ i (hi:i < vs.length) b,vs[i].ownBlock = some b → B ≤ b ∧ b < w.heap.size:=fun i hi b hb =>
 (h.rows i (by rw [← h.len]; exact hi) hi).lt b hb
theorem du7.mono {TR TI:Nat} {w:World} {B B':Nat} {v:Value} {out:List xc7} {vs:List Value} (h:du7 TR TI w B v out vs) (hb:B' ≤ B):du7 TR TI w B' v out vs :=
 ⟨vb7 h.own hb,h.len,fun i h1 h2=>vb7 (h.rows i h1 h2) hb⟩
def Sep (vs:List Value):Prop:=vs.Pairwise fun a b=>a.ownBlock = none ∨ a.ownBlock ≠ b.ownBlock
theorem Sep.nil:Sep []:=List.Pairwise.nil
theorem Sep.push {vs:List Value} {u:Value} {n:Nat} (h:Sep vs) (hv:∀ a ∈ vs, ∀ b,a.ownBlock = some b → b < n) (hu:∀ b,u.ownBlock = some b → n ≤ b):Sep (vs ++ [u]):=by
 refine List.pairwise_append.2 ⟨h,List.pairwise_singleton _ _,fun a ha b hb => ?_⟩
 obtain rfl:=List.mem_singleton.1 hb
 cases e:a.ownBlock with
 | none=>exact .inl rfl
 | some k=>exact .inr fun e'=>by have:=hv a ha k e; have:=hu k e'.symm; omega
structure rub7 (x:ba7) (st:SnT):Prop where
 now:0 ≤ st.now ∧ st.now ≤ st.l.length * 1000000000
 node:0 ≤ st.node ∧ st.node < nodes x
 len:st.ready.length = x.sats.length
 rdy:∀ v ∈ st.ready,0 ≤ v ∧ v ≤ 200000000000000
 l:∀ v ∈ st.l,0 ≤ v ∧ v ≤ st.l.length * 1000000000
theorem rub7.get {x:ba7} {st:SnT} (h:rub7 x st) (i:Nat):0 ≤ st.ready.getD i 0 ∧ st.ready.getD i 0 ≤ 200000000000000:=by
 rw [List.getD_eq_getElem?_getD]
 by_cases e:i < st.ready.length
 ·rw [List.getElem?_eq_getElem e]; exact h.rdy _ (List.getElem_mem e)
 ·rw [List.getElem?_eq_none (by omega)]; simp
theorem rub7.step {x:ba7} (gd:Good x) {st:SnT} {s:ea7} (h:rub7 x st) (hl:st.l.length ≤ 100000) (hs:0 ≤ s.sat ∧ s.sat < x.sats.length):rub7 x (df7 x st s):=by
 have h1:=h.now
 have h2:=tc7 gd st.node (1 + s.sat)
 have h3:=rs7 gd s.sat
 have h4:=h.get s.sat.toNat
 have hlen:(df7 x st s).l.length = st.l.length + 1:=by simp [df7]
 refine ⟨?_, ?_, ?_,fun v hv => ?_,fun v hv => ?_⟩
 ·rw [hlen]; show 0 ≤ st.now + _ ∧ st.now + _ ≤ _; push_cast; omega
 ·show 0 ≤ 1 + s.sat ∧ 1 + s.sat < (nodes x:Int); unfold nodes; omega
 ·show (st.ready.set _ _).length = _; rw [List.length_set]; exact h.len
 ·rcases List.mem_or_eq_of_mem_set hv with hv | rfl
  ·exact h.rdy _ hv
  ·omega
 ·rw [hlen]
  rcases List.mem_append.1 (show v ∈ st.l ++ [st.now + xa7 x st.node (1 + s.sat)] from hv) with hv | hv
  ·have:=h.l v hv; push_cast; omega
  ·obtain rfl:=List.mem_singleton.1 hv
   push_cast; omega
structure hcc7 (x:ba7) (a:SnA):Prop where
 len:a.ready.length = x.sats.length
 rdy:∀ v ∈ a.ready,0 ≤ v ∧ v ≤ 200000000000000
 ts:∀ l ∈ a.ts, ∀ v ∈ l,0 ≤ v ∧ v ≤ 200000000000000
theorem hcc7.start (x:ba7) (a:SnA) (h:hcc7 x a):rub7 x ⟨0,0,a.ready,[]⟩ :=
 ⟨⟨Int.le_refl _,by simp⟩,⟨Int.le_refl _,by show (0:Int) < (nodes x:Int); unfold nodes; omega⟩,h.len,h.rdy,fun v hv=>by cases hv⟩
structure zac7 (x:ba7) (st:SnB):Prop where
 now:0 ≤ st.now ∧ st.now ≤ 300000000000000 + st.starts.length * 3000000000
 node:0 ≤ st.node ∧ st.node < nodes x
 l:∀ v ∈ st.starts,0 ≤ v ∧ v ≤ 300000000000000 + st.starts.length * 3000000000
theorem zac7.step {x:ba7} (gd:Good x) {st:SnB} {c:Int} (h:zac7 x st) (hl:st.starts.length ≤ 100000) (hc:se7 x c):zac7 x (oe7 x st c):=by
 have h1:=h.now
 have h2:=tc7 gd st.node (1 + x.sats.length + c)
 have h3:=zq7 gd hc
 have hlen:(oe7 x st c).starts.length = st.starts.length + 1:=by simp [oe7]
 refine ⟨?_, ?_,fun v hv => ?_⟩
 ·rw [hlen]; show 0 ≤ max _ _ + _ ∧ max _ _ + _ ≤ _; push_cast; omega
 ·show 0 ≤ 1 + (x.sats.length:Int) + c ∧ 1 + (x.sats.length:Int) + c < (nodes x:Int); unfold nodes se7 at *; omega
 ·rw [hlen]
  rcases List.mem_append.1 (show v ∈ st.starts ++ [max (st.now + xa7 x st.node (1 + x.sats.length + c)) (yc7 x c).opn] from hv) with hv | hv
  ·have:=h.l v hv; push_cast; omega
  ·obtain rfl:=List.mem_singleton.1 hv
   push_cast; omega
def hu7 {α:Type} (P:Program) (t:TypeId) (S:Shape α):Prop :=
 ∀ (H:Type) (enc:TypeId × Value → H) (w:World) (base:Nat) (spare:Nat → Bool) (held:Bool) (fuel:Nat) (cs:List Value) (x:DataW H × List MemPlace),DataW.trod enc P w base spare held fuel t cs = some x → ∃ y,S.rep w (fun _=>True) y cs
theorem jz7 {P:Program} {t:TypeId} (ht:P.underlying t = some (.int .i64)):hu7 P t ge7:=by
 intro H enc w base spare held fuel cs x h
 cases fuel with
 | zero=>simp [DataW.trod] at h
 | succ n =>
  unfold DataW.trod at h
  rw [ht] at h
  split at h <;> simp_all
  rename_i k2 m e
  obtain ⟨⟨_,hw⟩, -⟩:=h
  subst e
  refine ⟨m,rfl, ?_⟩
  simpa [Lit.wf,IntKind.min,IntKind.max,IntKind.signed,IntKind.bits,wa7] using hw
theorem edb7 {α:Type} {p:Nat → α → Prop}:∀ (n:Nat),(∀ i,i < n → ∃ x,p i x) → ∃ xs:List α,xs.length = n ∧ ∀ i (h:i < xs.length),p i xs[i]
 | 0,_=>⟨[],rfl,fun _ h=>absurd h (Nat.not_lt_zero _)⟩
 | n + 1,h=>by
  obtain ⟨xs,hl,hx⟩:=edb7 n fun i hi=>h i (by omega)
  obtain ⟨x,hp⟩:=h n (by omega)
  refine ⟨xs ++ [x],by simp [hl],fun i hi => ?_⟩
  by_cases hlt:i < xs.length
  ·rw [List.getElem_append_left hlt]; exact hx i hlt
  ·have:i = n:=by simp at hi; omega
   subst this
   rw [List.getElem_append_right (by omega)]
   simpa [hl] using hp
theorem vz7 {w:World} {a:Addr} {v:Value} (h:w.cell? a = some v):a.spot = none:=by
 unfold World.cell? at h
 split at h
 ·split at h
  ·cases h
  ·rename_i hs; simpa using hs
 ·cases h
theorem hcb7 {α:Type} {P:Program} {t e:TypeId} {S:Shape α} {h0:0 < S.sz} (ht:P.underlying t = some (.slice e)) (hc:P.cellsOf e = S.sz) (he:hu7 P e S):hu7 P t (ga7 S h0):=by
 intro H enc w base spare held fuel cs x h
 rcases Deep.open_slice ht h with ⟨rfl, -⟩ | ⟨a,len,cap,m,n,D,Pl,rfl, -,hl,hm,hmm, -,hx⟩
 ·exact ⟨[],none,0,0,0,rfl,Nat.le_refl _,Nat.zero_le _,fun h=>absurd h (Nat.not_lt_zero _),fun i h=>absurd h (Nat.not_lt_zero _)⟩
 ·have hlm:len ≤ m:=by rw [hmm]; split <;> omega
  obtain ⟨xs,hxl,hxs⟩:=edb7 (p:=fun i y => ∃ es,S.rep w (fun _=>True) y es ∧ ∀ j,j < S.sz → w.cell? ((a.add (i * S.sz)).add j) = es[j]?) len (fun i hi=>by
   obtain ⟨cs',h1,h2⟩:=hx i (by omega)
   obtain ⟨y,hy⟩:=he _ _ _ _ _ _ _ _ _ h2
   rw [hc] at h1
   obtain ⟨_,_,h3⟩:=World.cells?_some h1
   exact ⟨y,cs',hy,h3⟩)
  obtain ⟨b,off,spot⟩:=a
  subst hxl
  have hsp:0 < xs.length → spot = none:=fun hpos=>by
   obtain ⟨es,hr,hce⟩:=hxs 0 hpos
   have hle:=S.len hr
   have:=hce 0 h0
   rw [List.getElem?_eq_getElem (by omega),Nat.zero_mul] at this
   simpa [Addr.add] using vz7 this
  refine ⟨xs,some ⟨b,off,spot⟩,b,off,cap,rfl,hl,hm,fun hpos=>⟨by rw [hsp hpos],trivial⟩,fun i hi => ?_⟩
  obtain rfl:=hsp (by omega)
  obtain ⟨es,hr,hce⟩:=hxs i hi
  refine ⟨es,hr,fun j hj => ?_⟩
  rw [← hce j hj]
  congr 1
  by_cases e1:i * S.sz = 0 <;> by_cases e2:j = 0 <;> simp [Addr.add,e1,e2]
theorem wm7 {P:Program} {t:TypeId} {fs:Array Field} {H:Type} {enc:TypeId × Value → H} {w:World} {base:Nat} {spare:Nat → Bool} {held:Bool} {fuel:Nat} {cs:List Value} {x:DataW H × List MemPlace}
  (ht:P.underlying t = some (.struct fs)) (h:DataW.trod enc P w base spare held fuel t cs = some x) (i ft o k:Nat) (hf:(fs[i]?).map (fun f=>(f.type,f.offset)) = some (ft,o)) (hk:P.cellsOf ft = k) :
  ∃ n y,DataW.trod enc P w base spare held n ft ((cs.drop o).take k) = some y:=by
 obtain ⟨xs,n, -, -, -,hl,hx⟩:=DataW.trod_struct ht h
 obtain ⟨f,hf1,hf2⟩:=Option.map_eq_some_iff.1 hf
 simp only [Prod.mk.injEq] at hf2
 obtain ⟨rfl,rfl⟩:=hf2
 have h1:=hx i f hf1
 have hi:i < xs.length:=by
  rw [hl]
  exact (Array.getElem?_eq_some_iff.1 hf1).1
 rw [List.getElem?_eq_getElem hi,hk] at h1
 exact ⟨n,_,h1⟩
theorem kj7 {P:Program} {t:TypeId} {fs:Array Field} {H:Type} {enc:TypeId × Value → H} {w:World} {base:Nat} {spare:Nat → Bool} {held:Bool} {fuel:Nat} {cs:List Value} {x:DataW H × List MemPlace}
  (ht:P.underlying t = some (.struct fs)) (h:DataW.trod enc P w base spare held fuel t cs = some x):cs.length = P.cellsOf t:=by
 obtain ⟨xs,n, -, -,hl, -⟩:=DataW.trod_struct ht h
 exact hl
theorem whb7:Try.prog.cellsOf 3 = 1:=by kernel_rfl
theorem yx7:Try.prog.cellsOf 2 = 1:=by kernel_rfl
theorem sy7:hu7 Try.prog 2 ge7:=jz7 Try.underlying2
theorem yjb7:hu7 Try.prog 3 ge7:=jz7 Try.underlying3
theorem my7:hu7 Try.prog 43 (ga7 ge7):=hcb7 (S:=ge7) Try.underlying43 yx7 sy7
theorem zgb7 {P:Program} {w:World} {r:Reach} {base:Nat} {t:TypeId} {fs:Array Field} {v:Value} (ht:P.underlying t = some (.struct fs)) (h:Value.okWide P w r base t v):∃ cs:List Value,v = .agg cs.toArray ∧ v.cells.toList = cs:=by
 unfold Value.okWide at h
 rw [ht] at h
 obtain ⟨cs,rfl, -⟩:=h
 exact ⟨cs.toList,by simp,by simp [Value.cells]⟩
theorem dsb7:hu7 Try.prog 79 ye7:=by
 intro H enc w base spare held fuel cs x h
 have hl:cs.length = 2:=(kj7 Try.underlying79 h).trans (by kernel_rfl)
 match cs,hl with
 | [v0,v1],_ =>
  obtain ⟨n0,y0,f0⟩:=wm7 Try.underlying79 h 0 3 0 1 rfl whb7
  obtain ⟨n1,y1,f1⟩:=wm7 Try.underlying79 h 1 2 1 1 rfl yx7
  obtain ⟨a0,e0,w0⟩:=yjb7 _ _ _ _ _ _ _ _ _ f0
  obtain ⟨a1,e1,w1⟩:=sy7 _ _ _ _ _ _ _ _ _ f1
  simp at e0 e1
  subst e0; subst e1
  exact ⟨⟨a0,a1⟩,rfl,w0,w1⟩
theorem ysb7:hu7 Try.prog 58 pq7:=by
 intro H enc w base spare held fuel cs x h
 have hl:cs.length = 3:=(kj7 Try.underlying58 h).trans (by kernel_rfl)
 match cs,hl with
 | [v0,v1,v2],_ =>
  obtain ⟨n0,y0,f0⟩:=wm7 Try.underlying58 h 0 2 0 1 rfl yx7
  obtain ⟨n1,y1,f1⟩:=wm7 Try.underlying58 h 1 43 1 1 rfl (by kernel_rfl)
  obtain ⟨n2,y2,f2⟩:=wm7 Try.underlying58 h 2 2 2 1 rfl yx7
  obtain ⟨a0,e0,w0⟩:=sy7 _ _ _ _ _ _ _ _ _ f0
  obtain ⟨a1,r1⟩:=my7 _ _ _ _ _ _ _ _ _ f1
  obtain ⟨a2,e2,w2⟩:=sy7 _ _ _ _ _ _ _ _ _ f2
  simp at e0 e2
  subst e0; subst e2
  exact ⟨⟨a0,a1,a2⟩,v1,rfl,w0,w2,r1⟩
theorem cqb7 {H:Type} (d:DataW H):1 ≤ Rows.uptoBulk d:=by
 cases d with
 | lit l=>cases l <;> simp [Rows.uptoBulk]
 | nil=>simp [Rows.uptoBulk]
 | ptr d=>simp [Rows.uptoBulk]
 | slice elems spare=>simp [Rows.uptoBulk]
 | agg parts=>simp [Rows.uptoBulk]
 | iface t d=>simp [Rows.uptoBulk]
 | map entries=>simp [Rows.uptoBulk]
 | held h=>simp [Rows.uptoBulk]
theorem zz7 {H:Type} {d:DataW H} {l:List (DataW H)} (h:d ∈ l):Rows.uptoBulk d ≤ Rows.uptoBulkAll l:=by
 induction l with
 | nil=>cases h
 | cons x r ih =>
  simp only [Rows.uptoBulkAll]
  cases List.mem_cons.1 h with
  | inl e=>subst e; omega
  | inr e=>have:=ih e; omega
theorem npb7 {H:Type} (l:List (DataW H)):l.length ≤ Rows.uptoBulkAll l:=by
 induction l with
 | nil=>simp [Rows.uptoBulkAll]
 | cons x r ih=>have:=cqb7 x; simp only [Rows.uptoBulkAll,List.length_cons]; omega
def jq7 {α:Type} (P:Program) (t:TypeId) (S:Shape α) (q:Nat → α → Prop):Prop :=
 ∀ (H:Type) (enc:TypeId × Value → H) (w:World) (base:Nat) (spare:Nat → Bool) (held:Bool) (fuel:Nat) (cs:List Value) (x:DataW H × List MemPlace) (B:Nat),DataW.trod enc P w base spare held fuel t cs = some x → Rows.uptoBulk x.1 ≤ B → ∃ y,S.rep w (fun _=>True) y cs ∧ q B y
theorem hu7.u {α:Type} {P:Program} {t:TypeId} {S:Shape α} (h:hu7 P t S):jq7 P t S (fun _ _=>True):=fun _ _ _ _ _ _ _ _ _ _ h1 _=>(h _ _ _ _ _ _ _ _ _ h1).imp fun _ h=>⟨h,trivial⟩
theorem xe7 {α:Type} {P:Program} {t e:TypeId} {S:Shape α} {h0:0 < S.sz} {q:Nat → α → Prop} (ht:P.underlying t = some (.slice e)) (hc:P.cellsOf e = S.sz) (he:jq7 P e S q):jq7 P t (ga7 S h0) (fun B l=>l.length ≤ B ∧ ∀ x ∈ l,q B x):=by
 intro H enc w base spare held fuel cs x B h hB
 rcases Deep.open_slice ht h with ⟨rfl, -⟩ | ⟨a,len,cap,m,n,D,Pl,rfl, -,hl,hm,hmm,hxx,hx⟩
 ·exact ⟨[],⟨none,0,0,0,rfl,Nat.le_refl _,Nat.zero_le _,fun h=>absurd h (Nat.not_lt_zero _),fun i h=>absurd h (Nat.not_lt_zero _)⟩,Nat.zero_le _,fun x hx=>by cases hx⟩
 ·have hlm:len ≤ m:=by rw [hmm]; split <;> omega
  rw [hxx] at hB
  simp only [Rows.uptoBulk] at hB
  have hBl:=npb7 ((List.range len).map D)
  rw [List.length_map,List.length_range] at hBl
  obtain ⟨xs,hxl,hxs⟩:=edb7 (p:=fun i y=>(∃ es,S.rep w (fun _=>True) y es ∧ ∀ j,j < S.sz → w.cell? ((a.add (i * S.sz)).add j) = es[j]?) ∧ q B y) len (fun i hi=>by
   obtain ⟨cs',h1,h2⟩:=hx i (by omega)
   have hb:=zz7 (List.mem_map_of_mem (f:=D) (List.mem_range.2 hi))
   obtain ⟨y,hy,hq⟩:=he _ _ _ _ _ _ _ _ _ B h2 (by show Rows.uptoBulk (D i) ≤ B; omega)
   rw [hc] at h1
   obtain ⟨_,_,h3⟩:=World.cells?_some h1
   exact ⟨y,⟨cs',hy,h3⟩,hq⟩)
  obtain ⟨b,off,spot⟩:=a
  subst hxl
  have hsp:0 < xs.length → spot = none:=fun hpos=>by
   obtain ⟨⟨es,hr,hce⟩, -⟩:=hxs 0 hpos
   have hle:=S.len hr
   have:=hce 0 h0
   rw [List.getElem?_eq_getElem (by omega),Nat.zero_mul] at this
   simpa [Addr.add] using vz7 this
  refine ⟨xs,⟨some ⟨b,off,spot⟩,b,off,cap,rfl,hl,hm,fun hpos=>⟨by rw [hsp hpos],trivial⟩,fun i hi => ?_⟩,by omega,fun x hx => ?_⟩
  ·obtain rfl:=hsp (by omega)
   obtain ⟨⟨es,hr,hce⟩, -⟩:=hxs i hi
   refine ⟨es,hr,fun j hj => ?_⟩
   rw [← hce j hj]
   congr 1
   by_cases e1:i * S.sz = 0 <;> by_cases e2:j = 0 <;> simp [Addr.add,e1,e2]
  ·obtain ⟨i,hi,rfl⟩:=List.getElem_of_mem hx
   exact (hxs i hi).2
theorem ci7 {P:Program} {t:TypeId} {fs:Array Field} {H:Type} {enc:TypeId × Value → H} {w:World} {base:Nat} {spare:Nat → Bool} {held:Bool} {fuel B:Nat} {cs:List Value} {x:DataW H × List MemPlace}
  (ht:P.underlying t = some (.struct fs)) (h:DataW.trod enc P w base spare held fuel t cs = some x) (hB:Rows.uptoBulk x.1 ≤ B) (i ft o k:Nat) (hf:(fs[i]?).map (fun f=>(f.type,f.offset)) = some (ft,o)) (hk:P.cellsOf ft = k) :
  ∃ n y,DataW.trod enc P w base spare held n ft ((cs.drop o).take k) = some y ∧ Rows.uptoBulk y.1 ≤ B:=by
 obtain ⟨xs,n, -,rfl, -,hl,hx⟩:=DataW.trod_struct ht h
 obtain ⟨f,hf1,hf2⟩:=Option.map_eq_some_iff.1 hf
 simp only [Prod.mk.injEq] at hf2
 obtain ⟨rfl,rfl⟩:=hf2
 have h1:=hx i f hf1
 have hi:i < xs.length:=by
  rw [hl]
  exact (Array.getElem?_eq_some_iff.1 hf1).1
 rw [List.getElem?_eq_getElem hi,hk] at h1
 refine ⟨n,_,h1, ?_⟩
 have:=zz7 (List.mem_map_of_mem (f:=fun y:DataW H × List MemPlace=>y.1) (List.getElem_mem hi))
 simp only [Rows.uptoBulk] at hB
 omega
theorem kib7:jq7 Try.prog 82 (ga7 ye7) (fun B l=>l.length ≤ B):=by
 intro H enc w base spare held fuel cs x B h hB
 have hl:cs.length = 1:=(kj7 Try.underlying82 h).trans (by kernel_rfl)
 match cs,hl with
 | [v0],_ =>
  obtain ⟨_,_,f0,b0⟩:=ci7 Try.underlying82 h hB 0 80 0 1 rfl (by kernel_rfl)
  obtain ⟨a,h1,h2⟩:=xe7 (S:=ye7) (h0:=by decide) Try.underlying80 (by kernel_rfl) dsb7.u _ _ _ _ _ _ _ _ _ B f0 b0
  exact ⟨a,h1,h2.1⟩
theorem vob7:jq7 Try.prog 73 vm7 (fun B b=>b.stops.length ≤ B):=by
 intro H enc w base spare held fuel cs x B h hB
 have hl:cs.length = 2:=(kj7 Try.underlying73 h).trans (by kernel_rfl)
 match cs,hl with
 | [v0,v1],_ =>
  obtain ⟨n0,y0,f0⟩:=wm7 Try.underlying73 h 0 3 0 1 rfl whb7
  obtain ⟨_,_,f1,b1⟩:=ci7 Try.underlying73 h hB 1 71 1 1 rfl (by kernel_rfl)
  obtain ⟨a0,e0,w0⟩:=yjb7 _ _ _ _ _ _ _ _ _ f0
  obtain ⟨a1,r1,r2⟩:=xe7 (S:=ge7) (h0:=by decide) Try.underlying71 whb7 yjb7.u _ _ _ _ _ _ _ _ _ B f1 b1
  simp at e0
  subst e0
  exact ⟨⟨a0,a1⟩,⟨v1,rfl,w0,r1⟩,r2.1⟩
theorem rpb7:jq7 Try.prog 25 id7 (fun B p=>(p.trucks.length ≤ B ∧ ∀ t ∈ p.trucks,t.length ≤ B) ∧ p.bikes.length ≤ B ∧ ∀ b ∈ p.bikes,b.stops.length ≤ B):=by
 intro H enc w base spare held fuel cs x B h hB
 have hl:cs.length = 2:=(kj7 Try.underlying25 h).trans (by kernel_rfl)
 match cs,hl with
 | [v0,v1],_ =>
  obtain ⟨_,_,f0,b0⟩:=ci7 Try.underlying25 h hB 0 22 0 1 rfl (by kernel_rfl)
  obtain ⟨_,_,f1,b1⟩:=ci7 Try.underlying25 h hB 1 23 1 1 rfl (by kernel_rfl)
  obtain ⟨a0,r0,q0⟩:=xe7 (S:=ga7 ye7) (h0:=by decide) Try.underlying22 (by kernel_rfl) kib7 _ _ _ _ _ _ _ _ _ B f0 b0
  obtain ⟨a1,r1,q1⟩:=xe7 (S:=vm7) (h0:=by decide) Try.underlying23 (by kernel_rfl) vob7 _ _ _ _ _ _ _ _ _ B f1 b1
  exact ⟨⟨a0,a1⟩,⟨v0,v1,rfl,r0,r1⟩,q0,q1⟩
theorem dmb7:jq7 Try.prog 29 te7 (fun B t=>t.trucks.length ≤ B ∧ t.bikes.length ≤ B):=by
 intro H enc w base spare held fuel cs x B h hB
 have hl:cs.length = 2:=(kj7 Try.underlying29 h).trans (by kernel_rfl)
 match cs,hl with
 | [v0,v1],_ =>
  obtain ⟨_,_,f0,b0⟩:=ci7 Try.underlying29 h hB 0 26 0 1 rfl (by kernel_rfl)
  obtain ⟨_,_,f1,b1⟩:=ci7 Try.underlying29 h hB 1 27 1 1 rfl (by kernel_rfl)
  obtain ⟨a0,r0,q0⟩:=xe7 (S:=ga7 ge7) (h0:=by decide) Try.underlying26 (by kernel_rfl) my7.u _ _ _ _ _ _ _ _ _ B f0 b0
  obtain ⟨a1,r1,q1⟩:=xe7 (S:=pq7) (h0:=by decide) Try.underlying27 (by kernel_rfl) ysb7.u _ _ _ _ _ _ _ _ _ B f1 b1
  exact ⟨⟨a0,a1⟩,⟨v0,v1,rfl,r0,r1⟩,q0.1,q1.1⟩
theorem glb7:jq7 Try.prog 31 ai7 (fun B s=>(s.times.trucks.length ≤ B ∧ s.times.bikes.length ≤ B) ∧ (s.plan.trucks.length ≤ B ∧ ∀ t ∈ s.plan.trucks,t.length ≤ B) ∧ s.plan.bikes.length ≤ B ∧ ∀ b ∈ s.plan.bikes,b.stops.length ≤ B):=by
 intro H enc w base spare held fuel cs x B h hB
 have hl:cs.length = 5:=(kj7 Try.underlying31 h).trans (by kernel_rfl)
 match cs,hl with
 | [v0,v1,v2,v3,v4],_ =>
  obtain ⟨_,_,f0,b0⟩:=ci7 Try.underlying31 h hB 0 25 0 2 rfl (by kernel_rfl)
  obtain ⟨_,_,f1,b1⟩:=ci7 Try.underlying31 h hB 1 29 2 2 rfl (by kernel_rfl)
  obtain ⟨_,_,f2⟩:=wm7 Try.underlying31 h 2 2 4 1 rfl yx7
  obtain ⟨a0,r0,q0⟩:=rpb7 _ _ _ _ _ _ _ _ _ B f0 b0
  obtain ⟨a1,r1,q1⟩:=dmb7 _ _ _ _ _ _ _ _ _ B f1 b1
  obtain ⟨a2,e2,w2⟩:=sy7 _ _ _ _ _ _ _ _ _ f2
  simp at e2
  subst e2
  exact ⟨⟨a0,a1,a2⟩,⟨v0,v1,v2,v3,rfl,w2,r0,r1⟩,q1,q0⟩
open Go.RowKit Go.WideShapes Go.ChangeShapes
theorem Try.own:ownKnob Try.prog.godebug = none:=by kernel_rfl
theorem Try.laid:laidOutB Try.prog = true:=by kernel_rfl
section
variable {H:Type} {enc:TypeId × Value → H} {P:Program}
theorem qo7 (hl:laidOutB P = true) {W W':World} (hb:Below W.heap.size W W') {sp:Nat → Bool}:∀ (ts:List TypeId) (vs:List Value) (ds:List (DataW H)) (ps:List MemPlace),DataW.TrodAll enc P W 0 (fun _=>true) true ts vs ds ps →
  (∀ t ∈ ts,P.readableRec t = true ∧ t < P.types.size) → (∀ x ∈ ps,x.block < W.heap.size) → (∀ x ∈ ps,sp x.block = true) → DataW.TrodAll enc P W' 0 sp true ts vs ds ps
 | [],[],[],_,h,_,_,_=>h
 | t :: ts,v :: vs,d :: ds,ps,h,ht,hlt,hsp=>by
  obtain ⟨p,q,h1,h2,rfl⟩:=h
  exact ⟨p,q,WideElems.Trod_stays hl (ht t (List.mem_cons_self ..)).1 (ht t (List.mem_cons_self ..)).2 h1 (fun x hx=>hb.same (hlt x (List.mem_append_left _ hx))) (fun x hx=>hsp x (List.mem_append_left _ hx)),
   qo7 hl hb ts vs ds q h2 (fun t h=>ht t (List.mem_cons_of_mem _ h)) (fun x hx=>hlt x (List.mem_append_right _ hx)) (fun x hx=>hsp x (List.mem_append_right _ hx)),rfl⟩
 | [],_ :: _,_,_,h,_,_,_=>h.elim
 | [],[],_ :: _,_,h,_,_,_=>h.elim
 | _ :: _,[],_,_,h,_,_,_=>h.elim
 | _ :: _,_ :: _,[],_,h,_,_,_=>h.elim
theorem xnb7 {f:Func} {s:ChangeSpec} {fresh handsOn again:Bool} {W W':World} {args:Array Value} {ds gs:List (DataW H)} {before:List MemPlace} {bt:TypeId} (hl:laidOutB P = true)
  (hW:DataW.Whole enc P f.params.toList s.vars false W args.toList ds gs before) (hv:s.vars = []) (hs:s.fn H (ds ++ gs) = { results:=[.lit (.bool true)],args:=ds }) (hr:f.resultTypes = #[bt]) (hbt:P.underlying bt = some .bool)
  (ht:∀ t ∈ f.params.toList,P.readableRec t = true ∧ t < P.types.size) (hb:Below W.heap.size W W'):s.post enc P f false fresh handsOn again W args (.bool true) W':=by
 have hlt:∀ p ∈ before,p.block < W.heap.size:=fun p hp=>hW.lt p hp
 have hW2:=hW
 obtain ⟨pa,pv,hA,hV,rfl,hz, -⟩:=hW2
 have hpv:pv = []:=by
  rw [hv] at hV
  cases gs with
  | nil=>exact hV
  | cons g gs=>exact hV.elim
 have hgs:gs = []:=by
  rw [hv] at hV
  cases gs with
  | nil=>rfl
  | cons g gs=>exact hV.elim
 subst hpv
 have hres:∀ (b:Nat) (sp:Nat → Bool) (hd:Bool),DataW.TrodAll enc P W' b sp hd f.resultTypes.toList ((Value.bool true).resultList f.resultTypes.size) (s.fn H (ds ++ gs)).results []:=fun b sp hd=>by
  rw [hs,hr]
  exact trodAll_mk1 (shut_bool hbt _)
 have hargs:∀ sp:Nat → Bool,(∀ p ∈ pa ++ [],sp p.block = true) → DataW.TrodAll enc P W' 0 sp true f.params.toList args.toList (s.fn H (ds ++ gs)).args pa:=fun sp hsp=>by
  rw [hs]
  exact qo7 hl hb _ _ _ _ hA ht (fun x hx=>hlt x (List.mem_append_left _ hx)) (fun x hx=>hsp x (List.mem_append_left _ hx))
 have hvars:∀ sp:Nat → Bool,DataW.TrodVars enc P W' sp s.vars (s.fn H (ds ++ gs)).vars []:=fun sp=>by
  rw [hs,hv]; rfl
 refine ⟨ds,gs,pa ++ [],[],pa,[],hW,hres _ _ _,hargs _ (fun p hp=>by simpa using hlt p hp),hvars _,World.keptBut_mono (fun p hp=>⟨hp, ?_⟩) (hb.frame (· ∈ pa ++ [])),fun _ => ?_⟩
 ·rw [List.append_nil] at hp
  exact Or.inr (.inl hp)
 ·refine ⟨ok_one hr rfl (okWide_bool_mk hbt _),_,_,([] ++ pa) ++ [],⟨[] ++ pa,[],trodAll_append (hargs _ (fun _ _=>rfl)) (hres _ _ _),hvars _,rfl, ?_, ?_⟩, ?_⟩
  ·intro b off hp
   have hin:MemPlace.cell b off ∈ pa ++ []:=by simpa using hp
   rw [hb.frozen (hlt _ hin)]
   exact hz b off hin
  ·intro ha; cases ha
  ·intro p hp _
   simpa using hp
end
end Go.Proofs.Ytabadfkikdefeaa
