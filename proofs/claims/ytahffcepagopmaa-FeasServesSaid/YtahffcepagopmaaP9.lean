/- Texts of the proof, joined: HaulFits, More, Open, Open2, Law. -/
import Derived.BigQuiet
import Derived.Deep.DeepCutAuto
import Derived.Test.YtahffcepagopmaaProg
import Derived.Deep.Slices
import Derived.OpenShut
import Derived.Test.YtahffcepagopmaaRows
import Derived.ProofKit
import Derived.Test.YtahffcepagopmaaCode
set_option linter.all false
set_option maxRecDepth 100000
set_option maxHeartbeats 6400000
namespace Go.Proofs.Ytahffcepagopmaa
open Go.RowKit
theorem rfb7 (out:List (List da7)) (s:da7):((vb7 out s).map List.length).sum ≤ (out.map List.length).sum + 1:=by
 by_cases h:0 < out.length
 ·obtain ⟨l,a,rfl⟩:=iv7 h
  rw [qm7]
  simp
  omega
 ·obtain rfl:=List.eq_nil_of_length_eq_zero (by omega:out.length = 0)
  simp [vb7]
theorem kkb7 (many room:Int) (q:Bool) (st:List (List da7) × Int):((readyQ many room q st).1.map List.length).sum = (st.1.map List.length).sum:=by
 unfold readyQ
 split
 ·simp
 ·rfl
theorem khb7 (many room:Int) (q:Bool) (s:Nat):∀ (f:Nat) (n:Int) (st:List (List da7) × Int),((cz7 many room q s f n st).1.map List.length).sum ≤ (st.1.map List.length).sum + f
 | 0,_,st=>Nat.le_refl _
 | f + 1,n,st=>by
  unfold cz7
  split
  ·omega
  ·have h1:=khb7 many room q s f (n - min n (readyQ many room q st).2) (vb7 (readyQ many room q st).1 ⟨s,min n (readyQ many room q st).2⟩,(readyQ many room q st).2 - min n (readyQ many room q st).2)
   have h2:=rfb7 (readyQ many room q st).1 ⟨s,min n (readyQ many room q st).2⟩
   rw [kkb7] at h2
   simp only [] at h1
   omega
theorem beb7 {x:ba7} {w:uf7} {lo:List Int} (hl:∀ s,lo.getD s 0 ≤ 6000):∀ s,((dUp x w lo s).1.map List.length).sum ≤ 6000 * s
 | 0=>by simp [dUp]
 | s + 1=>by
  have ih:=beb7 (x:=x) (w:=w) hl s
  have h:=khb7 x.tmany x.troom (mpb7 w s) s (lo.getD s 0).toNat (lo.getD s 0) (dUp x w lo s)
  have:=hl s
  show ((cz7 x.tmany x.troom (mpb7 w s) s (lo.getD s 0).toNat (lo.getD s 0) (dUp x w lo s)).1.map List.length).sum ≤ _
  omega
theorem ueb7 {x:ba7} (w:uf7) (hns:1 ≤ x.sats.length ∧ x.sats.length ≤ 3) (hnc:1 ≤ x.custs.length ∧ x.custs.length ≤ 6) (hcl:∀ c ∈ x.custs,1 ≤ c.load ∧ c.load ≤ 1000) (htr:1 ≤ x.troom):yb7 (yh7 x w):=by
 have hol:(kg7 x w).length = x.custs.length:=oh7 _ _
 have hk:=xj7 (x:=x) w (os:=kg7 x w) (fun c hc=>by have:=hcl c hc; omega) (by omega) (hk7 _ _) (kg7 x w).length (Nat.le_refl _)
 have hf:=si7 w hns hnc hcl htr
 have hlv:∀ s,(zb7 x w).1.getD s 0 ≤ 6000:=fun s=>by
  rw [List.getD_eq_getElem?_getD]
  by_cases hs:s < (zb7 x w).1.length
  ·rw [List.getElem?_eq_getElem hs]
   have:=hk.loB _ (List.getElem_mem hs)
   exact Int.le_trans this.2 (by rw [hol]; omega)
  ·rw [List.getElem?_eq_none (by omega)]; simp
 have hd:=beb7 (x:=x) (w:=w) hlv (zb7 x w).1.length
 have hll:(zb7 x w).1.length ≤ 3:=by unfold zb7; rw [hk.loL]; omega
 refine ⟨?_, ?_⟩
 ·have h1:=er7 (m:=100) (fun b hb=>(hf.bs b hb).2.1) (yh7 x w).bikes.length (Nat.le_refl _)
  have h2:=hf.bl
  have h3:100 * (yh7 x w).bikes.length ≤ 100 * 100:=Nat.mul_le_mul_left _ h2
  omega
 ·unfold ya7
  rw [List.take_length]
  have h3:6000 * (zb7 x w).1.length ≤ 6000 * 3:=Nat.mul_le_mul_left _ hll
  show ((dUp x w (zb7 x w).1 (zb7 x w).1.length).1.map List.length).sum ≤ _
  omega
def tw7 (l:List Int) (n:Int):Int:=if l.length = 0 then 0 else l.getD (n.toNat % l.length) 0
theorem mdc7:∀ w,(sizeOf 71).run Try.prog w = .ok 1 w:=fun w=>by kernel_rfl
theorem axb7 {w:World} {gn gs b off c:Nat} {a:Option Addr} {x n:Int} {l:List Int} (R:Row w gn 3 [.int .i64 n]) (hs:w.cell? ⟨gs,0,none⟩ = some (.slice a l.length c)) (hne:gs ≠ gn) (hbn:b ≠ gn) (ha:0 < l.length → a = some ⟨b,off,none⟩)
  (hl:∀ k (h:k < l.length),w.cell? ⟨b,off + k,none⟩ = some (.int .i8 l[k]) ∧ -128 ≤ l[k] ∧ l[k] ≤ 127) (hn:0 ≤ n ∧ n ≤ 1000000000000) (hx : -10000000000000000 ≤ x ∧ x ≤ 10000000000000000) (hll:l.length ≤ 9223372036854775807) :
  Calls Try.prog 28 #[.int .i64 x, .pointer (some ⟨gn,0,none⟩), .pointer (some ⟨gs,0,none⟩)] w fun e w'=>e = .returned (.int .i64 (x + tw7 l n)) ∧ Below (w.setCell ⟨gn,0,none⟩ (.int .i64 (n + 1))).heap.size (w.setCell ⟨gn,0,none⟩ (.int .i64 (n + 1))) w':=by
 have c0:=R.cell (j:=0) (by simp)
 have f0:=R.frozen 0
 simp only [List.getElem_cons_zero] at c0
 have R1:=R.set (j:=0) (by simp) (.int .i64 (n + 1))
 have d0:=R1.cell (j:=0) (by simp)
 simp only [List.set_cons_zero,List.getElem_cons_zero] at d0
 have hs1:(w.setCell ⟨gn,0,none⟩ (.int .i64 (n + 1))).cell? ⟨gs,0,none⟩ = some (.slice a l.length c):=by
  rw [World.cell?_of_block (Below.heap_setCell _ _ _ _ hne)]; exact hs
 have hl1:∀ k (h:k < l.length),(w.setCell ⟨gn,0,none⟩ (.int .i64 (n + 1))).cell? ⟨b,off + k,none⟩ = some (.int .i8 l[k]):=fun k h=>by
  rw [World.cell?_of_block (Below.heap_setCell _ _ _ _ hbn)]; exact (hl k h).1
 have HL:=hid hl
 have HA:=hid ha
 clear hl ha R R1 hs
 go_enter Try.func28,Try.ntmps28
 go_upto_region 2 with fail
 generalize hw1:w.setCell ⟨gn,0,none⟩ (.int .i64 (n + 1)) = w1 at d0 hs1 hl1 ⊢
 have HW:=hid hw1
 clear hw1
 clear c0 f0
 by_cases hz:l.length = 0
 ·have HZ:=hid hz
  have hb:decide ((l.length:Int) = 0) = true:=decide_eq_true (by omega)
  go_wp2
  go_ret
  exact ⟨ib7 (by unfold tw7; rw [if_pos HZ.out,Int.add_zero]),by rw [HW.out]; exact Below.refl _ _⟩
 ·have hb:decide ((l.length:Int) = 0) = false:=decide_eq_false (by omega)
  obtain ⟨k,hk⟩:∃ k,k = n.toNat % l.length:=⟨_,rfl⟩
  have hkl:k < l.length:=by rw [hk]; exact Nat.mod_lt _ (by omega)
  have hrem:n % (l.length:Int) = (k:Int):=by
   obtain ⟨m,rfl⟩:=Int.eq_ofNat_of_zero_le hn.1
   rw [hk]; rfl
  have he:=HA.out (by omega)
  subst he
  have ia:∀ w,(Instr.indexAt 29 (.slice (some ⟨b,off,none⟩) l.length c) (.int .i64 (n % (l.length:Int)))).run Try.prog w = .ok (.pointer (some ⟨b,off + k,none⟩)) w:=fun w=>by rw [hrem]; exact ga7 (c:=c) Try.underlying29 mdc7 (a:=some ⟨b,off,none⟩) rfl hkl w
  have hc:=hl1 k hkl
  have hbd:=(HL.out k hkl).2
  have HADD:=hid (show tw7 l n = l[k] from by unfold tw7; rw [if_neg hz, ← hk,List.getD_eq_getElem?_getD,List.getElem?_eq_getElem hkl]; rfl)
  generalize l[k] = q at hc hbd HADD
  clear hrem hk
  go_wp2_with fail
  have zd:∀ e:At (Old w1),_:=fun e=>e.cell d0
  have zs:∀ e:At (Old w1),_:=fun e=>e.cell hs1
  have zc:∀ e:At (Old w1),_:=fun e=>e.cell hc
  refine ja7 (Old w1) [] [([0,1,2,3,4,5,6,7,8,9,10,11,12],13,false)] (by kernel_rfl) (by kernel_rfl) (fun _ _ d _ _ h=>by cases d <;> exact h) (Old.drew _) ?_
  simp only [nc7,List.map_cons,List.map_nil,Array.getD_eq_getD_getElem?,List.getElem?_toArray,List.getElem?_cons_succ,List.getElem?_cons_zero,Option.getD_some,me7]
  repeat (go_big_quiet_step (fail))
  refine wpQuiet_nil ?_
  go_wp2_with fail
  refine ⟨Old.drew _, ?_⟩
  go_wp2
  go_ret
  exact ⟨ib7 (by rw [HADD.out]),by rw [HW.out]; exact Old.drew _⟩
def tl7 {α:Type} (P:Program) (t:TypeId) (S:Shape α):Prop :=
 ∀ (H:Type) (enc:TypeId × Value → H) (w:World) (base:Nat) (spare:Nat → Bool) (held:Bool) (fuel:Nat) (cs:List Value) (x:DataW H × List MemPlace),DataW.trod enc P w base spare held fuel t cs = some x → ∃ y,S.rep w (fun _=>True) y cs
theorem nkb7 {P:Program} {t:TypeId} (ht:P.underlying t = some (.int .i64)):tl7 P t ig7:=by
 intro H enc w base spare held fuel cs x h
 cases fuel with
 | zero=>simp [DataW.trod] at h
 | succ n =>
  unfold DataW.trod at h
  rw [ht] at h
  split at h <;> simp_all
  rename_i k2 m e
  obtain ⟨⟨_,hw⟩, -⟩:=h
  subst e
  refine ⟨m,rfl, ?_⟩
  simpa [Lit.wf,IntKind.min,IntKind.max,IntKind.signed,IntKind.bits,ua7] using hw
theorem gsb7 {P:Program} {t:TypeId} (ht:P.underlying t = some (.int .u8)):tl7 P t u8S:=by
 intro H enc w base spare held fuel cs x h
 cases fuel with
 | zero=>simp [DataW.trod] at h
 | succ n =>
  unfold DataW.trod at h
  rw [ht] at h
  split at h <;> simp_all
  rename_i k2 m e
  obtain ⟨⟨_,hw⟩, -⟩:=h
  subst e
  refine ⟨m,rfl, ?_⟩
  simpa [Lit.wf,IntKind.min,IntKind.max,IntKind.signed,IntKind.bits,ua7] using hw
def mtb7:Shape Bool:=oc7 1 (fun x cs=>cs = [.bool x]) (by rintro x cs rfl; rfl)
theorem rib7 {P:Program} {t:TypeId} (ht:P.underlying t = some .bool):tl7 P t mtb7:=by
 intro H enc w base spare held fuel cs x h
 cases fuel with
 | zero=>simp [DataW.trod] at h
 | succ n =>
  unfold DataW.trod at h
  rw [ht] at h
  split at h
  all_goals first | exact ⟨_,rfl⟩ | simp_all
theorem akb7 {α:Type} {p:Nat → α → Prop}:∀ (n:Nat),(∀ i,i < n → ∃ x,p i x) → ∃ xs:List α,xs.length = n ∧ ∀ i (h:i < xs.length),p i xs[i]
 | 0,_=>⟨[],rfl,fun _ h=>absurd h (Nat.not_lt_zero _)⟩
 | n + 1,h=>by
  obtain ⟨xs,hl,hx⟩:=akb7 n fun i hi=>h i (by omega)
  obtain ⟨x,hp⟩:=h n (by omega)
  refine ⟨xs ++ [x],by simp [hl],fun i hi => ?_⟩
  by_cases hlt:i < xs.length
  ·rw [List.getElem_append_left hlt]; exact hx i hlt
  ·have:i = n:=by simp at hi; omega
   subst this
   rw [List.getElem_append_right (by omega)]
   simpa [hl] using hp
theorem gob7 {w:World} {a:Addr} {v:Value} (h:w.cell? a = some v):a.spot = none:=by
 unfold World.cell? at h
 split at h
 ·split at h
  ·cases h
  ·rename_i hs; simpa using hs
 ·cases h
theorem sk7 {α:Type} {P:Program} {t e:TypeId} {S:Shape α} {h0:0 < S.sz} (ht:P.underlying t = some (.slice e)) (hc:P.cellsOf e = S.sz) (he:tl7 P e S):tl7 P t (la7 S h0):=by
 intro H enc w base spare held fuel cs x h
 rcases Deep.open_slice ht h with ⟨rfl, -⟩ | ⟨a,len,cap,m,n,D,Pl,rfl, -,hl,hm,hmm, -,hx⟩
 ·exact ⟨[],none,0,0,0,rfl,Nat.le_refl _,Nat.zero_le _,fun h=>absurd h (Nat.not_lt_zero _),fun i h=>absurd h (Nat.not_lt_zero _)⟩
 ·have hlm:len ≤ m:=by rw [hmm]; split <;> omega
  obtain ⟨xs,hxl,hxs⟩:=akb7 (p:=fun i y => ∃ es,S.rep w (fun _=>True) y es ∧ ∀ j,j < S.sz → w.cell? ((a.add (i * S.sz)).add j) = es[j]?) len (fun i hi=>by
   obtain ⟨cs',h1,h2⟩:=hx i (by omega)
   obtain ⟨y,hy⟩:=he _ _ _ _ _ _ _ _ _ h2
   rw [hc] at h1
   obtain ⟨_,_,h3⟩:=World.cells?_some h1
   exact ⟨y,cs',hy,h3⟩)
  obtain ⟨b,off,spot⟩:=a
  subst hxl
  have hsp:0 < xs.length → spot = none:=fun hpos=>by
   obtain ⟨es,hr,hce⟩:=hxs 0 hpos
   have hle:=S.len hr
   have:=hce 0 h0
   rw [List.getElem?_eq_getElem (by omega),Nat.zero_mul] at this
   simpa [Addr.add] using gob7 this
  refine ⟨xs,some ⟨b,off,spot⟩,b,off,cap,rfl,hl,hm,fun hpos=>⟨by rw [hsp hpos],trivial⟩,fun i hi => ?_⟩
  obtain rfl:=hsp (by omega)
  obtain ⟨es,hr,hce⟩:=hxs i hi
  refine ⟨es,hr,fun j hj => ?_⟩
  rw [← hce j hj]
  congr 1
  by_cases e1:i * S.sz = 0 <;> by_cases e2:j = 0 <;> simp [Addr.add,e1,e2]
theorem id7 {P:Program} {t:TypeId} {fs:Array Field} {H:Type} {enc:TypeId × Value → H} {w:World} {base:Nat} {spare:Nat → Bool} {held:Bool} {fuel:Nat} {cs:List Value} {x:DataW H × List MemPlace}
  (ht:P.underlying t = some (.struct fs)) (h:DataW.trod enc P w base spare held fuel t cs = some x) (i ft o k:Nat) (hf:(fs[i]?).map (fun f=>(f.type,f.offset)) = some (ft,o)) (hk:P.cellsOf ft = k) :
  ∃ n y,DataW.trod enc P w base spare held n ft ((cs.drop o).take k) = some y:=by
 obtain ⟨xs,n, -, -, -,hl,hx⟩:=DataW.trod_struct ht h
 obtain ⟨f,hf1,hf2⟩:=Option.map_eq_some_iff.1 hf
 simp only [Prod.mk.injEq] at hf2
 obtain ⟨rfl,rfl⟩:=hf2
 have h1:=hx i f hf1
 have hi:i < xs.length:=by
  rw [hl]
  exact (Array.getElem?_eq_some_iff.1 hf1).1
 rw [List.getElem?_eq_getElem hi,hk] at h1
 exact ⟨n,_,h1⟩
theorem ip7 {P:Program} {t:TypeId} {fs:Array Field} {H:Type} {enc:TypeId × Value → H} {w:World} {base:Nat} {spare:Nat → Bool} {held:Bool} {fuel:Nat} {cs:List Value} {x:DataW H × List MemPlace}
  (ht:P.underlying t = some (.struct fs)) (h:DataW.trod enc P w base spare held fuel t cs = some x):cs.length = P.cellsOf t:=by
 obtain ⟨xs,n, -, -,hl, -⟩:=DataW.trod_struct ht h
 exact hl
theorem at7:Try.prog.cellsOf 5 = 1:=by kernel_rfl
theorem iob7:Try.prog.cellsOf 4 = 1:=by kernel_rfl
theorem to7:tl7 Try.prog 5 u8S:=gsb7 Try.underlying5
theorem jyb7:tl7 Try.prog 2 ig7:=nkb7 Try.underlying2
theorem mkb7:tl7 Try.prog 4 mtb7:=rib7 Try.underlying4
theorem eq7:tl7 Try.prog 24 cd7:=sk7 (S:=u8S) Try.underlying24 at7 to7
theorem gtb7:tl7 Try.prog 82 hfb7:=by
 intro H enc w base spare held fuel cs x h
 have hl:cs.length = 2:=(ip7 Try.underlying82 h).trans (by kernel_rfl)
 match cs,hl with
 | [v0,v1],_ =>
  obtain ⟨n0,y0,f0⟩:=id7 Try.underlying82 h 0 5 0 1 rfl at7
  obtain ⟨n1,y1,f1⟩:=id7 Try.underlying82 h 1 5 1 1 rfl at7
  obtain ⟨a0,e0,w0⟩:=to7 _ _ _ _ _ _ _ _ _ f0
  obtain ⟨a1,e1,w1⟩:=to7 _ _ _ _ _ _ _ _ _ f1
  simp at e0 e1
  subst e0; subst e1
  exact ⟨⟨a0,a1⟩,rfl,w0,w1⟩
theorem evb7:tl7 Try.prog 86 tab7:=by
 intro H enc w base spare held fuel cs x h
 have hl:cs.length = 4:=(ip7 Try.underlying86 h).trans (by kernel_rfl)
 match cs,hl with
 | [v0,v1,v2,v3],_ =>
  obtain ⟨n0,y0,f0⟩:=id7 Try.underlying86 h 0 5 0 1 rfl at7
  obtain ⟨n1,y1,f1⟩:=id7 Try.underlying86 h 1 5 1 1 rfl at7
  obtain ⟨n2,y2,f2⟩:=id7 Try.underlying86 h 2 5 2 1 rfl at7
  obtain ⟨n3,y3,f3⟩:=id7 Try.underlying86 h 3 5 3 1 rfl at7
  obtain ⟨a0,e0,w0⟩:=to7 _ _ _ _ _ _ _ _ _ f0
  obtain ⟨a1,e1,w1⟩:=to7 _ _ _ _ _ _ _ _ _ f1
  obtain ⟨a2,e2,w2⟩:=to7 _ _ _ _ _ _ _ _ _ f2
  obtain ⟨a3,e3,w3⟩:=to7 _ _ _ _ _ _ _ _ _ f3
  simp at e0 e1 e2 e3
  subst e0; subst e1; subst e2; subst e3
  exact ⟨⟨a0,a1,a2,a3⟩,rfl,w0,w1,w2,w3⟩
theorem rqb7:tl7 Try.prog 22 rx7:=sk7 (S:=hfb7) Try.underlying22 (by kernel_rfl) gtb7
theorem upb7:tl7 Try.prog 23 ny7:=sk7 (S:=tab7) Try.underlying23 (by kernel_rfl) evb7
theorem fsb7:tl7 Try.prog 26 bp7:=by
 intro H enc w base spare held fuel cs x h
 have hl:cs.length = 11:=(ip7 Try.underlying26 h).trans (by kernel_rfl)
 match cs,hl with
 | [v0,v1,v2,v3,v4,v5,v6,v7,v8,v9,v10],_ =>
  obtain ⟨_,_,f0⟩:=id7 Try.underlying26 h 0 5 0 1 rfl at7
  obtain ⟨_,_,f1⟩:=id7 Try.underlying26 h 1 5 1 1 rfl at7
  obtain ⟨_,_,f2⟩:=id7 Try.underlying26 h 2 5 2 1 rfl at7
  obtain ⟨_,_,f3⟩:=id7 Try.underlying26 h 3 5 3 1 rfl at7
  obtain ⟨_,_,f4⟩:=id7 Try.underlying26 h 4 5 4 1 rfl at7
  obtain ⟨_,_,f5⟩:=id7 Try.underlying26 h 5 22 5 1 rfl (by kernel_rfl)
  obtain ⟨_,_,f6⟩:=id7 Try.underlying26 h 6 23 6 1 rfl (by kernel_rfl)
  obtain ⟨_,_,f7⟩:=id7 Try.underlying26 h 7 24 7 1 rfl (by kernel_rfl)
  obtain ⟨_,_,f8⟩:=id7 Try.underlying26 h 8 24 8 1 rfl (by kernel_rfl)
  obtain ⟨_,_,f9⟩:=id7 Try.underlying26 h 9 4 9 1 rfl iob7
  obtain ⟨_,_,f10⟩:=id7 Try.underlying26 h 10 4 10 1 rfl iob7
  obtain ⟨a0,e0,w0⟩:=to7 _ _ _ _ _ _ _ _ _ f0
  obtain ⟨a1,e1,w1⟩:=to7 _ _ _ _ _ _ _ _ _ f1
  obtain ⟨a2,e2,w2⟩:=to7 _ _ _ _ _ _ _ _ _ f2
  obtain ⟨a3,e3,w3⟩:=to7 _ _ _ _ _ _ _ _ _ f3
  obtain ⟨a4,e4,w4⟩:=to7 _ _ _ _ _ _ _ _ _ f4
  obtain ⟨a5,r5⟩:=rqb7 _ _ _ _ _ _ _ _ _ f5
  obtain ⟨a6,r6⟩:=upb7 _ _ _ _ _ _ _ _ _ f6
  obtain ⟨a7,r7⟩:=eq7 _ _ _ _ _ _ _ _ _ f7
  obtain ⟨a8,r8⟩:=eq7 _ _ _ _ _ _ _ _ _ f8
  obtain ⟨a9,e9⟩:=mkb7 _ _ _ _ _ _ _ _ _ f9
  obtain ⟨a10,e10⟩:=mkb7 _ _ _ _ _ _ _ _ _ f10
  simp [mtb7,oc7] at e0 e1 e2 e3 e4 e9 e10
  subst e0; subst e1; subst e2; subst e3; subst e4; subst e9; subst e10
  exact ⟨⟨a0,a1,a2,a3,a4,a5,a6,a7,a8,a9,a10⟩,v5,v6,v7,v8,rfl,⟨w0,w1,w2,w3,w4⟩,r5,r6,r7,r8⟩
theorem xr7 {P:Program} {w:World} {r:Reach} {base:Nat} {t:TypeId} {fs:Array Field} {v:Value} (ht:P.underlying t = some (.struct fs)) (h:Value.okWide P w r base t v):∃ cs:List Value,v = .agg cs.toArray ∧ v.cells.toList = cs:=by
 unfold Value.okWide at h
 rw [ht] at h
 obtain ⟨cs,rfl, -⟩:=h
 exact ⟨cs.toList,by simp,by simp [Value.cells]⟩
open Go.RowKit Go.ChangeShapes
def i8S:Shape Int:=oc7 1 (fun x cs=>cs = [.int .i8 x] ∧ (-128 ≤ x ∧ x ≤ 127)) (by rintro x cs ⟨rfl,_⟩; rfl)
theorem qpb7 {P:Program} {t:TypeId} (ht:P.underlying t = some (.int .i8)):tl7 P t i8S:=by
 intro H enc w base spare held fuel cs x h
 cases fuel with
 | zero=>simp [DataW.trod] at h
 | succ n =>
  unfold DataW.trod at h
  rw [ht] at h
  split at h <;> simp_all
  rename_i k2 m e
  obtain ⟨⟨_,hw⟩, -⟩:=h
  subst e
  refine ⟨m,rfl, ?_⟩
  simpa [Lit.wf,IntKind.min,IntKind.max,IntKind.signed,IntKind.bits] using hw
theorem dzb7:tl7 Try.prog 71 i8S:=qpb7 Try.underlying71
theorem bwb7:tl7 Try.prog 28 veb7:=by
 intro H enc w base spare held fuel cs x h
 have hl:cs.length = 3:=(ip7 Try.underlying28 h).trans (by kernel_rfl)
 match cs,hl with
 | [v0,v1,v2],_ =>
  obtain ⟨_,_,f0⟩:=id7 Try.underlying28 h 0 24 0 1 rfl (by kernel_rfl)
  obtain ⟨_,_,f1⟩:=id7 Try.underlying28 h 1 24 1 1 rfl (by kernel_rfl)
  obtain ⟨_,_,f2⟩:=id7 Try.underlying28 h 2 24 2 1 rfl (by kernel_rfl)
  obtain ⟨a0,r0⟩:=eq7 _ _ _ _ _ _ _ _ _ f0
  obtain ⟨a1,r1⟩:=eq7 _ _ _ _ _ _ _ _ _ f1
  obtain ⟨a2,r2⟩:=eq7 _ _ _ _ _ _ _ _ _ f2
  exact ⟨⟨a0,a1,a2⟩,v0,v1,v2,rfl,r0,r1,r2⟩
theorem cab7 {P:Program} {w:World} {r:Reach} {base:Nat} {t:TypeId} {k:IntKind} {v:Value} (ht:P.underlying t = some (.int k)) (h:Value.okWide P w r base t v):v.cells.toList = [v]:=by
 unfold Value.okWide at h
 rw [ht] at h
 simp only [Cell.okWide,ht] at h
 cases v <;> simp_all [Value.cells,Cell.ok]
section
variable {H:Type} {enc:TypeId × Value → H} {P:Program} {w:World} {base:Nat} {spare:Nat → Bool} {held:Bool}
end
open Go.RowKit Go.WideShapes Go.ChangeShapes
theorem Try.own:ownKnob Try.prog.godebug = none:=by kernel_rfl
theorem Try.laid:laidOutB Try.prog = true:=by kernel_rfl
section
variable {H:Type} {enc:TypeId × Value → H} {P:Program}
theorem wq7 (hl:laidOutB P = true) {W W':World} (hb:Below W.heap.size W W') {sp:Nat → Bool}:∀ (ts:List TypeId) (vs:List Value) (ds:List (DataW H)) (ps:List MemPlace),DataW.TrodAll enc P W 0 (fun _=>true) true ts vs ds ps →
  (∀ t ∈ ts,P.readableRec t = true ∧ t < P.types.size) → (∀ x ∈ ps,x.block < W.heap.size) → (∀ x ∈ ps,sp x.block = true) → DataW.TrodAll enc P W' 0 sp true ts vs ds ps
 | [],[],[],_,h,_,_,_=>h
 | t :: ts,v :: vs,d :: ds,ps,h,ht,hlt,hsp=>by
  obtain ⟨p,q,h1,h2,rfl⟩:=h
  exact ⟨p,q,WideElems.Trod_stays hl (ht t (List.mem_cons_self ..)).1 (ht t (List.mem_cons_self ..)).2 h1 (fun x hx=>hb.same (hlt x (List.mem_append_left _ hx))) (fun x hx=>hsp x (List.mem_append_left _ hx)),
   wq7 hl hb ts vs ds q h2 (fun t h=>ht t (List.mem_cons_of_mem _ h)) (fun x hx=>hlt x (List.mem_append_right _ hx)) (fun x hx=>hsp x (List.mem_append_right _ hx)),rfl⟩
 | [],_ :: _,_,_,h,_,_,_=>h.elim
 | [],[],_ :: _,_,h,_,_,_=>h.elim
 | _ :: _,[],_,_,h,_,_,_=>h.elim
 | _ :: _,_ :: _,[],_,h,_,_,_=>h.elim
theorem esb7 {f:Func} {s:ChangeSpec} {fresh handsOn again:Bool} {W W':World} {args:Array Value} {ds gs:List (DataW H)} {before:List MemPlace} {bt:TypeId} (hl:laidOutB P = true)
  (hW:DataW.Whole enc P f.params.toList s.vars false W args.toList ds gs before) (hv:s.vars = []) (hs:s.fn H (ds ++ gs) = { results:=[.lit (.bool true)],args:=ds }) (hr:f.resultTypes = #[bt]) (hbt:P.underlying bt = some .bool)
  (ht:∀ t ∈ f.params.toList,P.readableRec t = true ∧ t < P.types.size) (hb:Below W.heap.size W W'):s.post enc P f false fresh handsOn again W args (.bool true) W':=by
 have hlt:∀ p ∈ before,p.block < W.heap.size:=fun p hp=>hW.lt p hp
 have hW2:=hW
 obtain ⟨pa,pv,hA,hV,rfl,hz, -⟩:=hW2
 have hpv:pv = []:=by
  rw [hv] at hV
  cases gs with
  | nil=>exact hV
  | cons g gs=>exact hV.elim
 have hgs:gs = []:=by
  rw [hv] at hV
  cases gs with
  | nil=>rfl
  | cons g gs=>exact hV.elim
 subst hpv
 have hres:∀ (b:Nat) (sp:Nat → Bool) (hd:Bool),DataW.TrodAll enc P W' b sp hd f.resultTypes.toList ((Value.bool true).resultList f.resultTypes.size) (s.fn H (ds ++ gs)).results []:=fun b sp hd=>by
  rw [hs,hr]
  exact trodAll_mk1 (shut_bool hbt _)
 have hargs:∀ sp:Nat → Bool,(∀ p ∈ pa ++ [],sp p.block = true) → DataW.TrodAll enc P W' 0 sp true f.params.toList args.toList (s.fn H (ds ++ gs)).args pa:=fun sp hsp=>by
  rw [hs]
  exact wq7 hl hb _ _ _ _ hA ht (fun x hx=>hlt x (List.mem_append_left _ hx)) (fun x hx=>hsp x (List.mem_append_left _ hx))
 have hvars:∀ sp:Nat → Bool,DataW.TrodVars enc P W' sp s.vars (s.fn H (ds ++ gs)).vars []:=fun sp=>by
  rw [hs,hv]; rfl
 refine ⟨ds,gs,pa ++ [],[],pa,[],hW,hres _ _ _,hargs _ (fun p hp=>by simpa using hlt p hp),hvars _,World.keptBut_mono (fun p hp=>⟨hp, ?_⟩) (hb.frame (· ∈ pa ++ [])),fun _ => ?_⟩
 ·rw [List.append_nil] at hp
  exact Or.inr (.inl hp)
 ·refine ⟨ok_one hr rfl (okWide_bool_mk hbt _),_,_,([] ++ pa) ++ [],⟨[] ++ pa,[],trodAll_append (hargs _ (fun _ _=>rfl)) (hres _ _ _),hvars _,rfl, ?_, ?_⟩, ?_⟩
  ·intro b off hp
   have hin:MemPlace.cell b off ∈ pa ++ []:=by simpa using hp
   rw [hb.frozen (hlt _ hin)]
   exact hz b off hin
  ·intro ha; cases ha
  ·intro p hp _
   simpa using hp
end
end Go.Proofs.Ytahffcepagopmaa
