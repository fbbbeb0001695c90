/- Texts of the proof, joined: HaulFits, ClockF. -/
import Derived.BigQuiet
import Derived.Test.YtedahhjopmkbbaaGreatCode
import Derived.Test.YtedahhjopmkbbaaGreatDraftW
set_option linter.all false
set_option maxRecDepth 100000
set_option maxHeartbeats 6400000
namespace Go.Proofs.YtedahhjopmkbbaaGreat
open Go.RowKit
theorem dlb7 (out:List (List ba7)) (s:ba7):((cb7 out s).map List.length).sum≤(out.map List.length).sum+1:=by
 by_cases h:0<out.length
 ·obtain⟨l,a,rfl⟩:=yo7 h
  rw[pj7]
  simp
  omega
 ·obtain rfl:=List.eq_nil_of_length_eq_zero (by omega:out.length=0)
  simp[cb7]
theorem ofb7 (many room:Int) (q:Bool) (st:List (List ba7)×Int):((readyQ many room q st).1.map List.length).sum=(st.1.map List.length).sum:=by
 unfold readyQ
 split
 ·simp
 ·rfl
theorem qdb7 (many room:Int) (q:Bool) (s:Nat):∀(f:Nat) (n:Int) (st:List (List ba7)×Int),((bx7 many room q s f n st).1.map List.length).sum≤(st.1.map List.length).sum+f
 | 0,_,st=>Nat.le_refl _
 | f+1,n,st=>by
  unfold bx7
  split
  ·omega
  ·have h1:=qdb7 many room q s f (n-min n (readyQ many room q st).2) (cb7 (readyQ many room q st).1 ⟨s,min n (readyQ many room q st).2⟩,(readyQ many room q st).2-min n (readyQ many room q st).2)
   have h2:=dlb7 (readyQ many room q st).1 ⟨s,min n (readyQ many room q st).2⟩
   rw[ofb7]at h2
   simp only[]at h1
   omega
theorem syb7 {x:ca7}{w:df7}{lo:List Int}(hl:∀s,lo.getD s 0≤6000):∀s,((dUp x w lo s).1.map List.length).sum≤6000*s
 | 0=>by simp[dUp]
 | s+1=>by
  have ih:=syb7 (x:=x) (w:=w) hl s
  have h:=qdb7 x.tmany x.troom (bsb7 w s) s (lo.getD s 0).toNat (lo.getD s 0) (dUp x w lo s)
  have:=hl s
  show ((bx7 x.tmany x.troom (bsb7 w s) s (lo.getD s 0).toNat (lo.getD s 0) (dUp x w lo s)).1.map List.length).sum≤_
  omega
theorem nlb7 {x:ca7}(w:df7) (hns:1≤x.sats.length∧x.sats.length≤3) (hnc:1≤x.custs.length∧x.custs.length≤6) (hcl:∀c∈x.custs,1≤c.load∧c.load≤1000) (htr:1≤x.troom):wx7 (fg7 x w):=by
 have hol:(jd7 x w).length=x.custs.length:=fh7 _ _
 have hk:=fk7 (x:=x) w (os:=jd7 x w) (fun c hc=>by have:=hcl c hc;omega) (by omega) (nk7 _ _) (jd7 x w).length (Nat.le_refl _)
 have hf:=vk7 w hns hnc hcl htr
 have hlv:∀s,(ib7 x w).1.getD s 0≤6000:=fun s=>by
  rw[List.getD_eq_getElem?_getD]
  by_cases hs:s<(ib7 x w).1.length
  ·rw[List.getElem?_eq_getElem hs]
   have:=hk.loB _ (List.getElem_mem hs)
   exact Int.le_trans this.2 (by rw[hol];omega)
  ·rw[List.getElem?_eq_none (by omega)];simp
 have hd:=syb7 (x:=x) (w:=w) hlv (ib7 x w).1.length
 have hll:(ib7 x w).1.length≤3:=by unfold ib7;rw[hk.loL];omega
 refine⟨?_, ?_⟩
 ·have h1:=rab7 (m:=100) (fun b hb=>(hf.bs b hb).2.1) (fg7 x w).bikes.length (Nat.le_refl _)
  have h2:=hf.bl
  have h3:100*(fg7 x w).bikes.length≤100*100:=Nat.mul_le_mul_left _ h2
  omega
 ·unfold kc7
  rw[List.take_length]
  have h3:6000*(ib7 x w).1.length≤6000*3:=Nat.mul_le_mul_left _ hll
  show ((dUp x w (ib7 x w).1 (ib7 x w).1.length).1.map List.length).sum≤_
  omega
structure FSt (w0:World) (e1 e2:TypeId) (ps ts:List Value) (w:World):Prop where
 bel:Below w0.heap.size w0 w
 one:Row w w0.heap.size e1 ps
 two:Row w (w0.heap.size+1) e2 ts
theorem FSt.below {w0 w w':World}{e1 e2:TypeId}{ps ts:List Value}(h:FSt w0 e1 e2 ps ts w) (hb:Below w.heap.size w w'):FSt w0 e1 e2 ps ts w':=⟨pa7 h.bel hb,h.one.below hb,h.two.below hb⟩
theorem FSt.start (w0:World) (e1 e2:TypeId) (ps ts:List Value):FSt w0 e1 e2 ps ts ((w0.alloc (.cells ps.toArray e1)).alloc (.cells ts.toArray e2)):=by
 have h1:=(Row.new (w:=w0) (g:=w0.heap.size) (e:=e1) (cs:=ps) rfl).alloc (.cells ts.toArray e2)
 have h2:=Row.new (w:=w0.alloc (.cells ps.toArray e1)) (e:=e2) (cs:=ts) rfl
 rw[show (w0.alloc (.cells ps.toArray e1)).heap.size=w0.heap.size+1 by simp]at h2
 exact⟨((Below.refl _ _).alloc (Nat.le_refl _) _).alloc (by simp) _,h1,h2⟩
theorem FSt.alloc {w0 w:World}{e1 e2:TypeId}{ps ts:List Value}(h:FSt w0 e1 e2 ps ts w) (b:Obj):FSt w0 e1 e2 ps ts (w.alloc b):=h.below ((Below.refl _ _).alloc (Nat.le_refl _) b)
theorem FSt.drewN {w0 w:World}{e1 e2:TypeId}{ps ts:List Value}(h:FSt w0 e1 e2 ps ts w) (n:Nat):FSt w0 e1 e2 ps ts (w.drewN n):=h.below (below_drewN (Below.refl _ _) n)
end Go.Proofs.YtedahhjopmkbbaaGreat
