/- clock.truck: what it answers, and when satellites are ready behind it. -/
import Derived.Test.YtedahhjopmkbbaaGreatP5
set_option linter.all false
set_option maxRecDepth 100000
set_option maxHeartbeats 6400000
namespace Go.Proofs.YtedahhjopmkbbaaGreat
open Go.RowKit
def rts:List TypeId:=[2]
structure lrc7 (x:ca7) (st:TkS):Prop where
 now:0≤st.now∧st.now≤x.fin
 node:0≤st.node∧st.node<nodes x
 len:st.ready.length=x.sats.length
 rdy:∀v∈st.ready,0≤v∧v≤2000000000
theorem lrc7.get {x:ca7}{st:TkS}(h:lrc7 x st) (i:Nat):0≤st.ready.getD i 0∧st.ready.getD i 0≤2000000000:=by
 rw[List.getD_eq_getElem?_getD]
 by_cases hi:i<st.ready.length
 ·rw[List.getElem?_eq_getElem hi];exact h.rdy _ (List.getElem_mem hi)
 ·rw[List.getElem?_eq_none (by omega)];simp
theorem lrc7.step {x:ca7}(gd:Good x) {st st':TkS}{s:ba7}{v:Int}(h:lrc7 x st) (hs:bi7 x s) (he:pec7 x st s v=some st'):lrc7 x st':=by
 unfold pec7 nsc7 at he
 split at he
 ·rename_i hb
  cases he
  simp only[Bool.and_eq_true,decide_eq_true_eq]at hb
  have h1:=pe7 gd st.node (1+s.sat)
  have h2:=ax7 gd s.sat
  have h3:=h.get s.sat.toNat
  have h4:=h.now
  have h5:=gd.fin
  have h6:=hs.1
  refine⟨by show 0≤v∧v≤x.fin;omega,by show 0≤1+s.sat∧1+s.sat<(nodes x:Int);unfold nodes;omega,by rw[List.length_set];exact h.len,fun u hu=>?_⟩
  rcases List.mem_or_eq_of_mem_set hu with hu | rfl
  ·exact h.rdy u hu
  ·omega
 ·cases he
structure KSt (w0:World) (B qi qt gr:Nat) (ic tc:List Value) (ready:List Int) (w:World):Prop where
 inst:Row w qi 81 ic
 trk:Row w qt 69 tc
 res:Row w gr 2 (ready.map jc7)
 mu:Mut rts B w0 w
 gB:B≤gr
section
variable {w0 w w':World} {B qi qt gr:Nat} {ic tc:List Value} {ready:List Int}
theorem KSt.le (h:KSt w0 B qi qt gr ic tc ready w):B≤w.heap.size:=by have:=h.res.lt;have:=h.gB;omega
theorem KSt.below (h:KSt w0 B qi qt gr ic tc ready w) (hb:Below w.heap.size w w'):KSt w0 B qi qt gr ic tc ready w' :=
 ⟨h.inst.below hb,h.trk.below hb,h.res.below hb,h.mu.trans (Mut.below hb h.le),h.gB⟩
theorem KSt.set (h:KSt w0 B qi qt gr ic tc ready w) {j:Nat}(hj:j<ready.length) (v:Int):KSt w0 B qi qt gr ic tc (ready.set j v) (w.setCell ⟨gr,j,none⟩ (.int .i64 v)):=by
 have hr:=h.res.set (j:=j) (by rw[List.length_map];exact hj) (jc7 v)
 rw[← List.map_set]at hr
 have hm:=Mut.set (ts:=rts) h.res (by decide) h.gB j (jc7 v)
 exact⟨hm.row h.inst (by decide),hm.row h.trk (by decide),hr,h.mu.trans hm,h.gB⟩
theorem KSt.start {w:World}(hr:Row w gr 2 (ready.map jc7)) (hg:B≤gr) (ic tc:List Value) :
  KSt w B w.heap.size (w.heap.size+1) gr ic tc ready ((w.alloc (.cells ic.toArray 81)).alloc (.cells tc.toArray 69)):=by
 have h0:=FSt.start w 81 69 ic tc
 have hl:=hr.lt
 exact⟨h0.one,h0.two,hr.below h0.bel,Mut.below h0.bel (by omega),hg⟩
end
end Go.Proofs.YtedahhjopmkbbaaGreat
