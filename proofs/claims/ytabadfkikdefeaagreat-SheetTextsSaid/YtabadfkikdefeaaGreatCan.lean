/- wharfagelaw18.Can, by the abstract machine. -/
import Derived.Test.YtabadfkikdefeaaGreatR3
set_option linter.all false
set_option maxRecDepth 100000
set_option maxHeartbeats 6400000
namespace Go.Proofs.YtabadfkikdefeaaGreat.Ab
open Go.RowKit
theorem ki7 {α:Type}{l:List α}{k:Nat}(h:k<l.length) (z:α):l.getD k z=l[k]:=by
 rw[List.getD_eq_getElem?_getD,List.getElem?_eq_getElem h];rfl
theorem axb7 (x:ba7) {c:Int}(h:zc7 x c) (g:Good x):PCall Tryz.prog 78 [.agg (ni7 x),.c (I6 c)] (fun r=>r = .c (.int .i64 (1+x.sats.length+c))):=by
 refine vg7 ko7 (by kernel_rfl) (fun _=>([],0,none)) Tryz.func78 rfl (by kernel_rfl) Tryz.ntmps78 (congrArg Array.toList Tryz.results78) (by kernel_rfl) (by simp) ?_
 simp -implicitDefEqProofs only [go_sem,ni7]
 have:=g.sats;have:=g.custs;unfold zc7 at h
 omega
theorem zab7 {x:ba7}(g:Good x) {c:Int}(h:zc7 x c):(0≤(yb7 x c).opn∧(yb7 x c).opn≤1000000000)∧0≤(yb7 x c).stay∧(yb7 x c).stay≤1000000000:=by
 unfold zc7 at h
 have:=g.cust (yb7 x c) (fh7 (by omega) _)
 exact⟨this.2.1,this.2.2.2⟩
end Go.Proofs.YtabadfkikdefeaaGreat.Ab
