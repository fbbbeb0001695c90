/- wharfagelaw18.Can, by the abstract machine. -/
import Derived.Test.YtafhjfkdlmijdaaR2
set_option linter.all false
namespace Go.Proofs.Ytafhjfkdlmijdaa.Ab
open Go.RowKit
theorem getD_of {α : Type} {l : List α} {k : Nat} (h : k < l.length) (z : α) : l.getD k z = l[k] := by
 rw [List.getD_eq_getElem?_getD, List.getElem?_eq_getElem h]; rfl
set_option maxRecDepth 100000
set_option linter.unusedSimpArgs false
set_option maxHeartbeats 2000000
theorem at_p (x : InstD) {c : Int} (h : CustOk x c) (g : Good x) : PCall Try.prog 73 [.agg (eInst x), .c (I6 c)] (fun r => r = .c (.int .i64 (1 + x.sats.length + c))) := by
 refine pcall_of ty_ok (by kernel_rfl) (fun _ => ([], 0, none)) Try.func73 rfl (by kernel_rfl) Try.ntmps73 (congrArg Array.toList Try.results73) (by kernel_rfl) (by simp) ?_
 simp -implicitDefEqProofs only [go_sem, ↓reduceIte, reduceCtorEq, Nat.reduceAdd, Nat.reduceLT, Nat.reduceEqDiff, Nat.reduceMul, Nat.reduceLeDiff, Nat.reduceSub, eInst]
 have := g.sats; have := g.custs; unfold CustOk at h
 omega
theorem cust_bd {x : InstD} (g : Good x) {c : Int} (h : CustOk x c) : (0 ≤ (custD x c).opn ∧ (custD x c).opn ≤ 1000000000) ∧ 0 ≤ (custD x c).stay ∧ (custD x c).stay ≤ 1000000000 := by
 unfold CustOk at h
 have := g.cust (custD x c) (getD_mem (by omega) _)
 exact ⟨this.2.1, this.2.2.2⟩
def TimesWf (t : TimesD) : Prop := (∀ k j, wf64 ((tmsN t k).getD j 0)) ∧ ∀ k, wf64 (ridN t k).out ∧ wf64 (ridN t k).back ∧ ∀ j, wf64 ((ridN t k).starts.getD j 0)
end Go.Proofs.Ytafhjfkdlmijdaa.Ab
