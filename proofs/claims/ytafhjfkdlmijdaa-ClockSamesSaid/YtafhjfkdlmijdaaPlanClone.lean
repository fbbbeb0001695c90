/- Contract: plan.Plan.Clone. -/
import Derived.BigQuiet
import Derived.Deep.DeepCutAuto
import Derived.Test.YtafhjfkdlmijdaaP3
set_option linter.all false
namespace Go.Proofs.Ytafhjfkdlmijdaa
open Go.RowKit
theorem TOwn.blockLt {TT TS : Nat} {w : World} {B : Nat} {v : Value} {out : List (List StopD)} {vs : List Value} (h : TOwn TT TS w B v out vs) : ∀ i (hi : i < vs.length) b, vs[i].ownBlock = some b → b < w.heap.size := fun i hi b hb =>
 ((h.rows i (by rw [← h.len]; exact hi) hi).lt b hb).2
theorem TOwn.keptOwn {TT TS T k n : Nat} {w w' : World} {B B' : Nat} {v u : Value} {xs : List Value} {out : List (List StopD)} {vs : List Value} (h : TOwn TT TS w B v out vs) (ho : w.ownsRow B' T k u n xs) (hg : w.grownBy w' u.ownBlock) (h1 : TT ≠ T) (h2 : TS ≠ T) : TOwn TT TS w' B v out vs :=
 ⟨h.own.kept hg (own_type h.own ho h1), h.len, fun i k1 k2 => (h.rows i k1 k2).kept hg (own_type (h.rows i k1 k2) ho h2), h.apart⟩
end Go.Proofs.Ytafhjfkdlmijdaa
