/- Contracts of package inst's small functions: may, many, Nodes, square. -/
import Derived.Test.YtafhjfkdlmijdaaLib
import Derived.Test.YtafhjfkdlmijdaaProg
namespace Go.Proofs.Ytafhjfkdlmijdaa
open Go.RowKit

/-- inst.may -/
def mayB (n l : Int) : Bool := decide (l ≤ n) && decide (n ≤ 1000000000)
theorem may_c (n l : Int) (w : World) :
    Calls Try.prog 88 #[.int .i64 n, .int .i64 l] w fun e w' => e = .returned (.bool (mayB n l)) ∧ w' = w := by
  by_cases h1 : l ≤ n <;> by_cases h2 : n ≤ 1000000000
  all_goals
    go_enter Try.func88, Try.ntmps88
    go_wp2
    go_ret
    exact ⟨ret_bool (by simp [mayB]; omega), rfl⟩

/-- inst.Check's 'many' -/
def manyB (n m : Int) : Bool := decide (1 ≤ n) && decide (n ≤ m)
theorem many_c (n m : Int) (w : World) :
    Calls Try.prog 51 #[.int .i64 n, .int .i64 m] w fun e w' => e = .returned (.bool (manyB n m)) ∧ w' = w := by
  by_cases h1 : 1 ≤ n <;> by_cases h2 : n ≤ m
  all_goals
    go_enter Try.func51, Try.ntmps51
    go_wp2
    go_ret
    exact ⟨ret_bool (by simp [manyB]; omega), rfl⟩

def nodes (x : InstD) : Nat := 1 + x.sats.length + x.custs.length
/-- inst.Instance.Nodes; wraps at lengths beyond any machine. -/
theorem nodes_c {w : World} {F : Nat → Prop} {x : InstD} {cs : List Value} (h : instS.rep w F x cs) (hl : x.sats.length ≤ 1000000) (hl' : x.custs.length ≤ 1000000) :
    Calls Try.prog 53 #[.agg cs.toArray] w fun e w' => e = .returned (.int .i64 (nodes x : Nat)) ∧ Below w.heap.size w w' := by
  obtain ⟨s, c, co, ti, rfl, -, h1, h2, -, -⟩ := h
  obtain ⟨a, b, off, c1, hs, -, -, -, -, -, -⟩ := sats_open h1
  obtain ⟨a', b', off', c1', hs', -, -, -, -, -, -⟩ := custs_open h2
  obtain rfl := List.cons.inj hs |>.1
  obtain rfl := List.cons.inj hs' |>.1
  clear hs hs' h1 h2
  go_enter Try.func53, Try.ntmps53
  go_wp2
  go_ret
  exact ⟨ret_int (by simp [nodes]), (Below.refl _ _).alloc (Nat.le_refl _) _⟩

/-- inst.square's test of one row -/
theorem square1_c {w : World} {F : Nat → Prop} {r : List Int} {v : Value} (h : (sliceS intS).rep w F r [v]) (q : Nat) (n : Int) (hq : w.cell? ⟨q, 0, none⟩ = some (.int .i64 n)) :
    Calls Try.prog 87 #[v, .pointer (some ⟨q, 0, none⟩)] w fun e w' => e = .returned (.bool ((r.length : Int) != n)) ∧ w' = w := by
  obtain ⟨a, b, off, c1, hs, -, -, -, -, -, -⟩ := ints_open h
  obtain rfl := List.cons.inj hs |>.1
  clear hs h
  go_enter Try.func87, Try.ntmps87
  go_wp2
  go_ret
  exact ⟨rfl, rfl⟩
end Go.Proofs.Ytafhjfkdlmijdaa
