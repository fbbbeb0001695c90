/-
  No cell of these rows narrows 'for every input' (looked for: loops, veiled, ifaces, maps, wideKeys, modest, calm, conditions, laid).
  DERIVED. THE GIVEN ROWS OF THIS SEAT. 3 by the template 'for every input the law returns true; each argument reads behind the call as it read before'; 0 by the template 'total and deterministic' (their statements: YtahffcepagopmaaTotals.lean).
  GIVEN WITH THE SEED: the statements are not yours to turn. If you find one false, say at which input.
  Laid BY PROGRAM, IN A SANDBOX (cutbox-rows.mjs): the forced cells as the released guide's own fill.sh prints them over the translation cf600431dd2a8548… (all of the seat's roots in one cut). By AI agents, Wed Nov 11 2026. No macro, syntax, notation, axiom, sorry.
-/
import Derived.Test.YtahffcepagopmaaChecked
import GoSem.Claim
import GoSem.ClaimJoined
import GoSem.ClaimMapViews
import Derived.JoinedTies
import Derived.KernelRfl
namespace Go.Proofs.Ytahffcepagopmaa
/- THE CELL 'sum', in the pinned program and in every row, IS THE sha256 OF THE DUMP (.gsa) THAT YtahffcepagopmaaProg.lean LOADS. Nothing in Lean hashes anything: it is a label: what it is worth is what the hold of that sum in a sandbox is worth. -/
noncomputable def Try.pinned : Pinned := { name := "ytahffcepagopmaa", sum := "cf600431dd2a85483c9751aef8bc389dc6eaeb4df15b8be693e18703b36228c5", checked := Try.checked }
namespace Rows
def none {H : Type} : Left H := { results := [], args := [] }

/-- 'wharfagelaw19.FeasServes': WHATEVER THE INPUT: true; the input reads as it did. -/
def feasServesSpec : ChangeSpec := { name := "feasServes", fn := fun _ => fun
  | [d1, d2, d3] => { results := [.lit (.bool true)], args := [d1, d2, d3] }
  | _ => none }
def feasServesRow : OpenClaim := { program := "ytahffcepagopmaa", sum := "cf600431dd2a85483c9751aef8bc389dc6eaeb4df15b8be693e18703b36228c5", func := "wharfage/wharfagelaw19.FeasServes", spec := "feasServes", inPlace := ["slices.overlaps[int]"], unfollowed := true, recurses := true, apart := false }
def FeasServesSaid : Prop := feasServesRow.holds Try.pinned (OpenSpec.ofChange feasServesSpec)

/-- ITS FALSE NEIGHBOUR: 'it returns false'. Refute it at one input. -/
def feasServesWrong : ChangeSpec := { name := "feasServes", fn := fun _ => fun
  | [d1, d2, d3] => { results := [.lit (.bool false)], args := [d1, d2, d3] }
  | _ => none }
def FeasServesWrongFalsely : Prop := feasServesRow.holds Try.pinned (OpenSpec.ofChange feasServesWrong)

/-- 'wharfagelaw19.FeasChecks': WHATEVER THE INPUT: true; the input reads as it did. -/
def feasChecksSpec : ChangeSpec := { name := "feasChecks", fn := fun _ => fun
  | [d1, d2, d3, d4, d5, d6, d7] => { results := [.lit (.bool true)], args := [d1, d2, d3, d4, d5, d6, d7] }
  | _ => none }
def feasChecksRow : OpenClaim := { program := "ytahffcepagopmaa", sum := "cf600431dd2a85483c9751aef8bc389dc6eaeb4df15b8be693e18703b36228c5", func := "wharfage/wharfagelaw19.FeasChecks", spec := "feasChecks", inPlace := ["slices.overlaps[int]"], unfollowed := true, recurses := true, apart := false }
def FeasChecksSaid : Prop := feasChecksRow.holds Try.pinned (OpenSpec.ofChange feasChecksSpec)

/-- ITS FALSE NEIGHBOUR: 'it returns false'. Refute it at one input. -/
def feasChecksWrong : ChangeSpec := { name := "feasChecks", fn := fun _ => fun
  | [d1, d2, d3, d4, d5, d6, d7] => { results := [.lit (.bool false)], args := [d1, d2, d3, d4, d5, d6, d7] }
  | _ => none }
def FeasChecksWrongFalsely : Prop := feasChecksRow.holds Try.pinned (OpenSpec.ofChange feasChecksWrong)

/-- 'wharfagelaw19.FeasMakes': WHATEVER THE INPUT: true; the input reads as it did. -/
def feasMakesSpec : ChangeSpec := { name := "feasMakes", fn := fun _ => fun
  | [d1, d2, d3, d4, d5] => { results := [.lit (.bool true)], args := [d1, d2, d3, d4, d5] }
  | _ => none }
def feasMakesRow : OpenClaim := { program := "ytahffcepagopmaa", sum := "cf600431dd2a85483c9751aef8bc389dc6eaeb4df15b8be693e18703b36228c5", func := "wharfage/wharfagelaw19.FeasMakes", spec := "feasMakes", inPlace := ["slices.overlaps[int]"], unfollowed := true, recurses := true, apart := false }
def FeasMakesSaid : Prop := feasMakesRow.holds Try.pinned (OpenSpec.ofChange feasMakesSpec)

/-- ITS FALSE NEIGHBOUR: 'it returns false'. Refute it at one input. -/
def feasMakesWrong : ChangeSpec := { name := "feasMakes", fn := fun _ => fun
  | [d1, d2, d3, d4, d5] => { results := [.lit (.bool false)], args := [d1, d2, d3, d4, d5] }
  | _ => none }
def FeasMakesWrongFalsely : Prop := feasMakesRow.holds Try.pinned (OpenSpec.ofChange feasMakesWrong)

/- THE SECOND FORM. 'bulk': how many values and letters a reading holds, each counted each time it is reached (what is shared counts as often as it is met; a slice's spare places count too). A statement '..UptoSaid' is the law's where the arguments, and the package variables that the reading takes, are together of bulk at most 1048576: NARROWER than '..Said'. Prove '..Said' where nothing that the law and all that it calls make is longer than what came in: it says more and counts as full. Else prove '..UptoSaid'. A law counts once. -/
mutual
def uptoBulk {H : Type} : DataW H → Nat
  | .lit (.string bytes) => bytes.length + 1
  | .lit _ => 1
  | .nil => 1
  | .ptr d => uptoBulk d + 1
  | .slice elems spare => uptoBulkAll elems + uptoBulkAll spare + 1
  | .agg parts => uptoBulkAll parts + 1
  | .iface _ d => uptoBulk d + 1
  | .map entries => uptoBulkEntries entries + 1
  | .held _ => 1
def uptoBulkAll {H : Type} : List (DataW H) → Nat
  | [] => 0
  | d :: r => uptoBulk d + uptoBulkAll r
def uptoBulkEntries {H : Type} : List (Lit × DataW H) → Nat
  | [] => 0
  | x :: r => uptoBulkEntry x + uptoBulkEntries r
def uptoBulkEntry {H : Type} : Lit × DataW H → Nat
  | (.string bytes, d) => bytes.length + uptoBulk d + 1
  | (_, d) => uptoBulk d + 1
 end
def uptoSmall : (H : Type) → List (DataW H) → Bool := fun _ ds => decide (uptoBulkAll ds ≤ 1048576)
def OpenSpec.upto (s : _root_.Go.ChangeSpec) : _root_.Go.OpenSpec := { _root_.Go.OpenSpec.ofChange s with cond := some uptoSmall }

/-- 'wharfagelaw19.FeasServes', WHERE WHAT IT READS IS OF BULK AT MOST 1048576: true; the input reads as it did. -/
def feasServesUptoRow : OpenClaim := { program := "ytahffcepagopmaa", sum := "cf600431dd2a85483c9751aef8bc389dc6eaeb4df15b8be693e18703b36228c5", func := "wharfage/wharfagelaw19.FeasServes", spec := "feasServes", inPlace := ["slices.overlaps[int]"], unfollowed := true, recurses := true, apart := false, narrowed := true }
def FeasServesUptoSaid : Prop := feasServesUptoRow.holds Try.pinned (OpenSpec.upto feasServesSpec)

/-- 'wharfagelaw19.FeasChecks', WHERE WHAT IT READS IS OF BULK AT MOST 1048576: true; the input reads as it did. -/
def feasChecksUptoRow : OpenClaim := { program := "ytahffcepagopmaa", sum := "cf600431dd2a85483c9751aef8bc389dc6eaeb4df15b8be693e18703b36228c5", func := "wharfage/wharfagelaw19.FeasChecks", spec := "feasChecks", inPlace := ["slices.overlaps[int]"], unfollowed := true, recurses := true, apart := false, narrowed := true }
def FeasChecksUptoSaid : Prop := feasChecksUptoRow.holds Try.pinned (OpenSpec.upto feasChecksSpec)

/-- 'wharfagelaw19.FeasMakes', WHERE WHAT IT READS IS OF BULK AT MOST 1048576: true; the input reads as it did. -/
def feasMakesUptoRow : OpenClaim := { program := "ytahffcepagopmaa", sum := "cf600431dd2a85483c9751aef8bc389dc6eaeb4df15b8be693e18703b36228c5", func := "wharfage/wharfagelaw19.FeasMakes", spec := "feasMakes", inPlace := ["slices.overlaps[int]"], unfollowed := true, recurses := true, apart := false, narrowed := true }
def FeasMakesUptoSaid : Prop := feasMakesUptoRow.holds Try.pinned (OpenSpec.upto feasMakesSpec)

end Rows
end Go.Proofs.Ytahffcepagopmaa
