/-
  No cell of these rows narrows 'for every input' (looked for: loops, veiled, ifaces, maps, wideKeys, modest, calm, conditions, laid).
  DERIVED. THE GIVEN ROWS OF THIS SEAT. 3 by the template 'for every input the law returns true; each argument reads behind the call as it read before'; 0 by the template 'total and deterministic' (their statements: YtabadfkikdefeaaTotals.lean).
  GIVEN WITH THE SEED: the statements are not yours to turn. If you find one false, say at which input.
  Laid BY PROGRAM, IN A SANDBOX (cutbox-rows.mjs): the forced cells as the released guide's own fill.sh prints them over the translation a8eace0593d0035b… (all of the seat's roots in one cut). By AI agents, Wed Nov 11 2026. No macro, syntax, notation, axiom, sorry.
-/
import Derived.Test.YtabadfkikdefeaaChecked
import GoSem.Claim
import GoSem.ClaimJoined
import GoSem.ClaimMapViews
import Derived.JoinedTies
import Derived.KernelRfl
namespace Go.Proofs.Ytabadfkikdefeaa
/- THE CELL 'sum', in the pinned program and in every row, IS THE sha256 OF THE DUMP (.gsa) THAT YtabadfkikdefeaaProg.lean LOADS. Nothing in Lean hashes anything: it is a label: what it is worth is what the hold of that sum in a sandbox is worth. -/
noncomputable def Try.pinned : Pinned := { name := "ytabadfkikdefeaa", sum := "a8eace0593d0035b527babd0755ffeb93e7e248e64f1c00f5883c39b5a958d5d", checked := Try.checked }
namespace Rows
def none {H : Type} : Left H := { results := [], args := [] }

/-- 'wharfagelaw20.SheetRaw': WHATEVER THE INPUT: true; the input reads as it did. -/
def sheetRawSpec : ChangeSpec := { name := "sheetRaw", fn := fun _ => fun
  | [d] => { results := [.lit (.bool true)], args := [d] }
  | _ => none }
def sheetRawRow : OpenClaim := { program := "ytabadfkikdefeaa", sum := "a8eace0593d0035b527babd0755ffeb93e7e248e64f1c00f5883c39b5a958d5d", func := "wharfage/wharfagelaw20.SheetRaw", spec := "sheetRaw", inPlace := ["internal/abi.NoEscape"], unfollowed := true, recurses := true, apart := false }
def SheetRawSaid : Prop := sheetRawRow.holds Try.pinned (OpenSpec.ofChange sheetRawSpec)

/-- ITS FALSE NEIGHBOUR: 'it returns false'. Refute it at one input. -/
def sheetRawWrong : ChangeSpec := { name := "sheetRaw", fn := fun _ => fun
  | [d] => { results := [.lit (.bool false)], args := [d] }
  | _ => none }
def SheetRawWrongFalsely : Prop := sheetRawRow.holds Try.pinned (OpenSpec.ofChange sheetRawWrong)

/-- 'wharfagelaw18.ClockAny': WHATEVER THE INPUT: true; the input reads as it did. -/
def clockAnySpec : ChangeSpec := { name := "clockAny", fn := fun _ => fun
  | [d1, d2, d3, d4] => { results := [.lit (.bool true)], args := [d1, d2, d3, d4] }
  | _ => none }
def clockAnyRow : OpenClaim := { program := "ytabadfkikdefeaa", sum := "a8eace0593d0035b527babd0755ffeb93e7e248e64f1c00f5883c39b5a958d5d", func := "wharfage/wharfagelaw18.ClockAny", spec := "clockAny", inPlace := ["slices.overlaps[int]"], unfollowed := true, recurses := true, apart := false }
def ClockAnySaid : Prop := clockAnyRow.holds Try.pinned (OpenSpec.ofChange clockAnySpec)

/-- ITS FALSE NEIGHBOUR: 'it returns false'. Refute it at one input. -/
def clockAnyWrong : ChangeSpec := { name := "clockAny", fn := fun _ => fun
  | [d1, d2, d3, d4] => { results := [.lit (.bool false)], args := [d1, d2, d3, d4] }
  | _ => none }
def ClockAnyWrongFalsely : Prop := clockAnyRow.holds Try.pinned (OpenSpec.ofChange clockAnyWrong)

/-- 'wharfagelaw18.ClockMays': WHATEVER THE INPUT: true; the input reads as it did. -/
def clockMaysSpec : ChangeSpec := { name := "clockMays", fn := fun _ => fun
  | [d1, d2, d3] => { results := [.lit (.bool true)], args := [d1, d2, d3] }
  | _ => none }
def clockMaysRow : OpenClaim := { program := "ytabadfkikdefeaa", sum := "a8eace0593d0035b527babd0755ffeb93e7e248e64f1c00f5883c39b5a958d5d", func := "wharfage/wharfagelaw18.ClockMays", spec := "clockMays", inPlace := ["slices.overlaps[int]"], unfollowed := true, recurses := true, apart := false }
def ClockMaysSaid : Prop := clockMaysRow.holds Try.pinned (OpenSpec.ofChange clockMaysSpec)

/-- ITS FALSE NEIGHBOUR: 'it returns false'. Refute it at one input. -/
def clockMaysWrong : ChangeSpec := { name := "clockMays", fn := fun _ => fun
  | [d1, d2, d3] => { results := [.lit (.bool false)], args := [d1, d2, d3] }
  | _ => none }
def ClockMaysWrongFalsely : Prop := clockMaysRow.holds Try.pinned (OpenSpec.ofChange clockMaysWrong)

/- THE SECOND FORM. 'bulk': how many values and letters a reading holds, each counted each time it is reached (what is shared counts as often as it is met; a slice's spare places count too). A statement '..UptoSaid' is the law's where the arguments, and the package variables that the reading takes, are together of bulk at most 1048576: NARROWER than '..Said'. Prove '..Said' where nothing that the law and all that it calls make is longer than what came in: it says more and counts as full. Else prove '..UptoSaid'. A law counts once. -/
mutual
def uptoBulk {H : Type} : DataW H → Nat
  | .lit (.string bytes) => bytes.length + 1
  | .lit _ => 1
  | .nil => 1
  | .ptr d => uptoBulk d + 1
  | .slice elems spare => uptoBulkAll elems + uptoBulkAll spare + 1
  | .agg parts => uptoBulkAll parts + 1
  | .iface _ d => uptoBulk d + 1
  | .map entries => uptoBulkEntries entries + 1
  | .held _ => 1
def uptoBulkAll {H : Type} : List (DataW H) → Nat
  | [] => 0
  | d :: r => uptoBulk d + uptoBulkAll r
def uptoBulkEntries {H : Type} : List (Lit × DataW H) → Nat
  | [] => 0
  | x :: r => uptoBulkEntry x + uptoBulkEntries r
def uptoBulkEntry {H : Type} : Lit × DataW H → Nat
  | (.string bytes, d) => bytes.length + uptoBulk d + 1
  | (_, d) => uptoBulk d + 1
 end
def uptoSmall : (H : Type) → List (DataW H) → Bool := fun _ ds => decide (uptoBulkAll ds ≤ 1048576)
def OpenSpec.upto (s : _root_.Go.ChangeSpec) : _root_.Go.OpenSpec := { _root_.Go.OpenSpec.ofChange s with cond := some uptoSmall }

/-- 'wharfagelaw20.SheetRaw', WHERE WHAT IT READS IS OF BULK AT MOST 1048576: true; the input reads as it did. -/
def sheetRawUptoRow : OpenClaim := { program := "ytabadfkikdefeaa", sum := "a8eace0593d0035b527babd0755ffeb93e7e248e64f1c00f5883c39b5a958d5d", func := "wharfage/wharfagelaw20.SheetRaw", spec := "sheetRaw", inPlace := ["internal/abi.NoEscape"], unfollowed := true, recurses := true, apart := false, narrowed := true }
def SheetRawUptoSaid : Prop := sheetRawUptoRow.holds Try.pinned (OpenSpec.upto sheetRawSpec)

/-- 'wharfagelaw18.ClockAny', WHERE WHAT IT READS IS OF BULK AT MOST 1048576: true; the input reads as it did. -/
def clockAnyUptoRow : OpenClaim := { program := "ytabadfkikdefeaa", sum := "a8eace0593d0035b527babd0755ffeb93e7e248e64f1c00f5883c39b5a958d5d", func := "wharfage/wharfagelaw18.ClockAny", spec := "clockAny", inPlace := ["slices.overlaps[int]"], unfollowed := true, recurses := true, apart := false, narrowed := true }
def ClockAnyUptoSaid : Prop := clockAnyUptoRow.holds Try.pinned (OpenSpec.upto clockAnySpec)

/-- 'wharfagelaw18.ClockMays', WHERE WHAT IT READS IS OF BULK AT MOST 1048576: true; the input reads as it did. -/
def clockMaysUptoRow : OpenClaim := { program := "ytabadfkikdefeaa", sum := "a8eace0593d0035b527babd0755ffeb93e7e248e64f1c00f5883c39b5a958d5d", func := "wharfage/wharfagelaw18.ClockMays", spec := "clockMays", inPlace := ["slices.overlaps[int]"], unfollowed := true, recurses := true, apart := false, narrowed := true }
def ClockMaysUptoSaid : Prop := clockMaysUptoRow.holds Try.pinned (OpenSpec.upto clockMaysSpec)

end Rows
end Go.Proofs.Ytabadfkikdefeaa
