/-
  No cell of these rows narrows 'for every input' (looked for: loops, veiled, ifaces, maps, wideKeys, modest, calm, conditions, laid).
  DERIVED. THE GIVEN ROWS OF THIS SEAT. 12 by the template 'for every input the law returns true; each argument reads behind the call as it read before'; 0 by the template 'total and deterministic' (their statements: YtafhjfkdlmijdaaTotals.lean).
  GIVEN WITH THE SEED: the statements are not yours to turn. If you find one false, say at which input.
  Laid BY PROGRAM, IN A SANDBOX (cutbox-rows.mjs): the forced cells as the released guide's own fill.sh prints them over the translation 52783458ceb06c0a… (all of the seat's roots in one cut). By AI agents, Wed Nov 11 2026. No macro, syntax, notation, axiom, sorry.
-/
import Derived.Test.YtafhjfkdlmijdaaChecked
import GoSem.Claim
import GoSem.ClaimJoined
import GoSem.ClaimMapViews
import Derived.JoinedTies
import Derived.KernelRfl
namespace Go.Proofs.Ytafhjfkdlmijdaa
/- THE CELL 'sum', in the pinned program and in every row, IS THE sha256 OF THE DUMP (.gsa) THAT YtafhjfkdlmijdaaProg.lean LOADS. Nothing in Lean hashes anything: it is a label: what it is worth is what the hold of that sum in a sandbox is worth. -/
noncomputable def Try.pinned : Pinned := { name := "ytafhjfkdlmijdaa", sum := "52783458ceb06c0a4a0ec05cfbdb305a7cd8f59b22fbb5611c80b335d24e0f13", checked := Try.checked }
namespace Rows
def none {H : Type} : Left H := { results := [], args := [] }

/-- 'wharfagelaw22.HaulErrors': WHATEVER THE INPUT: true; the input reads as it did. -/
def haulErrorsSpec : ChangeSpec := { name := "haulErrors", fn := fun _ => fun
  | [d1, d2, d3] => { results := [.lit (.bool true)], args := [d1, d2, d3] }
  | _ => none }
def haulErrorsRow : OpenClaim := { program := "ytafhjfkdlmijdaa", sum := "52783458ceb06c0a4a0ec05cfbdb305a7cd8f59b22fbb5611c80b335d24e0f13", func := "wharfage/wharfagelaw22.HaulErrors", spec := "haulErrors", inPlace := ["math.Float64bits", "math.Float64frombits"], unfollowed := true, recurses := true, apart := false }
def HaulErrorsSaid : Prop := haulErrorsRow.holds Try.pinned (OpenSpec.ofChange haulErrorsSpec)

/-- ITS FALSE NEIGHBOUR: 'it returns false'. Refute it at one input. -/
def haulErrorsWrong : ChangeSpec := { name := "haulErrors", fn := fun _ => fun
  | [d1, d2, d3] => { results := [.lit (.bool false)], args := [d1, d2, d3] }
  | _ => none }
def HaulErrorsWrongFalsely : Prop := haulErrorsRow.holds Try.pinned (OpenSpec.ofChange haulErrorsWrong)

/-- 'wharfagelaw19.FeasNone': WHATEVER THE INPUT: true; the input reads as it did. -/
def feasNoneSpec : ChangeSpec := { name := "feasNone", fn := fun _ => fun
  | [d1, d2] => { results := [.lit (.bool true)], args := [d1, d2] }
  | _ => none }
def feasNoneRow : OpenClaim := { program := "ytafhjfkdlmijdaa", sum := "52783458ceb06c0a4a0ec05cfbdb305a7cd8f59b22fbb5611c80b335d24e0f13", func := "wharfage/wharfagelaw19.FeasNone", spec := "feasNone", unfollowed := true, recurses := true, apart := false }
def FeasNoneSaid : Prop := feasNoneRow.holds Try.pinned (OpenSpec.ofChange feasNoneSpec)

/-- ITS FALSE NEIGHBOUR: 'it returns false'. Refute it at one input. -/
def feasNoneWrong : ChangeSpec := { name := "feasNone", fn := fun _ => fun
  | [d1, d2] => { results := [.lit (.bool false)], args := [d1, d2] }
  | _ => none }
def FeasNoneWrongFalsely : Prop := feasNoneRow.holds Try.pinned (OpenSpec.ofChange feasNoneWrong)

/-- 'wharfagelaw22.HaulOrders': WHATEVER THE INPUT: true; the input reads as it did. -/
def haulOrdersSpec : ChangeSpec := { name := "haulOrders", fn := fun _ => fun
  | [d1, d2] => { results := [.lit (.bool true)], args := [d1, d2] }
  | _ => none }
def haulOrdersRow : OpenClaim := { program := "ytafhjfkdlmijdaa", sum := "52783458ceb06c0a4a0ec05cfbdb305a7cd8f59b22fbb5611c80b335d24e0f13", func := "wharfage/wharfagelaw22.HaulOrders", spec := "haulOrders", inPlace := ["math.Float64bits", "math.Float64frombits", "slices.overlaps[int]"], unfollowed := true, recurses := true, apart := false }
def HaulOrdersSaid : Prop := haulOrdersRow.holds Try.pinned (OpenSpec.ofChange haulOrdersSpec)

/-- ITS FALSE NEIGHBOUR: 'it returns false'. Refute it at one input. -/
def haulOrdersWrong : ChangeSpec := { name := "haulOrders", fn := fun _ => fun
  | [d1, d2] => { results := [.lit (.bool false)], args := [d1, d2] }
  | _ => none }
def HaulOrdersWrongFalsely : Prop := haulOrdersRow.holds Try.pinned (OpenSpec.ofChange haulOrdersWrong)

/-- 'wharfagelaw22.HaulFloats': WHATEVER THE INPUT: true; the input reads as it did. -/
def haulFloatsSpec : ChangeSpec := { name := "haulFloats", fn := fun _ => fun
  | [d1, d2] => { results := [.lit (.bool true)], args := [d1, d2] }
  | _ => none }
def haulFloatsRow : OpenClaim := { program := "ytafhjfkdlmijdaa", sum := "52783458ceb06c0a4a0ec05cfbdb305a7cd8f59b22fbb5611c80b335d24e0f13", func := "wharfage/wharfagelaw22.HaulFloats", spec := "haulFloats", inPlace := ["math.Float64bits", "math.Float64frombits", "slices.overlaps[int]"], unfollowed := true, recurses := true, apart := false }
def HaulFloatsSaid : Prop := haulFloatsRow.holds Try.pinned (OpenSpec.ofChange haulFloatsSpec)

/-- ITS FALSE NEIGHBOUR: 'it returns false'. Refute it at one input. -/
def haulFloatsWrong : ChangeSpec := { name := "haulFloats", fn := fun _ => fun
  | [d1, d2] => { results := [.lit (.bool false)], args := [d1, d2] }
  | _ => none }
def HaulFloatsWrongFalsely : Prop := haulFloatsRow.holds Try.pinned (OpenSpec.ofChange haulFloatsWrong)

/-- 'wharfagelaw22.HaulTrucks': WHATEVER THE INPUT: true; the input reads as it did. -/
def haulTrucksSpec : ChangeSpec := { name := "haulTrucks", fn := fun _ => fun
  | [d1, d2] => { results := [.lit (.bool true)], args := [d1, d2] }
  | _ => none }
def haulTrucksRow : OpenClaim := { program := "ytafhjfkdlmijdaa", sum := "52783458ceb06c0a4a0ec05cfbdb305a7cd8f59b22fbb5611c80b335d24e0f13", func := "wharfage/wharfagelaw22.HaulTrucks", spec := "haulTrucks", inPlace := ["math.Float64bits", "math.Float64frombits", "slices.overlaps[int]"], unfollowed := true, recurses := true, apart := false }
def HaulTrucksSaid : Prop := haulTrucksRow.holds Try.pinned (OpenSpec.ofChange haulTrucksSpec)

/-- ITS FALSE NEIGHBOUR: 'it returns false'. Refute it at one input. -/
def haulTrucksWrong : ChangeSpec := { name := "haulTrucks", fn := fun _ => fun
  | [d1, d2] => { results := [.lit (.bool false)], args := [d1, d2] }
  | _ => none }
def HaulTrucksWrongFalsely : Prop := haulTrucksRow.holds Try.pinned (OpenSpec.ofChange haulTrucksWrong)

/-- 'wharfagelaw22.HaulFits': WHATEVER THE INPUT: true; the input reads as it did. -/
def haulFitsSpec : ChangeSpec := { name := "haulFits", fn := fun _ => fun
  | [d1, d2] => { results := [.lit (.bool true)], args := [d1, d2] }
  | _ => none }
def haulFitsRow : OpenClaim := { program := "ytafhjfkdlmijdaa", sum := "52783458ceb06c0a4a0ec05cfbdb305a7cd8f59b22fbb5611c80b335d24e0f13", func := "wharfage/wharfagelaw22.HaulFits", spec := "haulFits", inPlace := ["math.Float64bits", "math.Float64frombits", "slices.overlaps[int]"], unfollowed := true, recurses := true, apart := false }
def HaulFitsSaid : Prop := haulFitsRow.holds Try.pinned (OpenSpec.ofChange haulFitsSpec)

/-- ITS FALSE NEIGHBOUR: 'it returns false'. Refute it at one input. -/
def haulFitsWrong : ChangeSpec := { name := "haulFits", fn := fun _ => fun
  | [d1, d2] => { results := [.lit (.bool false)], args := [d1, d2] }
  | _ => none }
def HaulFitsWrongFalsely : Prop := haulFitsRow.holds Try.pinned (OpenSpec.ofChange haulFitsWrong)

/-- 'wharfagelaw22.HaulWholes': WHATEVER THE INPUT: true; the input reads as it did. -/
def haulWholesSpec : ChangeSpec := { name := "haulWholes", fn := fun _ => fun
  | [d1, d2, d3, d4, d5] => { results := [.lit (.bool true)], args := [d1, d2, d3, d4, d5] }
  | _ => none }
def haulWholesRow : OpenClaim := { program := "ytafhjfkdlmijdaa", sum := "52783458ceb06c0a4a0ec05cfbdb305a7cd8f59b22fbb5611c80b335d24e0f13", func := "wharfage/wharfagelaw22.HaulWholes", spec := "haulWholes", inPlace := ["math.Float64bits", "math.Float64frombits", "slices.overlaps[int]"], unfollowed := true, recurses := true, apart := false }
def HaulWholesSaid : Prop := haulWholesRow.holds Try.pinned (OpenSpec.ofChange haulWholesSpec)

/-- ITS FALSE NEIGHBOUR: 'it returns false'. Refute it at one input. -/
def haulWholesWrong : ChangeSpec := { name := "haulWholes", fn := fun _ => fun
  | [d1, d2, d3, d4, d5] => { results := [.lit (.bool false)], args := [d1, d2, d3, d4, d5] }
  | _ => none }
def HaulWholesWrongFalsely : Prop := haulWholesRow.holds Try.pinned (OpenSpec.ofChange haulWholesWrong)

/-- 'wharfagelaw18.ClockAny': WHATEVER THE INPUT: true; the input reads as it did. -/
def clockAnySpec : ChangeSpec := { name := "clockAny", fn := fun _ => fun
  | [d1, d2, d3, d4] => { results := [.lit (.bool true)], args := [d1, d2, d3, d4] }
  | _ => none }
def clockAnyRow : OpenClaim := { program := "ytafhjfkdlmijdaa", sum := "52783458ceb06c0a4a0ec05cfbdb305a7cd8f59b22fbb5611c80b335d24e0f13", func := "wharfage/wharfagelaw18.ClockAny", spec := "clockAny", inPlace := ["slices.overlaps[int]"], unfollowed := true, recurses := true, apart := false }
def ClockAnySaid : Prop := clockAnyRow.holds Try.pinned (OpenSpec.ofChange clockAnySpec)

/-- ITS FALSE NEIGHBOUR: 'it returns false'. Refute it at one input. -/
def clockAnyWrong : ChangeSpec := { name := "clockAny", fn := fun _ => fun
  | [d1, d2, d3, d4] => { results := [.lit (.bool false)], args := [d1, d2, d3, d4] }
  | _ => none }
def ClockAnyWrongFalsely : Prop := clockAnyRow.holds Try.pinned (OpenSpec.ofChange clockAnyWrong)

/-- 'wharfagelaw18.ClockLeast': WHATEVER THE INPUT: true; the input reads as it did. -/
def clockLeastSpec : ChangeSpec := { name := "clockLeast", fn := fun _ => fun
  | [d1, d2, d3] => { results := [.lit (.bool true)], args := [d1, d2, d3] }
  | _ => none }
def clockLeastRow : OpenClaim := { program := "ytafhjfkdlmijdaa", sum := "52783458ceb06c0a4a0ec05cfbdb305a7cd8f59b22fbb5611c80b335d24e0f13", func := "wharfage/wharfagelaw18.ClockLeast", spec := "clockLeast", inPlace := ["slices.overlaps[int]"], unfollowed := true, recurses := true, apart := false }
def ClockLeastSaid : Prop := clockLeastRow.holds Try.pinned (OpenSpec.ofChange clockLeastSpec)

/-- ITS FALSE NEIGHBOUR: 'it returns false'. Refute it at one input. -/
def clockLeastWrong : ChangeSpec := { name := "clockLeast", fn := fun _ => fun
  | [d1, d2, d3] => { results := [.lit (.bool false)], args := [d1, d2, d3] }
  | _ => none }
def ClockLeastWrongFalsely : Prop := clockLeastRow.holds Try.pinned (OpenSpec.ofChange clockLeastWrong)

/-- 'wharfagelaw18.ClockSames': WHATEVER THE INPUT: true; the input reads as it did. -/
def clockSamesSpec : ChangeSpec := { name := "clockSames", fn := fun _ => fun
  | [d1, d2, d3, d4, d5] => { results := [.lit (.bool true)], args := [d1, d2, d3, d4, d5] }
  | _ => none }
def clockSamesRow : OpenClaim := { program := "ytafhjfkdlmijdaa", sum := "52783458ceb06c0a4a0ec05cfbdb305a7cd8f59b22fbb5611c80b335d24e0f13", func := "wharfage/wharfagelaw18.ClockSames", spec := "clockSames", inPlace := ["slices.overlaps[int]"], unfollowed := true, recurses := true, apart := false }
def ClockSamesSaid : Prop := clockSamesRow.holds Try.pinned (OpenSpec.ofChange clockSamesSpec)

/-- ITS FALSE NEIGHBOUR: 'it returns false'. Refute it at one input. -/
def clockSamesWrong : ChangeSpec := { name := "clockSames", fn := fun _ => fun
  | [d1, d2, d3, d4, d5] => { results := [.lit (.bool false)], args := [d1, d2, d3, d4, d5] }
  | _ => none }
def ClockSamesWrongFalsely : Prop := clockSamesRow.holds Try.pinned (OpenSpec.ofChange clockSamesWrong)

/-- 'wharfagelaw18.ClockEarly': WHATEVER THE INPUT: true; the input reads as it did. -/
def clockEarlySpec : ChangeSpec := { name := "clockEarly", fn := fun _ => fun
  | [d1, d2, d3, d4, d5] => { results := [.lit (.bool true)], args := [d1, d2, d3, d4, d5] }
  | _ => none }
def clockEarlyRow : OpenClaim := { program := "ytafhjfkdlmijdaa", sum := "52783458ceb06c0a4a0ec05cfbdb305a7cd8f59b22fbb5611c80b335d24e0f13", func := "wharfage/wharfagelaw18.ClockEarly", spec := "clockEarly", inPlace := ["slices.overlaps[int]"], unfollowed := true, recurses := true, apart := false }
def ClockEarlySaid : Prop := clockEarlyRow.holds Try.pinned (OpenSpec.ofChange clockEarlySpec)

/-- ITS FALSE NEIGHBOUR: 'it returns false'. Refute it at one input. -/
def clockEarlyWrong : ChangeSpec := { name := "clockEarly", fn := fun _ => fun
  | [d1, d2, d3, d4, d5] => { results := [.lit (.bool false)], args := [d1, d2, d3, d4, d5] }
  | _ => none }
def ClockEarlyWrongFalsely : Prop := clockEarlyRow.holds Try.pinned (OpenSpec.ofChange clockEarlyWrong)

/-- 'wharfagelaw18.ClockChecks': WHATEVER THE INPUT: true; the input reads as it did. -/
def clockChecksSpec : ChangeSpec := { name := "clockChecks", fn := fun _ => fun
  | [d1, d2, d3, d4, d5, d6] => { results := [.lit (.bool true)], args := [d1, d2, d3, d4, d5, d6] }
  | _ => none }
def clockChecksRow : OpenClaim := { program := "ytafhjfkdlmijdaa", sum := "52783458ceb06c0a4a0ec05cfbdb305a7cd8f59b22fbb5611c80b335d24e0f13", func := "wharfage/wharfagelaw18.ClockChecks", spec := "clockChecks", inPlace := ["slices.overlaps[int]"], unfollowed := true, recurses := true, apart := false }
def ClockChecksSaid : Prop := clockChecksRow.holds Try.pinned (OpenSpec.ofChange clockChecksSpec)

/-- ITS FALSE NEIGHBOUR: 'it returns false'. Refute it at one input. -/
def clockChecksWrong : ChangeSpec := { name := "clockChecks", fn := fun _ => fun
  | [d1, d2, d3, d4, d5, d6] => { results := [.lit (.bool false)], args := [d1, d2, d3, d4, d5, d6] }
  | _ => none }
def ClockChecksWrongFalsely : Prop := clockChecksRow.holds Try.pinned (OpenSpec.ofChange clockChecksWrong)

/- THE SECOND FORM. 'bulk': how many values and letters a reading holds, each counted each time it is reached (what is shared counts as often as it is met; a slice's spare places count too). A statement '..UptoSaid' is the law's where the arguments, and the package variables that the reading takes, are together of bulk at most 1048576: NARROWER than '..Said'. Prove '..Said' where nothing that the law and all that it calls make is longer than what came in: it says more and counts as full. Else prove '..UptoSaid'. A law counts once. -/
mutual
def uptoBulk {H : Type} : DataW H → Nat
  | .lit (.string bytes) => bytes.length + 1
  | .lit _ => 1
  | .nil => 1
  | .ptr d => uptoBulk d + 1
  | .slice elems spare => uptoBulkAll elems + uptoBulkAll spare + 1
  | .agg parts => uptoBulkAll parts + 1
  | .iface _ d => uptoBulk d + 1
  | .map entries => uptoBulkEntries entries + 1
  | .held _ => 1
def uptoBulkAll {H : Type} : List (DataW H) → Nat
  | [] => 0
  | d :: r => uptoBulk d + uptoBulkAll r
def uptoBulkEntries {H : Type} : List (Lit × DataW H) → Nat
  | [] => 0
  | x :: r => uptoBulkEntry x + uptoBulkEntries r
def uptoBulkEntry {H : Type} : Lit × DataW H → Nat
  | (.string bytes, d) => bytes.length + uptoBulk d + 1
  | (_, d) => uptoBulk d + 1
 end
def uptoSmall : (H : Type) → List (DataW H) → Bool := fun _ ds => decide (uptoBulkAll ds ≤ 1048576)
def OpenSpec.upto (s : _root_.Go.ChangeSpec) : _root_.Go.OpenSpec := { _root_.Go.OpenSpec.ofChange s with cond := some uptoSmall }

/-- 'wharfagelaw22.HaulErrors', WHERE WHAT IT READS IS OF BULK AT MOST 1048576: true; the input reads as it did. -/
def haulErrorsUptoRow : OpenClaim := { program := "ytafhjfkdlmijdaa", sum := "52783458ceb06c0a4a0ec05cfbdb305a7cd8f59b22fbb5611c80b335d24e0f13", func := "wharfage/wharfagelaw22.HaulErrors", spec := "haulErrors", inPlace := ["math.Float64bits", "math.Float64frombits"], unfollowed := true, recurses := true, apart := false, narrowed := true }
def HaulErrorsUptoSaid : Prop := haulErrorsUptoRow.holds Try.pinned (OpenSpec.upto haulErrorsSpec)

/-- 'wharfagelaw19.FeasNone', WHERE WHAT IT READS IS OF BULK AT MOST 1048576: true; the input reads as it did. -/
def feasNoneUptoRow : OpenClaim := { program := "ytafhjfkdlmijdaa", sum := "52783458ceb06c0a4a0ec05cfbdb305a7cd8f59b22fbb5611c80b335d24e0f13", func := "wharfage/wharfagelaw19.FeasNone", spec := "feasNone", unfollowed := true, recurses := true, apart := false, narrowed := true }
def FeasNoneUptoSaid : Prop := feasNoneUptoRow.holds Try.pinned (OpenSpec.upto feasNoneSpec)

/-- 'wharfagelaw22.HaulOrders', WHERE WHAT IT READS IS OF BULK AT MOST 1048576: true; the input reads as it did. -/
def haulOrdersUptoRow : OpenClaim := { program := "ytafhjfkdlmijdaa", sum := "52783458ceb06c0a4a0ec05cfbdb305a7cd8f59b22fbb5611c80b335d24e0f13", func := "wharfage/wharfagelaw22.HaulOrders", spec := "haulOrders", inPlace := ["math.Float64bits", "math.Float64frombits", "slices.overlaps[int]"], unfollowed := true, recurses := true, apart := false, narrowed := true }
def HaulOrdersUptoSaid : Prop := haulOrdersUptoRow.holds Try.pinned (OpenSpec.upto haulOrdersSpec)

/-- 'wharfagelaw22.HaulFloats', WHERE WHAT IT READS IS OF BULK AT MOST 1048576: true; the input reads as it did. -/
def haulFloatsUptoRow : OpenClaim := { program := "ytafhjfkdlmijdaa", sum := "52783458ceb06c0a4a0ec05cfbdb305a7cd8f59b22fbb5611c80b335d24e0f13", func := "wharfage/wharfagelaw22.HaulFloats", spec := "haulFloats", inPlace := ["math.Float64bits", "math.Float64frombits", "slices.overlaps[int]"], unfollowed := true, recurses := true, apart := false, narrowed := true }
def HaulFloatsUptoSaid : Prop := haulFloatsUptoRow.holds Try.pinned (OpenSpec.upto haulFloatsSpec)

/-- 'wharfagelaw22.HaulTrucks', WHERE WHAT IT READS IS OF BULK AT MOST 1048576: true; the input reads as it did. -/
def haulTrucksUptoRow : OpenClaim := { program := "ytafhjfkdlmijdaa", sum := "52783458ceb06c0a4a0ec05cfbdb305a7cd8f59b22fbb5611c80b335d24e0f13", func := "wharfage/wharfagelaw22.HaulTrucks", spec := "haulTrucks", inPlace := ["math.Float64bits", "math.Float64frombits", "slices.overlaps[int]"], unfollowed := true, recurses := true, apart := false, narrowed := true }
def HaulTrucksUptoSaid : Prop := haulTrucksUptoRow.holds Try.pinned (OpenSpec.upto haulTrucksSpec)

/-- 'wharfagelaw22.HaulFits', WHERE WHAT IT READS IS OF BULK AT MOST 1048576: true; the input reads as it did. -/
def haulFitsUptoRow : OpenClaim := { program := "ytafhjfkdlmijdaa", sum := "52783458ceb06c0a4a0ec05cfbdb305a7cd8f59b22fbb5611c80b335d24e0f13", func := "wharfage/wharfagelaw22.HaulFits", spec := "haulFits", inPlace := ["math.Float64bits", "math.Float64frombits", "slices.overlaps[int]"], unfollowed := true, recurses := true, apart := false, narrowed := true }
def HaulFitsUptoSaid : Prop := haulFitsUptoRow.holds Try.pinned (OpenSpec.upto haulFitsSpec)

/-- 'wharfagelaw22.HaulWholes', WHERE WHAT IT READS IS OF BULK AT MOST 1048576: true; the input reads as it did. -/
def haulWholesUptoRow : OpenClaim := { program := "ytafhjfkdlmijdaa", sum := "52783458ceb06c0a4a0ec05cfbdb305a7cd8f59b22fbb5611c80b335d24e0f13", func := "wharfage/wharfagelaw22.HaulWholes", spec := "haulWholes", inPlace := ["math.Float64bits", "math.Float64frombits", "slices.overlaps[int]"], unfollowed := true, recurses := true, apart := false, narrowed := true }
def HaulWholesUptoSaid : Prop := haulWholesUptoRow.holds Try.pinned (OpenSpec.upto haulWholesSpec)

/-- 'wharfagelaw18.ClockAny', WHERE WHAT IT READS IS OF BULK AT MOST 1048576: true; the input reads as it did. -/
def clockAnyUptoRow : OpenClaim := { program := "ytafhjfkdlmijdaa", sum := "52783458ceb06c0a4a0ec05cfbdb305a7cd8f59b22fbb5611c80b335d24e0f13", func := "wharfage/wharfagelaw18.ClockAny", spec := "clockAny", inPlace := ["slices.overlaps[int]"], unfollowed := true, recurses := true, apart := false, narrowed := true }
def ClockAnyUptoSaid : Prop := clockAnyUptoRow.holds Try.pinned (OpenSpec.upto clockAnySpec)

/-- 'wharfagelaw18.ClockLeast', WHERE WHAT IT READS IS OF BULK AT MOST 1048576: true; the input reads as it did. -/
def clockLeastUptoRow : OpenClaim := { program := "ytafhjfkdlmijdaa", sum := "52783458ceb06c0a4a0ec05cfbdb305a7cd8f59b22fbb5611c80b335d24e0f13", func := "wharfage/wharfagelaw18.ClockLeast", spec := "clockLeast", inPlace := ["slices.overlaps[int]"], unfollowed := true, recurses := true, apart := false, narrowed := true }
def ClockLeastUptoSaid : Prop := clockLeastUptoRow.holds Try.pinned (OpenSpec.upto clockLeastSpec)

/-- 'wharfagelaw18.ClockSames', WHERE WHAT IT READS IS OF BULK AT MOST 1048576: true; the input reads as it did. -/
def clockSamesUptoRow : OpenClaim := { program := "ytafhjfkdlmijdaa", sum := "52783458ceb06c0a4a0ec05cfbdb305a7cd8f59b22fbb5611c80b335d24e0f13", func := "wharfage/wharfagelaw18.ClockSames", spec := "clockSames", inPlace := ["slices.overlaps[int]"], unfollowed := true, recurses := true, apart := false, narrowed := true }
def ClockSamesUptoSaid : Prop := clockSamesUptoRow.holds Try.pinned (OpenSpec.upto clockSamesSpec)

/-- 'wharfagelaw18.ClockEarly', WHERE WHAT IT READS IS OF BULK AT MOST 1048576: true; the input reads as it did. -/
def clockEarlyUptoRow : OpenClaim := { program := "ytafhjfkdlmijdaa", sum := "52783458ceb06c0a4a0ec05cfbdb305a7cd8f59b22fbb5611c80b335d24e0f13", func := "wharfage/wharfagelaw18.ClockEarly", spec := "clockEarly", inPlace := ["slices.overlaps[int]"], unfollowed := true, recurses := true, apart := false, narrowed := true }
def ClockEarlyUptoSaid : Prop := clockEarlyUptoRow.holds Try.pinned (OpenSpec.upto clockEarlySpec)

/-- 'wharfagelaw18.ClockChecks', WHERE WHAT IT READS IS OF BULK AT MOST 1048576: true; the input reads as it did. -/
def clockChecksUptoRow : OpenClaim := { program := "ytafhjfkdlmijdaa", sum := "52783458ceb06c0a4a0ec05cfbdb305a7cd8f59b22fbb5611c80b335d24e0f13", func := "wharfage/wharfagelaw18.ClockChecks", spec := "clockChecks", inPlace := ["slices.overlaps[int]"], unfollowed := true, recurses := true, apart := false, narrowed := true }
def ClockChecksUptoSaid : Prop := clockChecksUptoRow.holds Try.pinned (OpenSpec.upto clockChecksSpec)

end Rows
end Go.Proofs.Ytafhjfkdlmijdaa
