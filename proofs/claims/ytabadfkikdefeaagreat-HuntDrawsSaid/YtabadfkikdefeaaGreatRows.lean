/-
  No cell of these rows narrows 'for every input' (looked for: loops, veiled, ifaces, maps, wideKeys, modest, calm, conditions, laid).
  DERIVED. THE GIVEN ROWS OF THIS SEAT. 9 by the template 'for every input the law returns true; each argument reads behind the call as it read before'; 0 by the template 'total and deterministic' (their statements: YtabadfkikdefeaaGreatTotals.lean).
  GIVEN WITH THE SEED: the statements are not yours to turn. If you find one false, say at which input.
  Laid BY PROGRAM, IN A SANDBOX (cutbox-rows.mjs): the forced cells as the released guide's own fill.sh prints them over the translation ac8c68919416fad9… (all of the seat's roots in one cut). By AI agents, Wed Nov 11 2026. No macro, syntax, notation, axiom, sorry.
-/
import Derived.Test.YtabadfkikdefeaaGreatChecked
import GoSem.Claim
import GoSem.ClaimJoined
import GoSem.ClaimMapViews
import Derived.JoinedTies
import Derived.KernelRfl
namespace Go.Proofs.YtabadfkikdefeaaGreat
/- THE CELL 'sum', in the pinned program and in every row, IS THE sha256 OF THE DUMP (.gsa) THAT YtabadfkikdefeaaGreatProg.lean LOADS. Nothing in Lean hashes anything: it is a label: what it is worth is what the hold of that sum in a sandbox is worth. -/
noncomputable def Tryz.pinned : Pinned := { name := "ytabadfkikdefeaagreat", sum := "ac8c68919416fad942334957926b2904652e48a93c71f1b5e1e0224f90bc9bb5", checked := Tryz.checked }
namespace Rows
def none {H : Type} : Left H := { results := [], args := [] }

/-- 'wharfagelaw20.SheetTexts': WHATEVER THE INPUT: true; the input reads as it did. -/
def sheetTextsSpec : ChangeSpec := { name := "sheetTexts", fn := fun _ => fun
  | [d1, d2, d3, d4, d5, d6, d7] => { results := [.lit (.bool true)], args := [d1, d2, d3, d4, d5, d6, d7] }
  | _ => none }
def sheetTextsRow : OpenClaim := { program := "ytabadfkikdefeaagreat", sum := "ac8c68919416fad942334957926b2904652e48a93c71f1b5e1e0224f90bc9bb5", func := "wharfage/wharfagelaw20.SheetTexts", spec := "sheetTexts", inPlace := ["internal/abi.NoEscape", "slices.overlaps[int]"], unfollowed := true, recurses := true, apart := false }
def SheetTextsSaid : Prop := sheetTextsRow.holds Tryz.pinned (OpenSpec.ofChange sheetTextsSpec)

/-- ITS FALSE NEIGHBOUR: 'it returns false'. Refute it at one input. -/
def sheetTextsWrong : ChangeSpec := { name := "sheetTexts", fn := fun _ => fun
  | [d1, d2, d3, d4, d5, d6, d7] => { results := [.lit (.bool false)], args := [d1, d2, d3, d4, d5, d6, d7] }
  | _ => none }
def SheetTextsWrongFalsely : Prop := sheetTextsRow.holds Tryz.pinned (OpenSpec.ofChange sheetTextsWrong)

/-- 'wharfagelaw20.SheetReads': WHATEVER THE INPUT: true; the input reads as it did. -/
def sheetReadsSpec : ChangeSpec := { name := "sheetReads", fn := fun _ => fun
  | [d] => { results := [.lit (.bool true)], args := [d] }
  | _ => none }
def sheetReadsRow : OpenClaim := { program := "ytabadfkikdefeaagreat", sum := "ac8c68919416fad942334957926b2904652e48a93c71f1b5e1e0224f90bc9bb5", func := "wharfage/wharfagelaw20.SheetReads", spec := "sheetReads", inPlace := ["internal/abi.NoEscape"], unfollowed := true, recurses := true, apart := false }
def SheetReadsSaid : Prop := sheetReadsRow.holds Tryz.pinned (OpenSpec.ofChange sheetReadsSpec)

/-- ITS FALSE NEIGHBOUR: 'it returns false'. Refute it at one input. -/
def sheetReadsWrong : ChangeSpec := { name := "sheetReads", fn := fun _ => fun
  | [d] => { results := [.lit (.bool false)], args := [d] }
  | _ => none }
def SheetReadsWrongFalsely : Prop := sheetReadsRow.holds Tryz.pinned (OpenSpec.ofChange sheetReadsWrong)

/-- 'wharfagelaw20.SheetAgain': WHATEVER THE INPUT: true; the input reads as it did. -/
def sheetAgainSpec : ChangeSpec := { name := "sheetAgain", fn := fun _ => fun
  | [d] => { results := [.lit (.bool true)], args := [d] }
  | _ => none }
def sheetAgainRow : OpenClaim := { program := "ytabadfkikdefeaagreat", sum := "ac8c68919416fad942334957926b2904652e48a93c71f1b5e1e0224f90bc9bb5", func := "wharfage/wharfagelaw20.SheetAgain", spec := "sheetAgain", inPlace := ["internal/abi.NoEscape"], unfollowed := true, recurses := true, apart := false }
def SheetAgainSaid : Prop := sheetAgainRow.holds Tryz.pinned (OpenSpec.ofChange sheetAgainSpec)

/-- ITS FALSE NEIGHBOUR: 'it returns false'. Refute it at one input. -/
def sheetAgainWrong : ChangeSpec := { name := "sheetAgain", fn := fun _ => fun
  | [d] => { results := [.lit (.bool false)], args := [d] }
  | _ => none }
def SheetAgainWrongFalsely : Prop := sheetAgainRow.holds Tryz.pinned (OpenSpec.ofChange sheetAgainWrong)

/-- 'wharfagelaw19.FeasSames': WHATEVER THE INPUT: true; the input reads as it did. -/
def feasSamesSpec : ChangeSpec := { name := "feasSames", fn := fun _ => fun
  | [d1, d2, d3, d4, d5, d6, d7] => { results := [.lit (.bool true)], args := [d1, d2, d3, d4, d5, d6, d7] }
  | _ => none }
def feasSamesRow : OpenClaim := { program := "ytabadfkikdefeaagreat", sum := "ac8c68919416fad942334957926b2904652e48a93c71f1b5e1e0224f90bc9bb5", func := "wharfage/wharfagelaw19.FeasSames", spec := "feasSames", inPlace := ["slices.overlaps[int]"], unfollowed := true, recurses := true, apart := false }
def FeasSamesSaid : Prop := feasSamesRow.holds Tryz.pinned (OpenSpec.ofChange feasSamesSpec)

/-- ITS FALSE NEIGHBOUR: 'it returns false'. Refute it at one input. -/
def feasSamesWrong : ChangeSpec := { name := "feasSames", fn := fun _ => fun
  | [d1, d2, d3, d4, d5, d6, d7] => { results := [.lit (.bool false)], args := [d1, d2, d3, d4, d5, d6, d7] }
  | _ => none }
def FeasSamesWrongFalsely : Prop := feasSamesRow.holds Tryz.pinned (OpenSpec.ofChange feasSamesWrong)

/-- 'wharfagelaw21.FillAssigns': WHATEVER THE INPUT: true; the input reads as it did. -/
def fillAssignsSpec : ChangeSpec := { name := "fillAssigns", fn := fun _ => fun
  | [d] => { results := [.lit (.bool true)], args := [d] }
  | _ => none }
def fillAssignsRow : OpenClaim := { program := "ytabadfkikdefeaagreat", sum := "ac8c68919416fad942334957926b2904652e48a93c71f1b5e1e0224f90bc9bb5", func := "wharfage/wharfagelaw21.FillAssigns", spec := "fillAssigns", inPlace := ["slices.overlaps[int]"], unfollowed := true, recurses := true, apart := false }
def FillAssignsSaid : Prop := fillAssignsRow.holds Tryz.pinned (OpenSpec.ofChange fillAssignsSpec)

/-- ITS FALSE NEIGHBOUR: 'it returns false'. Refute it at one input. -/
def fillAssignsWrong : ChangeSpec := { name := "fillAssigns", fn := fun _ => fun
  | [d] => { results := [.lit (.bool false)], args := [d] }
  | _ => none }
def FillAssignsWrongFalsely : Prop := fillAssignsRow.holds Tryz.pinned (OpenSpec.ofChange fillAssignsWrong)

/-- 'wharfagelaw21.FillFits': WHATEVER THE INPUT: true; the input reads as it did. -/
def fillFitsSpec : ChangeSpec := { name := "fillFits", fn := fun _ => fun
  | [d1, d2, d3, d4, d5, d6, d7] => { results := [.lit (.bool true)], args := [d1, d2, d3, d4, d5, d6, d7] }
  | _ => none }
def fillFitsRow : OpenClaim := { program := "ytabadfkikdefeaagreat", sum := "ac8c68919416fad942334957926b2904652e48a93c71f1b5e1e0224f90bc9bb5", func := "wharfage/wharfagelaw21.FillFits", spec := "fillFits", inPlace := ["slices.overlaps[int]"], unfollowed := true, recurses := true, apart := false }
def FillFitsSaid : Prop := fillFitsRow.holds Tryz.pinned (OpenSpec.ofChange fillFitsSpec)

/-- ITS FALSE NEIGHBOUR: 'it returns false'. Refute it at one input. -/
def fillFitsWrong : ChangeSpec := { name := "fillFits", fn := fun _ => fun
  | [d1, d2, d3, d4, d5, d6, d7] => { results := [.lit (.bool false)], args := [d1, d2, d3, d4, d5, d6, d7] }
  | _ => none }
def FillFitsWrongFalsely : Prop := fillFitsRow.holds Tryz.pinned (OpenSpec.ofChange fillFitsWrong)

/-- 'wharfagelaw21.FillRight': WHATEVER THE INPUT: true; the input reads as it did. -/
def fillRightSpec : ChangeSpec := { name := "fillRight", fn := fun _ => fun
  | [d] => { results := [.lit (.bool true)], args := [d] }
  | _ => none }
def fillRightRow : OpenClaim := { program := "ytabadfkikdefeaagreat", sum := "ac8c68919416fad942334957926b2904652e48a93c71f1b5e1e0224f90bc9bb5", func := "wharfage/wharfagelaw21.FillRight", spec := "fillRight", inPlace := ["slices.overlaps[int]"], unfollowed := true, recurses := true, apart := false }
def FillRightSaid : Prop := fillRightRow.holds Tryz.pinned (OpenSpec.ofChange fillRightSpec)

/-- ITS FALSE NEIGHBOUR: 'it returns false'. Refute it at one input. -/
def fillRightWrong : ChangeSpec := { name := "fillRight", fn := fun _ => fun
  | [d] => { results := [.lit (.bool false)], args := [d] }
  | _ => none }
def FillRightWrongFalsely : Prop := fillRightRow.holds Tryz.pinned (OpenSpec.ofChange fillRightWrong)

/-- 'wharfagelaw26.HuntErrors': WHATEVER THE INPUT: true; the input reads as it did. -/
def huntErrorsSpec : ChangeSpec := { name := "huntErrors", fn := fun _ => fun
  | [d1, d2, d3, d4, d5, d6] => { results := [.lit (.bool true)], args := [d1, d2, d3, d4, d5, d6] }
  | _ => none }
def huntErrorsRow : OpenClaim := { program := "ytabadfkikdefeaagreat", sum := "ac8c68919416fad942334957926b2904652e48a93c71f1b5e1e0224f90bc9bb5", func := "wharfage/wharfagelaw26.HuntErrors", spec := "huntErrors", inPlace := ["slices.overlaps[int]", "math.Float64bits", "math.Float64frombits"], unfollowed := true, recurses := true, apart := false }
def HuntErrorsSaid : Prop := huntErrorsRow.holds Tryz.pinned (OpenSpec.ofChange huntErrorsSpec)

/-- ITS FALSE NEIGHBOUR: 'it returns false'. Refute it at one input. -/
def huntErrorsWrong : ChangeSpec := { name := "huntErrors", fn := fun _ => fun
  | [d1, d2, d3, d4, d5, d6] => { results := [.lit (.bool false)], args := [d1, d2, d3, d4, d5, d6] }
  | _ => none }
def HuntErrorsWrongFalsely : Prop := huntErrorsRow.holds Tryz.pinned (OpenSpec.ofChange huntErrorsWrong)

/-- 'wharfagelaw26.HuntDraws': WHATEVER THE INPUT: true; the input reads as it did. -/
def huntDrawsSpec : ChangeSpec := { name := "huntDraws", fn := fun _ => fun
  | [d1, d2, d3] => { results := [.lit (.bool true)], args := [d1, d2, d3] }
  | _ => none }
def huntDrawsRow : OpenClaim := { program := "ytabadfkikdefeaagreat", sum := "ac8c68919416fad942334957926b2904652e48a93c71f1b5e1e0224f90bc9bb5", func := "wharfage/wharfagelaw26.HuntDraws", spec := "huntDraws", inPlace := ["slices.overlaps[int]", "math.Float64bits", "math.Float64frombits"], unfollowed := true, recurses := true, apart := false }
def HuntDrawsSaid : Prop := huntDrawsRow.holds Tryz.pinned (OpenSpec.ofChange huntDrawsSpec)

/-- ITS FALSE NEIGHBOUR: 'it returns false'. Refute it at one input. -/
def huntDrawsWrong : ChangeSpec := { name := "huntDraws", fn := fun _ => fun
  | [d1, d2, d3] => { results := [.lit (.bool false)], args := [d1, d2, d3] }
  | _ => none }
def HuntDrawsWrongFalsely : Prop := huntDrawsRow.holds Tryz.pinned (OpenSpec.ofChange huntDrawsWrong)

/- THE SECOND FORM. 'bulk': how many values and letters a reading holds, each counted each time it is reached (what is shared counts as often as it is met; a slice's spare places count too). A statement '..UptoSaid' is the law's where the arguments, and the package variables that the reading takes, are together of bulk at most 1048576: NARROWER than '..Said'. Prove '..Said' where nothing that the law and all that it calls make is longer than what came in: it says more and counts as full. Else prove '..UptoSaid'. A law counts once. -/
mutual
def uptoBulk {H : Type} : DataW H → Nat
  | .lit (.string bytes) => bytes.length + 1
  | .lit _ => 1
  | .nil => 1
  | .ptr d => uptoBulk d + 1
  | .slice elems spare => uptoBulkAll elems + uptoBulkAll spare + 1
  | .agg parts => uptoBulkAll parts + 1
  | .iface _ d => uptoBulk d + 1
  | .map entries => uptoBulkEntries entries + 1
  | .held _ => 1
def uptoBulkAll {H : Type} : List (DataW H) → Nat
  | [] => 0
  | d :: r => uptoBulk d + uptoBulkAll r
def uptoBulkEntries {H : Type} : List (Lit × DataW H) → Nat
  | [] => 0
  | x :: r => uptoBulkEntry x + uptoBulkEntries r
def uptoBulkEntry {H : Type} : Lit × DataW H → Nat
  | (.string bytes, d) => bytes.length + uptoBulk d + 1
  | (_, d) => uptoBulk d + 1
 end
def uptoSmall : (H : Type) → List (DataW H) → Bool := fun _ ds => decide (uptoBulkAll ds ≤ 1048576)
def OpenSpec.upto (s : _root_.Go.ChangeSpec) : _root_.Go.OpenSpec := { _root_.Go.OpenSpec.ofChange s with cond := some uptoSmall }

/-- 'wharfagelaw20.SheetTexts', WHERE WHAT IT READS IS OF BULK AT MOST 1048576: true; the input reads as it did. -/
def sheetTextsUptoRow : OpenClaim := { program := "ytabadfkikdefeaagreat", sum := "ac8c68919416fad942334957926b2904652e48a93c71f1b5e1e0224f90bc9bb5", func := "wharfage/wharfagelaw20.SheetTexts", spec := "sheetTexts", inPlace := ["internal/abi.NoEscape", "slices.overlaps[int]"], unfollowed := true, recurses := true, apart := false, narrowed := true }
def SheetTextsUptoSaid : Prop := sheetTextsUptoRow.holds Tryz.pinned (OpenSpec.upto sheetTextsSpec)

/-- 'wharfagelaw20.SheetReads', WHERE WHAT IT READS IS OF BULK AT MOST 1048576: true; the input reads as it did. -/
def sheetReadsUptoRow : OpenClaim := { program := "ytabadfkikdefeaagreat", sum := "ac8c68919416fad942334957926b2904652e48a93c71f1b5e1e0224f90bc9bb5", func := "wharfage/wharfagelaw20.SheetReads", spec := "sheetReads", inPlace := ["internal/abi.NoEscape"], unfollowed := true, recurses := true, apart := false, narrowed := true }
def SheetReadsUptoSaid : Prop := sheetReadsUptoRow.holds Tryz.pinned (OpenSpec.upto sheetReadsSpec)

/-- 'wharfagelaw20.SheetAgain', WHERE WHAT IT READS IS OF BULK AT MOST 1048576: true; the input reads as it did. -/
def sheetAgainUptoRow : OpenClaim := { program := "ytabadfkikdefeaagreat", sum := "ac8c68919416fad942334957926b2904652e48a93c71f1b5e1e0224f90bc9bb5", func := "wharfage/wharfagelaw20.SheetAgain", spec := "sheetAgain", inPlace := ["internal/abi.NoEscape"], unfollowed := true, recurses := true, apart := false, narrowed := true }
def SheetAgainUptoSaid : Prop := sheetAgainUptoRow.holds Tryz.pinned (OpenSpec.upto sheetAgainSpec)

/-- 'wharfagelaw19.FeasSames', WHERE WHAT IT READS IS OF BULK AT MOST 1048576: true; the input reads as it did. -/
def feasSamesUptoRow : OpenClaim := { program := "ytabadfkikdefeaagreat", sum := "ac8c68919416fad942334957926b2904652e48a93c71f1b5e1e0224f90bc9bb5", func := "wharfage/wharfagelaw19.FeasSames", spec := "feasSames", inPlace := ["slices.overlaps[int]"], unfollowed := true, recurses := true, apart := false, narrowed := true }
def FeasSamesUptoSaid : Prop := feasSamesUptoRow.holds Tryz.pinned (OpenSpec.upto feasSamesSpec)

/-- 'wharfagelaw21.FillAssigns', WHERE WHAT IT READS IS OF BULK AT MOST 1048576: true; the input reads as it did. -/
def fillAssignsUptoRow : OpenClaim := { program := "ytabadfkikdefeaagreat", sum := "ac8c68919416fad942334957926b2904652e48a93c71f1b5e1e0224f90bc9bb5", func := "wharfage/wharfagelaw21.FillAssigns", spec := "fillAssigns", inPlace := ["slices.overlaps[int]"], unfollowed := true, recurses := true, apart := false, narrowed := true }
def FillAssignsUptoSaid : Prop := fillAssignsUptoRow.holds Tryz.pinned (OpenSpec.upto fillAssignsSpec)

/-- 'wharfagelaw21.FillFits', WHERE WHAT IT READS IS OF BULK AT MOST 1048576: true; the input reads as it did. -/
def fillFitsUptoRow : OpenClaim := { program := "ytabadfkikdefeaagreat", sum := "ac8c68919416fad942334957926b2904652e48a93c71f1b5e1e0224f90bc9bb5", func := "wharfage/wharfagelaw21.FillFits", spec := "fillFits", inPlace := ["slices.overlaps[int]"], unfollowed := true, recurses := true, apart := false, narrowed := true }
def FillFitsUptoSaid : Prop := fillFitsUptoRow.holds Tryz.pinned (OpenSpec.upto fillFitsSpec)

/-- 'wharfagelaw21.FillRight', WHERE WHAT IT READS IS OF BULK AT MOST 1048576: true; the input reads as it did. -/
def fillRightUptoRow : OpenClaim := { program := "ytabadfkikdefeaagreat", sum := "ac8c68919416fad942334957926b2904652e48a93c71f1b5e1e0224f90bc9bb5", func := "wharfage/wharfagelaw21.FillRight", spec := "fillRight", inPlace := ["slices.overlaps[int]"], unfollowed := true, recurses := true, apart := false, narrowed := true }
def FillRightUptoSaid : Prop := fillRightUptoRow.holds Tryz.pinned (OpenSpec.upto fillRightSpec)

/-- 'wharfagelaw26.HuntErrors', WHERE WHAT IT READS IS OF BULK AT MOST 1048576: true; the input reads as it did. -/
def huntErrorsUptoRow : OpenClaim := { program := "ytabadfkikdefeaagreat", sum := "ac8c68919416fad942334957926b2904652e48a93c71f1b5e1e0224f90bc9bb5", func := "wharfage/wharfagelaw26.HuntErrors", spec := "huntErrors", inPlace := ["slices.overlaps[int]", "math.Float64bits", "math.Float64frombits"], unfollowed := true, recurses := true, apart := false, narrowed := true }
def HuntErrorsUptoSaid : Prop := huntErrorsUptoRow.holds Tryz.pinned (OpenSpec.upto huntErrorsSpec)

/-- 'wharfagelaw26.HuntDraws', WHERE WHAT IT READS IS OF BULK AT MOST 1048576: true; the input reads as it did. -/
def huntDrawsUptoRow : OpenClaim := { program := "ytabadfkikdefeaagreat", sum := "ac8c68919416fad942334957926b2904652e48a93c71f1b5e1e0224f90bc9bb5", func := "wharfage/wharfagelaw26.HuntDraws", spec := "huntDraws", inPlace := ["slices.overlaps[int]", "math.Float64bits", "math.Float64frombits"], unfollowed := true, recurses := true, apart := false, narrowed := true }
def HuntDrawsUptoSaid : Prop := huntDrawsUptoRow.holds Tryz.pinned (OpenSpec.upto huntDrawsSpec)

end Rows
end Go.Proofs.YtabadfkikdefeaaGreat
