/- The package's variables that are read: math/bits.deBruijn64tab. -/
import Derived.Test.YtbfbjghfcajddaaGreatDoorQ1
set_option linter.all false
set_option maxRecDepth 100000
set_option maxHeartbeats 6400000
namespace Go.Proofs.YtbfbjghfcajddaaGreatDoor.Ab
open Go.RowKit
def tabD : List Int := [0, 1, 56, 2, 57, 49, 28, 3, 61, 58, 42, 50, 38, 29, 17, 4, 62, 47, 59, 36, 45, 43, 51, 22, 53, 39, 33, 30, 24, 18, 12, 5, 63, 55, 48, 27, 60, 41, 37, 16, 46, 35, 44, 21, 52, 32, 23, 11, 54, 26, 40, 15, 34, 20, 31, 10, 25, 14, 19, 9, 13, 8, 7, 6]
def glV (g : Nat) : Option AV :=
 match g with
 | 0 => some (.rp 64 (fun j => .int .u8 (tabD.getD j 0)))
 | _ => none
def GlobOk (w : World) : Prop := 0 < w.heap.size ∧ ∀ i, i < 64 → w.cell? ⟨0, i, none⟩ = some (.int .u8 (tabD.getD i 0))
theorem GlobOk.below {w w' : World} (h : GlobOk w) (hb : Below w.heap.size w w') : GlobOk w' :=
 ⟨Nat.lt_of_lt_of_le h.1 hb.size, fun i hi => by
  have e := hb.block 0 h.1
  have := h.2 i hi
  simp only [World.cell?] at this ⊢
  rw [e]; exact this⟩
end Go.Proofs.YtbfbjghfcajddaaGreatDoor.Ab
