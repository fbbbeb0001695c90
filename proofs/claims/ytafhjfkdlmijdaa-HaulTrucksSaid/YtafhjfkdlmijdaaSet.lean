/- Contracts: package set. -/
import Derived.Test.YtafhjfkdlmijdaaFacts
import Derived.Laws.ShiftsVar
import Derived.Laws.BitsAllLaws
import Derived.Lib.BitFns
namespace Go.Proofs.Ytafhjfkdlmijdaa
open Go.RowKit

def setIn (i : Int) : Bool := decide (0 ≤ i) && decide (i < 64)
theorem in_c (i : Int) (w : World) : Calls Try.prog 115 #[.int .i64 i] w fun e w' => e = .returned (.bool (setIn i)) ∧ w' = w := by
  by_cases h1 : 0 ≤ i <;> by_cases h2 : i < 64
  all_goals
    go_enter Try.func115, Try.ntmps115
    go_wp2
    go_ret
    exact ⟨ret_bool (by simp [setIn]; omega), rfl⟩

theorem bit_has (m i : Nat) (hm : m < 18446744073709551616) : (bits BinOp.and IntKind.u64 ((m : Int) / 2 ^ i) 1 == 1) = m.testBit i := by
  have h1 : ((m : Int) / 2 ^ i) = ((m / 2 ^ i : Nat) : Int) := by simp
  have h2 : m / 2 ^ i < 18446744073709551616 := Nat.lt_of_le_of_lt (Nat.div_le_self _ _) hm
  rw [h1, show (1 : Int) = ((1 : Nat) : Int) from rfl, u64_and_nat _ _ h2 (by decide), nat_mask1, Nat.testBit_eq_decide_div_mod_eq]
  have h3 : m / 2 ^ i % 2 = 0 ∨ m / 2 ^ i % 2 = 1 := by omega
  rcases h3 with h3 | h3 <;> rw [h3] <;> rfl
theorem bit_with (m i : Nat) (hi : i < 64) (hm : m < 18446744073709551616) : bits BinOp.or IntKind.u64 (m : Int) (IntKind.u64.wrap (2 ^ i)) = ((m ||| 2 ^ i : Nat) : Int) := by
  have h2 : 2 ^ i < 18446744073709551616 := by
    have := Nat.pow_lt_pow_right (a := 2) (by decide) hi
    exact this
  have h1 : IntKind.u64.wrap (2 ^ i) = ((2 ^ i : Nat) : Int) := by
    rw [IntKind.wrap_u64, show ((2 : Int) ^ i) = ((2 ^ i : Nat) : Int) by simp]
    exact Int.emod_eq_of_lt (Int.natCast_nonneg _) (Int.ofNat_lt.2 h2)
  rw [h1, u64_or_nat _ _ hm h2]
theorem has_yes (m i : Nat) (hi : i < 64) (hm : m < 18446744073709551616) (w : World) : Calls Try.prog 97 #[.int .u64 (m : Int), .int .i64 (i : Int)] w fun e w' => e = .returned (.bool (m.testBit i)) ∧ w' = w := by
  have h1 := hid (show setIn (i : Int) = true from by simp [setIn]; omega)
  have h2 := hid (bit_has m i hm)
  clear hm
  go_enter Try.func97, Try.ntmps97
  go_wp2_with (go_at_call 115; refine (in_c _ _).mono ?_; rintro e w' ⟨rfl, rfl⟩; rw [h1.out])
  go_ret
  exact ⟨ret_bool h2.out, rfl⟩
theorem with_yes (m i : Nat) (hi : i < 64) (hm : m < 18446744073709551616) (w : World) : Calls Try.prog 98 #[.int .u64 (m : Int), .int .i64 (i : Int)] w fun e w' => e = .returned (.int .u64 ((m ||| 2 ^ i : Nat) : Int)) ∧ w' = w := by
  have h1 := hid (show setIn (i : Int) = true from by simp [setIn]; omega)
  have h2 := hid (bit_with m i hi hm)
  clear hm
  go_enter Try.func98, Try.ntmps98
  go_wp2_with (go_at_call 115; refine (in_c _ _).mono ?_; rintro e w' ⟨rfl, rfl⟩; rw [h1.out])
  go_ret
  exact ⟨ret_int h2.out, rfl⟩
theorem ones_c (m : Nat) (hm : m < 64) (w : World) : Calls Try.prog 116 #[.int .u64 (m : Int)] w fun e w' => e = .returned (.int .i64 (Lib.onesCount m : Nat)) ∧ w' = w := by
  go_enter Try.func116, Try.ntmps116
  go_wp2
  go_ret
  refine ⟨ret_int ?_, rfl⟩
  revert m
  decide +kernel
theorem len_c (m : Nat) (hm : m < 64) (w : World) : Calls Try.prog 99 #[.int .u64 (m : Int)] w fun e w' => e = .returned (.int .i64 (Lib.onesCount m : Nat)) ∧ w' = w := by
  go_enter Try.func99, Try.ntmps99
  go_wp2_with (go_at_call 116; refine (ones_c m hm _).mono ?_; rintro e w' ⟨rfl, rfl⟩)
  go_ret
  exact ⟨rfl, rfl⟩
end Go.Proofs.Ytafhjfkdlmijdaa
