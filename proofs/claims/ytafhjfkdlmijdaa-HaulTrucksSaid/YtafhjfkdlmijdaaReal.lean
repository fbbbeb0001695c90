/- Contracts: math.IsInf, math.Signbit, real.Of, real.Less, real.Ratio at floats that are not below nought. -/
import Derived.Test.YtafhjfkdlmijdaaFloat
import Derived.Test.YtafhjfkdlmijdaaProg
import Derived.Laws.BitsAllLaws
import Derived.Lib.BitFns
namespace Go.Proofs.Ytafhjfkdlmijdaa
open Go.RowKit

theorem run_fbits (b : Nat) (w : World) : (callFunc 124 #[.float .f64 b]).run Try.prog w = .ok (.value (.int .u64 (b : Int))) w := by kernel_rfl
theorem f64_order (a b : Nat) : FloatKind.f64.format.order a b = Ieee.double.order a b := rfl
theorem max_le : 9218868437227405311 ≤ fInf := by unfold fInf; omega
theorem max_test {b : Nat} (hb : b ≤ fInf) : (FloatKind.f64.format.order b 9218868437227405311 == some Ordering.gt) = decide (b = fInf) := by
  rw [f64_order, order_nn hb max_le]
  by_cases h : b = fInf
  · rw [decide_eq_true h, Nat.compare_eq_gt.2 (by rw [h]; unfold fInf; omega)]; rfl
  · rw [decide_eq_false h]
    have h1 : b ≤ 9218868437227405311 := by unfold fInf at hb h; omega
    rcases Nat.lt_or_eq_of_le h1 with h2 | h2
    · rw [Nat.compare_eq_lt.2 h2]; rfl
    · rw [Nat.compare_eq_eq.2 h2]; rfl
theorem neg_test {b : Nat} (hb : b ≤ fInf) : (FloatKind.f64.format.order (Op.negFloat .f64 b) 9218868437227405311 == some Ordering.gt) = false := by
  have e : Op.negFloat .f64 b = 9223372036854775808 + b := by
    have hlt : b < 2 ^ 63 := by unfold fInf at hb; omega
    show b ^^^ 2 ^ 63 = _
    have ho := Nat.two_pow_add_eq_or_of_lt hlt 1
    rw [Nat.mul_one] at ho
    rw [show (9223372036854775808 : Nat) = 2 ^ 63 from rfl, ho]
    apply Nat.eq_of_testBit_eq
    intro i
    rw [Nat.testBit_xor, Nat.testBit_or, Nat.testBit_two_pow]
    by_cases hi : 63 = i
    · subst hi; rw [Nat.testBit_lt_two_pow hlt]; rfl
    · simp [hi]
  rw [f64_order, e]
  have := order_neg (b := 9218868437227405311) hb (by unfold fInf; omega)
  simpa using this
theorem isInf_up (b : Nat) (hb : b ≤ fInf) (w : World) : Calls Try.prog 112 #[.float .f64 b, .int .i64 1] w fun e w' => e = .returned (.bool (decide (b = fInf))) ∧ w' = w := by
  have HB := hid (max_test hb)
  clear hb
  go_enter Try.func112, Try.ntmps112
  go_wp2_with fail
  go_ret
  exact ⟨ret_bool HB.out, rfl⟩
theorem run_neg (b : Nat) (w : World) : (Op.unary .neg (.float .f64 b)).run Try.prog w = .ok (.float .f64 (Op.negFloat .f64 b)) w := rfl
theorem isInf_down (b : Nat) (hb : b ≤ fInf) (w : World) : Calls Try.prog 112 #[.float .f64 b, .int .i64 (-1)] w fun e w' => e = .returned (.bool false) ∧ w' = w := by
  have HB := hid (neg_test hb)
  clear hb
  go_enter Try.func112, Try.ntmps112
  go_wp2_with fail
  rw [run_neg]
  go_wp2_with fail
  go_ret
  exact ⟨ret_bool HB.out, rfl⟩
set_option maxRecDepth 100000 in
theorem signbit_c (b : Nat) (hb : b ≤ fInf) (w : World) : Calls Try.prog 113 #[.float .f64 b] w fun e w' => e = .returned (.bool false) ∧ w' = w := by
  have hw : wrap64 (b : Int) = b := by unfold fInf at hb; unfold wrap64; omega
  have HB := hid hw
  clear hb hw
  go_enter Try.func113, Try.ntmps113
  go_wp2_with fail
  rw [run_fbits]
  go_wp2_with fail
  go_ret
  exact ⟨ret_bool (by rw [HB.out]; simp), rfl⟩

/-- real.Of, of a float that is not below nought -/
def kindF (b : Nat) : Int := if b = fInf then 5 else if 0 < b then 4 else 3
theorem self_test {b : Nat} (hb : b ≤ fInf) : (FloatKind.f64.format.order b b != some Ordering.eq) = false := by rw [f64_order, order_eq hb]; rfl
theorem zero_lt {b : Nat} (hb : b ≤ fInf) : (FloatKind.f64.format.order b 0 == some Ordering.lt) = false := by
  rw [f64_order, order_nn hb (Nat.zero_le _)]
  rcases Nat.eq_zero_or_pos b with h | h
  · rw [h]; rfl
  · rw [Nat.compare_eq_gt.2 h]; rfl
theorem zero_gt {b : Nat} (hb : b ≤ fInf) : (FloatKind.f64.format.order b 0 == some Ordering.gt) = decide (0 < b) := by
  rw [f64_order, order_nn hb (Nat.zero_le _)]
  rcases Nat.eq_zero_or_pos b with h | h
  · rw [h]; rfl
  · rw [Nat.compare_eq_gt.2 h, decide_eq_true h]; rfl
theorem of_c (b : Nat) (hb : b ≤ fInf) (w : World) : Calls Try.prog 92 #[.float .f64 b] w fun e w' => e = .returned (.int .i64 (kindF b)) ∧ w' = w := by
  have t1 := self_test hb
  have t2 := zero_lt hb
  have t3 := zero_gt hb
  have HD := hid (isInf_down b hb)
  have HU := hid (isInf_up b hb)
  have HS := hid (signbit_c b hb)
  clear hb
  by_cases h1 : b = fInf
  · have HK := hid (show kindF b = 5 from if_pos h1)
    have HT := hid (decide_eq_true h1)
    clear h1 t2 t3
    go_enter Try.func92, Try.ntmps92
    go_wp2_with fail
    refine (HD.out _).mono ?_
    rintro e w' ⟨rfl, rfl⟩
    go_wp2_with fail
    refine (HU.out _).mono ?_
    rintro e w' ⟨rfl, rfl⟩
    rw [HT.out]
    go_wp2
    go_ret
    exact ⟨ret_int HK.out.symm, rfl⟩
  · have HT := hid (decide_eq_false h1)
    by_cases h2 : 0 < b
    · have HK := hid (show kindF b = 4 from by unfold kindF; rw [if_neg h1, if_pos h2])
      rw [decide_eq_true h2] at t3
      clear h1 h2
      go_enter Try.func92, Try.ntmps92
      go_wp2_with fail
      refine (HD.out _).mono ?_
      rintro e w' ⟨rfl, rfl⟩
      go_wp2_with fail
      refine (HU.out _).mono ?_
      rintro e w' ⟨rfl, rfl⟩
      rw [HT.out]
      go_wp2
      go_ret
      exact ⟨ret_int HK.out.symm, rfl⟩
    · have HK := hid (show kindF b = 3 from by unfold kindF; rw [if_neg h1, if_neg h2])
      rw [decide_eq_false h2] at t3
      clear h1 h2
      go_enter Try.func92, Try.ntmps92
      go_wp2_with fail
      refine (HD.out _).mono ?_
      rintro e w' ⟨rfl, rfl⟩
      go_wp2_with fail
      refine (HU.out _).mono ?_
      rintro e w' ⟨rfl, rfl⟩
      rw [HT.out]
      go_wp2_with fail
      refine (HS.out _).mono ?_
      rintro e w' ⟨rfl, rfl⟩
      go_wp2
      go_ret
      exact ⟨ret_int HK.out.symm, rfl⟩
theorem lt_test {a b : Nat} (ha : a ≤ fInf) (hb : b ≤ fInf) : (FloatKind.f64.format.order a b == some Ordering.lt) = decide (a < b) := by
  rw [f64_order, order_nn ha hb]
  rcases Nat.lt_trichotomy a b with h | h | h
  · rw [Nat.compare_eq_lt.2 h, decide_eq_true h]; rfl
  · rw [Nat.compare_eq_eq.2 h, decide_eq_false (by omega)]; rfl
  · rw [Nat.compare_eq_gt.2 h, decide_eq_false (by omega)]; rfl
theorem kind_lt {a b : Nat} (ha : a ≤ fInf) (hb : b ≤ fInf) (h : kindF a ≠ kindF b) : decide (kindF a < kindF b) = decide (a < b) := by
  unfold kindF at *
  split at h <;> split at h <;> (try split at h) <;> (try split at h) <;> simp_all <;> omega
/-- real.Less: as the bits. -/
theorem less_c (a b : Nat) (ha : a ≤ fInf) (hb : b ≤ fInf) (w : World) : Calls Try.prog 60 #[.float .f64 a, .float .f64 b] w fun e w' => e = .returned (.bool (decide (a < b))) ∧ w' = w := by
  have HA := hid (of_c a ha)
  have HB := hid (of_c b hb)
  by_cases hk : kindF a = kindF b
  · have t1 : (kindF a != kindF b) = false := by simp [hk]
    have HL := hid (lt_test ha hb)
    clear hk ha hb
    go_enter Try.func60, Try.ntmps60
    go_wp2_with fail
    refine (HA.out _).mono ?_
    rintro e w' ⟨rfl, rfl⟩
    go_wp2_with fail
    refine (HB.out _).mono ?_
    rintro e w' ⟨rfl, rfl⟩
    go_wp2
    go_ret
    exact ⟨ret_bool HL.out, rfl⟩
  · have t1 : (kindF a != kindF b) = true := by simp [hk]
    have HL := hid (kind_lt ha hb hk)
    clear hk ha hb
    go_enter Try.func60, Try.ntmps60
    go_wp2_with fail
    refine (HA.out _).mono ?_
    rintro e w' ⟨rfl, rfl⟩
    go_wp2_with fail
    refine (HB.out _).mono ?_
    rintro e w' ⟨rfl, rfl⟩
    go_wp2
    go_ret
    exact ⟨ret_bool HL.out, rfl⟩
theorem ratio_c (a n : Int) (h0 : 0 ≤ a) (h : a < 9223372036854775808) (h1 : 0 < n) (h2 : n < 9223372036854775808) (w : World) :
    Calls Try.prog 56 #[.int .i64 a, .int .i64 n] w fun e w' => e = .returned (.float .f64 (ratioF a n)) ∧ w' = w := by
  have hr : ∀ w, (binOp .quo 65 (.float .f64 (floatOfInt .f64 a)) (.float .f64 (floatOfInt .f64 n))).run Try.prog w = .ok (.float .f64 (ratioF a n)) w := fun w => run_float_arith w .quo _ _ _ _ _ (ratio_some h0 h h1 h2).1
  clear h0 h h1 h2
  go_enter Try.func56, Try.ntmps56
  go_wp2
  go_ret
  exact ⟨rfl, rfl⟩
end Go.Proofs.Ytafhjfkdlmijdaa
