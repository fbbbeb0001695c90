/- Texts of the proof, joined: Float, Real, OrdCmp, SortD. -/
import Derived.Test.YtafhjfkdlmijdaaGa
import Derived.Test.YtafhjfkdlmijdaaProg
import Derived.Laws.BitsAllLaws
import Derived.Lib.BitFns
import Derived.Sort.Defs
/- Floats that are not below nought: how they stand to each other; a ratio of two whole numbers. No program in sight. -/
namespace Go.Proofs.Ytafhjfkdlmijdaa
open Go.RowKit Ieee

/-- The bits of the infinity above. -/
def fInf : Nat := 9218868437227405312
def fMag (b : Nat) : Nat := if b < 4503599627370496 then b else 4503599627370496 + b % 4503599627370496
def fPlc (b : Nat) : Nat := b / 4503599627370496 - 1
theorem dbl_binade : double.binade = 4503599627370496 := rfl
theorem dbl_weight : double.signWeight = 9223372036854775808 := rfl
theorem dbl_inf : double.infRung = 9218868437227405312 := rfl
theorem read_nn {b : Nat} (h : b < fInf) : double.read b = .number false (fMag b) (double.leastPlace + (fPlc b : Nat)) := by
  unfold fInf at h
  unfold Format.read
  rw [dbl_binade, dbl_weight, dbl_inf]
  have h1 : b % 9223372036854775808 = b := Nat.mod_eq_of_lt (by omega)
  have h2 : (b / 9223372036854775808 % 2 == 1) = false := by rw [Nat.div_eq_of_lt (by omega)]; rfl
  simp only [h1, h2]
  unfold fMag fPlc
  by_cases hb : b < 4503599627370496
  · rw [if_pos hb, if_pos hb, Nat.div_eq_of_lt hb]; simp
  · rw [if_neg hb, if_neg hb, if_pos (by omega)]
theorem read_inf : double.read fInf = .infinity false := by decide +kernel
theorem fMag_lt (b : Nat) : fMag b < 9007199254740992 := by unfold fMag; split <;> omega
theorem signed_pos (m k : Nat) : signed false m k = ((m <<< k : Nat) : Int) := rfl
theorem shift_lt {a b : Nat} (h : a < b) : (fMag a) <<< (fPlc a - min (fPlc a) (fPlc b)) < (fMag b) <<< (fPlc b - min (fPlc a) (fPlc b)) := by
  have hp : fPlc a ≤ fPlc b := by unfold fPlc; have := Nat.div_le_div_right (c := 4503599627370496) (Nat.le_of_lt h); omega
  rw [Nat.min_eq_left hp, Nat.sub_self, Nat.shiftLeft_zero, Nat.shiftLeft_eq]
  by_cases he : fPlc a = fPlc b
  · rw [he, Nat.sub_self, Nat.pow_zero, Nat.mul_one]
    unfold fMag fPlc at *
    split <;> split <;> omega
  · have hk : 1 ≤ fPlc b - fPlc a := by omega
    have h2 : 2 ^ 1 ≤ 2 ^ (fPlc b - fPlc a) := Nat.pow_le_pow_right (by decide) hk
    have h3 : 4503599627370496 ≤ fMag b := by unfold fMag; unfold fPlc at he hk; split <;> omega
    have h4 := fMag_lt a
    calc fMag a < 4503599627370496 * 2 ^ 1 := by omega
      _ ≤ fMag b * 2 ^ (fPlc b - fPlc a) := Nat.mul_le_mul h3 h2
theorem base_eq (a b : Nat) : min (double.leastPlace + (fPlc a : Nat)) (double.leastPlace + (fPlc b : Nat)) = double.leastPlace + ((min (fPlc a) (fPlc b) : Nat) : Int) := by omega
theorem order_lt {a b : Nat} (h : a < b) (hb : b ≤ fInf) : double.order a b = some .lt := by
  unfold Format.order
  rw [read_nn (by omega)]
  by_cases hi : b = fInf
  · rw [hi, read_inf]; rfl
  · rw [read_nn (by omega)]
    simp only [Datum.order, base_eq, signed_pos]
    have := shift_lt h
    rw [show (double.leastPlace + (fPlc a : Nat) - (double.leastPlace + ((min (fPlc a) (fPlc b) : Nat) : Int))).toNat = fPlc a - min (fPlc a) (fPlc b) by omega,
      show (double.leastPlace + (fPlc b : Nat) - (double.leastPlace + ((min (fPlc a) (fPlc b) : Nat) : Int))).toNat = fPlc b - min (fPlc a) (fPlc b) by omega]
    congr 1
    exact Int.compare_eq_lt.2 (by exact_mod_cast this)
theorem order_gt {a b : Nat} (h : b < a) (hb : a ≤ fInf) : double.order a b = some .gt := by
  unfold Format.order
  rw [read_nn (b := b) (by omega)]
  by_cases hi : a = fInf
  · rw [hi, read_inf]; rfl
  · rw [read_nn (by omega)]
    simp only [Datum.order, base_eq, signed_pos]
    have := shift_lt h
    rw [Nat.min_comm] at this
    rw [show (double.leastPlace + (fPlc a : Nat) - (double.leastPlace + ((min (fPlc a) (fPlc b) : Nat) : Int))).toNat = fPlc a - min (fPlc a) (fPlc b) by omega,
      show (double.leastPlace + (fPlc b : Nat) - (double.leastPlace + ((min (fPlc a) (fPlc b) : Nat) : Int))).toNat = fPlc b - min (fPlc a) (fPlc b) by omega]
    congr 1
    exact Int.compare_eq_gt.2 (by exact_mod_cast this)
theorem order_eq {a : Nat} (ha : a ≤ fInf) : double.order a a = some .eq := by
  unfold Format.order
  by_cases hi : a = fInf
  · rw [hi, read_inf]; rfl
  · rw [read_nn (by omega)]
    simp only [Datum.order]
    congr 1
    exact Int.compare_eq_eq.2 rfl
/-- Both not below nought: as their bits. -/
theorem order_nn {a b : Nat} (ha : a ≤ fInf) (hb : b ≤ fInf) : double.order a b = some (compare a b) := by
  rcases Nat.lt_trichotomy a b with h | h | h
  · rw [order_lt h hb, Nat.compare_eq_lt.2 h]
  · subst h; rw [order_eq ha, Nat.compare_eq_eq.2 rfl]
  · rw [order_gt h ha, Nat.compare_eq_gt.2 h]
theorem read_neg {b : Nat} (h : b < fInf) : double.read (9223372036854775808 + b) = .number true (fMag b) (double.leastPlace + (fPlc b : Nat)) := by
  unfold fInf at h
  unfold Format.read
  rw [dbl_binade, dbl_weight, dbl_inf]
  have h1 : (9223372036854775808 + b) % 9223372036854775808 = b := by omega
  have h2 : ((9223372036854775808 + b) / 9223372036854775808 % 2 == 1) = true := by rw [show (9223372036854775808 + b) / 9223372036854775808 = 1 by omega]; rfl
  simp only [h1, h2]
  unfold fMag fPlc
  by_cases hb : b < 4503599627370496
  · rw [if_pos hb, if_pos hb, Nat.div_eq_of_lt hb]; simp
  · rw [if_neg hb, if_neg hb, if_pos (by omega)]
theorem order_neg {a b : Nat} (ha : a ≤ fInf) (hb : b < fInf) : double.order (9223372036854775808 + a) b ≠ some .gt := by
  unfold Format.order
  rw [read_nn (b := b) hb]
  by_cases hi : a = fInf
  · rw [hi, show double.read (9223372036854775808 + fInf) = .infinity true by decide +kernel]; simp [Datum.order]
  · rw [read_neg (by omega)]
    simp only [Datum.order, signed_pos, ne_eq, Option.some.injEq]
    intro h
    have := Int.compare_eq_gt.1 h
    unfold signed at this
    simp only [if_true] at this
    generalize fMag a <<< _ = x at this
    generalize fMag b <<< _ = y at this
    omega

/-- real.Ratio's float: its bits. -/
def ratioF (a n : Int) : Nat := (floatBits .quo .f64 (floatOfInt .f64 a) (floatOfInt .f64 n)).getD 0
theorem word_pos (r : Nat) : double.word false r = r := rfl
theorem write_pos (m : Nat) (p : Int) : double.write (.number false m p) ≤ fInf := by
  show double.nearest false m p ≤ _
  unfold Format.nearest
  split
  · rw [word_pos]; unfold fInf; omega
  · rw [word_pos, dbl_inf]; exact Nat.min_le_right _ _
theorem cut_le (n drop : Nat) (h : n / 2 ^ drop < 9007199254740992) (hd : drop ≤ n.log2 + 2) : Toward.even.cut false n drop ≤ 9007199254740992 := by
  unfold Toward.cut
  rw [Nat.min_eq_left hd, show (1 <<< drop : Nat) = 2 ^ drop by rw [Nat.shiftLeft_eq, Nat.one_mul]]
  have h2 : ∀ b : Bool, b.toNat ≤ 1 := fun b => by cases b <;> decide
  show n / 2 ^ drop + Bool.toNat _ ≤ 9007199254740992
  exact Nat.le_trans (Nat.add_le_add_left (h2 _) _) h
theorem near_bd {m : Nat} (h0 : m ≠ 0) (hm : m < 9223372036854775808) : 4503599627370496 ≤ double.nearest false m 0 ∧ double.nearest false m 0 < fInf := by
  have hl : m.log2 ≤ 62 := by
    have := (Nat.log2_lt h0 (k := 63)).2 (by omega)
    omega
  have hml : m < 2 ^ (m.log2 + 1) := Nat.lt_log2_self
  unfold Format.nearest
  rw [if_neg h0, word_pos, dbl_binade, dbl_inf, show (double.fractionBits : Int) = 52 from rfl, show double.leastPlace = -1074 from rfl]
  have hlast : max (0 + (m.log2 : Int) - 52) (-1074) = (m.log2 : Int) - 52 := by omega
  simp only [hlast]
  have hk : Toward.even.cut false (m <<< (0 - ((m.log2 : Int) - 52)).toNat) ((m.log2 : Int) - 52 - 0).toNat ≤ 9007199254740992 := by
    by_cases hc : m.log2 ≤ 52
    · rw [show (0 - ((m.log2 : Int) - 52)).toNat = 52 - m.log2 by omega, show ((m.log2 : Int) - 52 - 0).toNat = 0 by omega]
      refine cut_le _ _ ?_ (by omega)
      rw [Nat.pow_zero, Nat.div_one, Nat.shiftLeft_eq]
      calc m * 2 ^ (52 - m.log2) < 2 ^ (m.log2 + 1) * 2 ^ (52 - m.log2) := Nat.mul_lt_mul_of_pos_right hml (Nat.two_pow_pos _)
        _ = 2 ^ 53 := by rw [← Nat.pow_add]; congr 1; omega
    · rw [show (0 - ((m.log2 : Int) - 52)).toNat = 0 by omega, show ((m.log2 : Int) - 52 - 0).toNat = m.log2 - 52 by omega, Nat.shiftLeft_zero]
      refine cut_le _ _ ?_ (by omega)
      rw [Nat.div_lt_iff_lt_mul (Nat.two_pow_pos _)]
      calc m < 2 ^ (m.log2 + 1) := hml
        _ = 2 ^ 53 * 2 ^ (m.log2 - 52) := by rw [← Nat.pow_add]; congr 1; omega
  generalize Toward.even.cut false _ _ = kept at hk ⊢
  rw [show ((m.log2 : Int) - 52 - -1074).toNat = m.log2 + 1022 by omega]
  exact ⟨by rw [Nat.min_def]; split <;> omega, by rw [Nat.min_def]; unfold fInf; split <;> omega⟩
theorem intFloat_bd {a : Int} (h0 : 0 ≤ a) (h : a < 9223372036854775808) : floatOfInt .f64 a < fInf ∧ (0 < a → fMag (floatOfInt .f64 a) ≠ 0) := by
  have e : floatOfInt .f64 a = double.nearest false a.natAbs 0 := by
    show double.nearest (decide (a < 0)) a.natAbs 0 = _
    rw [decide_eq_false (by omega)]
  rw [e]
  by_cases hz : a.natAbs = 0
  · refine ⟨by unfold Format.nearest; rw [if_pos hz, word_pos]; unfold fInf; omega, fun h => by omega⟩
  · have hb := near_bd hz (by omega)
    refine ⟨hb.2, fun _ => ?_⟩
    unfold fMag
    rw [if_neg (by omega)]; omega
/-- The ratio is there, and is not below nought. -/
theorem ratio_some {a n : Int} (h0 : 0 ≤ a) (h : a < 9223372036854775808) (h1 : 0 < n) (h2 : n < 9223372036854775808) :
    floatBits .quo .f64 (floatOfInt .f64 a) (floatOfInt .f64 n) = some (ratioF a n) ∧ ratioF a n ≤ fInf := by
  have ha := intFloat_bd h0 h
  have hn := intFloat_bd (a := n) (by omega) h2
  have hm := hn.2 h1
  have key : ∃ m p, floatBits .quo .f64 (floatOfInt .f64 a) (floatOfInt .f64 n) = some (double.write (.number false m p)) := by
    show ∃ m p, ((double.read (floatOfInt .f64 a)).quotient (double.fractionBits + 2) (double.read (floatOfInt .f64 n))).map double.write = _
    rw [read_nn ha.1, read_nn hn.1]
    unfold Datum.quotient
    simp only [if_neg hm, Bool.xor_false]
    exact ⟨_, _, rfl⟩
  obtain ⟨m, p, hk⟩ := key
  unfold ratioF
  rw [hk]
  exact ⟨rfl, write_pos m p⟩
end Go.Proofs.Ytafhjfkdlmijdaa
/- Contracts: math.IsInf, math.Signbit, real.Of, real.Less, real.Ratio at floats that are not below nought. -/
namespace Go.Proofs.Ytafhjfkdlmijdaa
open Go.RowKit

theorem run_fbits (b : Nat) (w : World) : (callFunc 124 #[.float .f64 b]).run Try.prog w = .ok (.value (.int .u64 (b : Int))) w := by kernel_rfl
theorem f64_order (a b : Nat) : FloatKind.f64.format.order a b = Ieee.double.order a b := rfl
theorem max_le : 9218868437227405311 ≤ fInf := by unfold fInf; omega
theorem max_test {b : Nat} (hb : b ≤ fInf) : (FloatKind.f64.format.order b 9218868437227405311 == some Ordering.gt) = decide (b = fInf) := by
  rw [f64_order, order_nn hb max_le]
  by_cases h : b = fInf
  · rw [decide_eq_true h, Nat.compare_eq_gt.2 (by rw [h]; unfold fInf; omega)]; rfl
  · rw [decide_eq_false h]
    have h1 : b ≤ 9218868437227405311 := by unfold fInf at hb h; omega
    rcases Nat.lt_or_eq_of_le h1 with h2 | h2
    · rw [Nat.compare_eq_lt.2 h2]; rfl
    · rw [Nat.compare_eq_eq.2 h2]; rfl
theorem neg_test {b : Nat} (hb : b ≤ fInf) : (FloatKind.f64.format.order (Op.negFloat .f64 b) 9218868437227405311 == some Ordering.gt) = false := by
  have e : Op.negFloat .f64 b = 9223372036854775808 + b := by
    have hlt : b < 2 ^ 63 := by unfold fInf at hb; omega
    show b ^^^ 2 ^ 63 = _
    have ho := Nat.two_pow_add_eq_or_of_lt hlt 1
    rw [Nat.mul_one] at ho
    rw [show (9223372036854775808 : Nat) = 2 ^ 63 from rfl, ho]
    apply Nat.eq_of_testBit_eq
    intro i
    rw [Nat.testBit_xor, Nat.testBit_or, Nat.testBit_two_pow]
    by_cases hi : 63 = i
    · subst hi; rw [Nat.testBit_lt_two_pow hlt]; rfl
    · simp [hi]
  rw [f64_order, e]
  have := order_neg (b := 9218868437227405311) hb (by unfold fInf; omega)
  simpa using this
theorem isInf_up (b : Nat) (hb : b ≤ fInf) (w : World) : Calls Try.prog 112 #[.float .f64 b, .int .i64 1] w fun e w' => e = .returned (.bool (decide (b = fInf))) ∧ w' = w := by
  have HB := hid (max_test hb)
  clear hb
  go_enter Try.func112, Try.ntmps112
  go_wp2_with fail
  go_ret
  exact ⟨ret_bool HB.out, rfl⟩
theorem run_neg (b : Nat) (w : World) : (Op.unary .neg (.float .f64 b)).run Try.prog w = .ok (.float .f64 (Op.negFloat .f64 b)) w := rfl
theorem isInf_down (b : Nat) (hb : b ≤ fInf) (w : World) : Calls Try.prog 112 #[.float .f64 b, .int .i64 (-1)] w fun e w' => e = .returned (.bool false) ∧ w' = w := by
  have HB := hid (neg_test hb)
  clear hb
  go_enter Try.func112, Try.ntmps112
  go_wp2_with fail
  rw [run_neg]
  go_wp2_with fail
  go_ret
  exact ⟨ret_bool HB.out, rfl⟩
set_option maxRecDepth 100000 in
theorem signbit_c (b : Nat) (hb : b ≤ fInf) (w : World) : Calls Try.prog 113 #[.float .f64 b] w fun e w' => e = .returned (.bool false) ∧ w' = w := by
  have hw : wrap64 (b : Int) = b := by unfold fInf at hb; unfold wrap64; omega
  have HB := hid hw
  clear hb hw
  go_enter Try.func113, Try.ntmps113
  go_wp2_with fail
  rw [run_fbits]
  go_wp2_with fail
  go_ret
  exact ⟨ret_bool (by rw [HB.out]; simp), rfl⟩

/-- real.Of, of a float that is not below nought -/
def kindF (b : Nat) : Int := if b = fInf then 5 else if 0 < b then 4 else 3
theorem self_test {b : Nat} (hb : b ≤ fInf) : (FloatKind.f64.format.order b b != some Ordering.eq) = false := by rw [f64_order, order_eq hb]; rfl
theorem zero_lt {b : Nat} (hb : b ≤ fInf) : (FloatKind.f64.format.order b 0 == some Ordering.lt) = false := by
  rw [f64_order, order_nn hb (Nat.zero_le _)]
  rcases Nat.eq_zero_or_pos b with h | h
  · rw [h]; rfl
  · rw [Nat.compare_eq_gt.2 h]; rfl
theorem zero_gt {b : Nat} (hb : b ≤ fInf) : (FloatKind.f64.format.order b 0 == some Ordering.gt) = decide (0 < b) := by
  rw [f64_order, order_nn hb (Nat.zero_le _)]
  rcases Nat.eq_zero_or_pos b with h | h
  · rw [h]; rfl
  · rw [Nat.compare_eq_gt.2 h, decide_eq_true h]; rfl
theorem of_c (b : Nat) (hb : b ≤ fInf) (w : World) : Calls Try.prog 92 #[.float .f64 b] w fun e w' => e = .returned (.int .i64 (kindF b)) ∧ w' = w := by
  have t1 := self_test hb
  have t2 := zero_lt hb
  have t3 := zero_gt hb
  have HD := hid (isInf_down b hb)
  have HU := hid (isInf_up b hb)
  have HS := hid (signbit_c b hb)
  clear hb
  by_cases h1 : b = fInf
  · have HK := hid (show kindF b = 5 from if_pos h1)
    have HT := hid (decide_eq_true h1)
    clear h1 t2 t3
    go_enter Try.func92, Try.ntmps92
    go_wp2_with fail
    refine (HD.out _).mono ?_
    rintro e w' ⟨rfl, rfl⟩
    go_wp2_with fail
    refine (HU.out _).mono ?_
    rintro e w' ⟨rfl, rfl⟩
    rw [HT.out]
    go_wp2
    go_ret
    exact ⟨ret_int HK.out.symm, rfl⟩
  · have HT := hid (decide_eq_false h1)
    by_cases h2 : 0 < b
    · have HK := hid (show kindF b = 4 from by unfold kindF; rw [if_neg h1, if_pos h2])
      rw [decide_eq_true h2] at t3
      clear h1 h2
      go_enter Try.func92, Try.ntmps92
      go_wp2_with fail
      refine (HD.out _).mono ?_
      rintro e w' ⟨rfl, rfl⟩
      go_wp2_with fail
      refine (HU.out _).mono ?_
      rintro e w' ⟨rfl, rfl⟩
      rw [HT.out]
      go_wp2
      go_ret
      exact ⟨ret_int HK.out.symm, rfl⟩
    · have HK := hid (show kindF b = 3 from by unfold kindF; rw [if_neg h1, if_neg h2])
      rw [decide_eq_false h2] at t3
      clear h1 h2
      go_enter Try.func92, Try.ntmps92
      go_wp2_with fail
      refine (HD.out _).mono ?_
      rintro e w' ⟨rfl, rfl⟩
      go_wp2_with fail
      refine (HU.out _).mono ?_
      rintro e w' ⟨rfl, rfl⟩
      rw [HT.out]
      go_wp2_with fail
      refine (HS.out _).mono ?_
      rintro e w' ⟨rfl, rfl⟩
      go_wp2
      go_ret
      exact ⟨ret_int HK.out.symm, rfl⟩
theorem lt_test {a b : Nat} (ha : a ≤ fInf) (hb : b ≤ fInf) : (FloatKind.f64.format.order a b == some Ordering.lt) = decide (a < b) := by
  rw [f64_order, order_nn ha hb]
  rcases Nat.lt_trichotomy a b with h | h | h
  · rw [Nat.compare_eq_lt.2 h, decide_eq_true h]; rfl
  · rw [Nat.compare_eq_eq.2 h, decide_eq_false (by omega)]; rfl
  · rw [Nat.compare_eq_gt.2 h, decide_eq_false (by omega)]; rfl
theorem kind_lt {a b : Nat} (ha : a ≤ fInf) (hb : b ≤ fInf) (h : kindF a ≠ kindF b) : decide (kindF a < kindF b) = decide (a < b) := by
  unfold kindF at *
  split at h <;> split at h <;> (try split at h) <;> (try split at h) <;> simp_all <;> omega
/-- real.Less: as the bits. -/
theorem less_c (a b : Nat) (ha : a ≤ fInf) (hb : b ≤ fInf) (w : World) : Calls Try.prog 60 #[.float .f64 a, .float .f64 b] w fun e w' => e = .returned (.bool (decide (a < b))) ∧ w' = w := by
  have HA := hid (of_c a ha)
  have HB := hid (of_c b hb)
  by_cases hk : kindF a = kindF b
  · have t1 : (kindF a != kindF b) = false := by simp [hk]
    have HL := hid (lt_test ha hb)
    clear hk ha hb
    go_enter Try.func60, Try.ntmps60
    go_wp2_with fail
    refine (HA.out _).mono ?_
    rintro e w' ⟨rfl, rfl⟩
    go_wp2_with fail
    refine (HB.out _).mono ?_
    rintro e w' ⟨rfl, rfl⟩
    go_wp2
    go_ret
    exact ⟨ret_bool HL.out, rfl⟩
  · have t1 : (kindF a != kindF b) = true := by simp [hk]
    have HL := hid (kind_lt ha hb hk)
    clear hk ha hb
    go_enter Try.func60, Try.ntmps60
    go_wp2_with fail
    refine (HA.out _).mono ?_
    rintro e w' ⟨rfl, rfl⟩
    go_wp2_with fail
    refine (HB.out _).mono ?_
    rintro e w' ⟨rfl, rfl⟩
    go_wp2
    go_ret
    exact ⟨ret_bool HL.out, rfl⟩
theorem ratio_c (a n : Int) (h0 : 0 ≤ a) (h : a < 9223372036854775808) (h1 : 0 < n) (h2 : n < 9223372036854775808) (w : World) :
    Calls Try.prog 56 #[.int .i64 a, .int .i64 n] w fun e w' => e = .returned (.float .f64 (ratioF a n)) ∧ w' = w := by
  have hr : ∀ w, (binOp .quo 65 (.float .f64 (floatOfInt .f64 a)) (.float .f64 (floatOfInt .f64 n))).run Try.prog w = .ok (.float .f64 (ratioF a n)) w := fun w => run_float_arith w .quo _ _ _ _ _ (ratio_some h0 h h1 h2).1
  clear h0 h h1 h2
  go_enter Try.func56, Try.ntmps56
  go_wp2
  go_ret
  exact ⟨rfl, rfl⟩
end Go.Proofs.Ytafhjfkdlmijdaa
/- Contract: haul.Order's comparer. -/
namespace Go.Proofs.Ytafhjfkdlmijdaa
open Go.RowKit

def cmpK (ks : List Nat) (a b : Nat) : Int := if ks.getD a 0 < ks.getD b 0 then -1 else if ks.getD b 0 < ks.getD a 0 then 1 else 0
def fltV (k : Nat) : Value := .float .f64 k
theorem sz_f64 : ∀ w, (sizeOf 65).run Try.prog w = .ok 1 w := fun w => by kernel_rfl
set_option maxHeartbeats 800000 in
theorem ordCmp_c {w : World} {ks : List Nat} (hk : ∀ k ∈ ks, k ≤ fInf) {q g : Nat} (hq : w.cell? ⟨q, 0, none⟩ = some (.slice (some ⟨g, 0, none⟩) ks.length ks.length))
    (hg : ∀ k (h : k < ks.length), w.cell? ⟨g, k, none⟩ = some (.float .f64 ks[k])) {a b : Nat} (ha : a < ks.length) (hb : b < ks.length) :
    Calls Try.prog 59 #[.int .i64 a, .int .i64 b, .pointer (some ⟨q, 0, none⟩)] w fun e w' => e = .returned (.int .i64 (cmpK ks a b)) ∧ ∃ n, w' = w.drewN n := by
  have ia : ∀ w, (Instr.indexAt 120 (.slice (some ⟨g, 0, none⟩) ks.length ks.length) (.int .i64 (a : Int))).run Try.prog w = .ok (.pointer (some ⟨g, a, none⟩)) w := fun w => by
    have := idx_at1 (c := ks.length) Try.underlying120 sz_f64 (a := some ⟨g, 0, none⟩) rfl ha w
    rwa [Nat.zero_add] at this
  have ib : ∀ w, (Instr.indexAt 120 (.slice (some ⟨g, 0, none⟩) ks.length ks.length) (.int .i64 (b : Int))).run Try.prog w = .ok (.pointer (some ⟨g, b, none⟩)) w := fun w => by
    have := idx_at1 (c := ks.length) Try.underlying120 sz_f64 (a := some ⟨g, 0, none⟩) rfl hb w
    rwa [Nat.zero_add] at this
  have ca := hg a ha
  have cb := hg b hb
  have ba := hk _ (List.getElem_mem ha)
  have bb := hk _ (List.getElem_mem hb)
  have HC := hid (show cmpK ks a b = if ks[a] < ks[b] then -1 else if ks[b] < ks[a] then 1 else 0 from by
    unfold cmpK; rw [List.getD_eq_getElem?_getD, List.getD_eq_getElem?_getD, List.getElem?_eq_getElem ha, List.getElem?_eq_getElem hb]; rfl)
  generalize ks[a] = x at *
  generalize ks[b] = y at *
  have H1 := hid (less_c x y ba bb)
  have H2 := hid (less_c y x bb ba)
  clear hk hg ba bb
  by_cases h1 : x < y
  · have HD := hid (decide_eq_true h1)
    have HE := hid (show cmpK ks a b = -1 from by rw [HC.out, if_pos h1])
    clear h1
    go_enter Try.func59, Try.ntmps59
    go_wp2_with fail
    go_quiet ((go_at_call 60; exact Calls.quiet_of_same (Calls.bool (H1.out _) HD.out)))
    go_wp2
    go_ret
    exact ⟨ret_int HE.out.symm, _, rfl⟩
  · have HD := hid (decide_eq_false h1)
    by_cases h2 : y < x
    · have HD2 := hid (decide_eq_true h2)
      have HE := hid (show cmpK ks a b = 1 from by rw [HC.out, if_neg h1, if_pos h2])
      clear h1 h2
      go_enter Try.func59, Try.ntmps59
      go_wp2_with fail
      go_quiet ((go_at_call 60; exact Calls.quiet_of_same (Calls.bool (H1.out _) HD.out)))
      go_wp2_with fail
      have hq2 : (w.drewN nq).cell? ⟨q, 0, none⟩ = some (.slice (some ⟨g, 0, none⟩) ks.length ks.length) := hq
      have ca2 : (w.drewN nq).cell? ⟨g, a, none⟩ = some (.float .f64 x) := ca
      have cb2 : (w.drewN nq).cell? ⟨g, b, none⟩ = some (.float .f64 y) := cb
      generalize hwq : w.drewN nq = wq at hq2 ca2 cb2 ⊢
      have HW := hid hwq
      clear hwq hq ca cb
      go_quiet ((go_at_call 60; exact Calls.quiet_of_same (Calls.bool (H2.out _) HD2.out)))
      go_wp2
      go_ret
      exact ⟨ret_int HE.out.symm, _, by rw [← HW.out]; exact World.drewN_drewN _ _ _⟩
    · have HD2 := hid (decide_eq_false h2)
      have HE := hid (show cmpK ks a b = 0 from by rw [HC.out, if_neg h1, if_neg h2])
      clear h1 h2
      go_enter Try.func59, Try.ntmps59
      go_wp2_with fail
      go_quiet ((go_at_call 60; exact Calls.quiet_of_same (Calls.bool (H1.out _) HD.out)))
      go_wp2_with fail
      have hq2 : (w.drewN nq).cell? ⟨q, 0, none⟩ = some (.slice (some ⟨g, 0, none⟩) ks.length ks.length) := hq
      have ca2 : (w.drewN nq).cell? ⟨g, a, none⟩ = some (.float .f64 x) := ca
      have cb2 : (w.drewN nq).cell? ⟨g, b, none⟩ = some (.float .f64 y) := cb
      generalize hwq : w.drewN nq = wq at hq2 ca2 cb2 ⊢
      have HW := hid hwq
      clear hwq hq ca cb
      go_quiet ((go_at_call 60; exact Calls.quiet_of_same (Calls.bool (H2.out _) HD2.out)))
      go_wp2
      go_ret
      exact ⟨ret_int HE.out.symm, _, by rw [← HW.out]; exact World.drewN_drewN _ _ _⟩
end Go.Proofs.Ytafhjfkdlmijdaa
/- Insertion from the right, and that the library's insertion sort is it. No program in sight. -/
namespace Go.Proofs.Ytafhjfkdlmijdaa
open Go.RowKit

def insRev {α : Type} (lt : α → α → Bool) (x : α) : List α → List α
  | [] => [x]
  | y :: ys => if lt x y then y :: insRev lt x ys else x :: y :: ys
/-- x, from the right, ahead of all that it is less than. -/
def insR {α : Type} (lt : α → α → Bool) (x : α) (l : List α) : List α := (insRev lt x l.reverse).reverse
def sortD {α : Type} (lt : α → α → Bool) (l : List α) : List α := l.foldl (fun acc x => insR lt x acc) []
theorem insR_nil {α : Type} (lt : α → α → Bool) (x : α) : insR lt x [] = [x] := rfl
theorem insR_snoc {α : Type} (lt : α → α → Bool) (x y : α) (l : List α) : insR lt x (l ++ [y]) = if lt x y then insR lt x l ++ [y] else l ++ [y, x] := by
  unfold insR
  rw [List.reverse_append]
  simp only [List.reverse_cons, List.reverse_nil, List.nil_append, List.cons_append, insRev]
  split <;> simp
theorem insRev_len {α : Type} (lt : α → α → Bool) (x : α) : ∀ l : List α, (insRev lt x l).length = l.length + 1
  | [] => rfl
  | y :: ys => by unfold insRev; split <;> simp [insRev_len lt x ys]
theorem insR_len {α : Type} (lt : α → α → Bool) (x : α) (l : List α) : (insR lt x l).length = l.length + 1 := by unfold insR; rw [List.length_reverse, insRev_len, List.length_reverse]
theorem insRev_mem {α : Type} (lt : α → α → Bool) (x z : α) : ∀ l : List α, z ∈ insRev lt x l ↔ z = x ∨ z ∈ l
  | [] => by simp [insRev]
  | y :: ys => by unfold insRev; split <;> simp [insRev_mem lt x z ys]; grind
theorem insR_mem {α : Type} (lt : α → α → Bool) (x z : α) (l : List α) : z ∈ insR lt x l ↔ z = x ∨ z ∈ l := by unfold insR; rw [List.mem_reverse, insRev_mem, List.mem_reverse]
theorem foldR_len {α : Type} (lt : α → α → Bool) : ∀ (l acc : List α), (l.foldl (fun acc x => insR lt x acc) acc).length = acc.length + l.length
  | [], acc => rfl
  | y :: l, acc => by rw [List.foldl_cons, foldR_len lt l, insR_len, List.length_cons]; omega
theorem foldR_mem {α : Type} (lt : α → α → Bool) (z : α) : ∀ (l acc : List α), z ∈ l.foldl (fun acc x => insR lt x acc) acc ↔ z ∈ acc ∨ z ∈ l
  | [], acc => by simp
  | y :: l, acc => by rw [List.foldl_cons, foldR_mem lt z l, insR_mem, List.mem_cons]; grind
theorem sortD_len {α : Type} (lt : α → α → Bool) (l : List α) : (sortD lt l).length = l.length := by unfold sortD; rw [foldR_len]; simp
theorem sortD_mem {α : Type} (lt : α → α → Bool) (z : α) (l : List α) : z ∈ sortD lt l ↔ z ∈ l := by unfold sortD; rw [foldR_mem]; simp
theorem insRev_map {α β : Type} (f : α → β) {lt : α → α → Bool} {lt' : β → β → Bool} (h : ∀ x y, lt' (f x) (f y) = lt x y) (x : α) : ∀ l : List α, (insRev lt x l).map f = insRev lt' (f x) (l.map f)
  | [] => rfl
  | y :: ys => by
    rw [List.map_cons]
    unfold insRev
    rw [h]
    split <;> simp [insRev_map f h x ys]
theorem insR_map {α β : Type} (f : α → β) {lt : α → α → Bool} {lt' : β → β → Bool} (h : ∀ x y, lt' (f x) (f y) = lt x y) (x : α) (l : List α) : (insR lt x l).map f = insR lt' (f x) (l.map f) := by
  unfold insR; rw [List.map_reverse, insRev_map f h, List.map_reverse]
theorem sortD_map {α β : Type} (f : α → β) {lt : α → α → Bool} {lt' : β → β → Bool} (h : ∀ x y, lt' (f x) (f y) = lt x y) (l : List α) : (sortD lt l).map f = sortD lt' (l.map f) := by
  unfold sortD
  suffices ∀ acc : List α, (l.foldl (fun acc x => insR lt x acc) acc).map f = (l.map f).foldl (fun acc x => insR lt' x acc) (acc.map f) from this []
  induction l with
  | nil => intro acc; rfl
  | cons y l ih => intro acc; rw [List.foldl_cons, ih, insR_map f h]; rfl

section
variable {α : Type} [Inhabited α]
theorem inner_list (lt : α → α → Bool) (x : α) : ∀ (n : Nat) (P R : List α), P.length = n → Sort.insInner lt 0 n (P ++ x :: R).toArray = (insR lt x P ++ R).toArray
  | 0, P, R, h => by
    obtain rfl := List.eq_nil_of_length_eq_zero h
    rfl
  | n + 1, P, R, h => by
    obtain ⟨P', y, rfl⟩ : ∃ P' y, P = P' ++ [y] := ⟨P.dropLast, P.getLast (by intro e; rw [e] at h; cases h), (List.dropLast_concat_getLast _).symm⟩
    have hl : P'.length = n := by simpa using h
    unfold Sort.insInner
    have e1 : ((P' ++ [y] ++ x :: R).toArray)[n + 1]! = x := by
      rw [List.getElem!_toArray, List.getElem!_eq_getElem?_getD, List.append_assoc, List.getElem?_append_right (by omega)]
      rw [show n + 1 - P'.length = 1 by omega]; rfl
    have e2 : ((P' ++ [y] ++ x :: R).toArray)[n]! = y := by
      rw [List.getElem!_toArray, List.getElem!_eq_getElem?_getD, List.append_assoc, List.getElem?_append_right (by omega)]
      rw [show n - P'.length = 0 by omega]; rfl
    rw [e1, e2, insR_snoc]
    cases hlt : lt x y
    · simp
    · simp only [Nat.zero_lt_succ, decide_true, Bool.true_and, if_true, gt_iff_lt]
      have e3 : Sort.swp (P' ++ [y] ++ x :: R).toArray (n + 1) n = (P' ++ x :: (y :: R)).toArray := by
        unfold Sort.swp
        rw [e1, e2]
        apply Array.ext'
        simp only [Array.toList_setIfInBounds]
        subst hl
        rw [List.append_assoc, List.set_append_right _ _ (by omega), List.set_append_right _ _ (by omega)]
        simp
      rw [e3, inner_list lt x n P' (y :: R) hl]
      simp
theorem outer_list (lt : α → α → Bool) : ∀ (R S : List α), Sort.insOuter lt 0 (S.length + R.length) S.length (S ++ R).toArray = (R.foldl (fun acc y => insR lt y acc) S).toArray
  | [], S => by
    unfold Sort.insOuter
    rw [if_neg (by simp)]; simp
  | y :: R, S => by
    unfold Sort.insOuter
    rw [if_pos (by simp), inner_list lt y S.length S R rfl]
    have := outer_list lt R (insR lt y S)
    rw [insR_len] at this
    rw [List.foldl_cons, ← this, List.length_cons]
    congr 1; omega
theorem sort_list (lt : α → α → Bool) (l : List α) : Sort.insertionSort lt l.toArray 0 l.length = (sortD lt l).toArray := by
  unfold Sort.insertionSort
  cases l with
  | nil => unfold Sort.insOuter; rfl
  | cons x l =>
    have := outer_list lt l [x]
    simp only [List.length_cons, List.length_nil, Nat.zero_add, List.cons_append, List.nil_append] at this ⊢
    rw [Nat.add_comm l.length 1, this]
    rfl
end
end Go.Proofs.Ytafhjfkdlmijdaa
