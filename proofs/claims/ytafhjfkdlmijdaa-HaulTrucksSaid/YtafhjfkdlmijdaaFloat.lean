/- Floats that are not below nought: how they stand to each other; a ratio of two whole numbers. No program in sight. -/
import Derived.Test.YtafhjfkdlmijdaaLib
namespace Go.Proofs.Ytafhjfkdlmijdaa
open Go.RowKit Ieee

/-- The bits of the infinity above. -/
def fInf : Nat := 9218868437227405312
def fMag (b : Nat) : Nat := if b < 4503599627370496 then b else 4503599627370496 + b % 4503599627370496
def fPlc (b : Nat) : Nat := b / 4503599627370496 - 1
theorem dbl_binade : double.binade = 4503599627370496 := rfl
theorem dbl_weight : double.signWeight = 9223372036854775808 := rfl
theorem dbl_inf : double.infRung = 9218868437227405312 := rfl
theorem read_nn {b : Nat} (h : b < fInf) : double.read b = .number false (fMag b) (double.leastPlace + (fPlc b : Nat)) := by
  unfold fInf at h
  unfold Format.read
  rw [dbl_binade, dbl_weight, dbl_inf]
  have h1 : b % 9223372036854775808 = b := Nat.mod_eq_of_lt (by omega)
  have h2 : (b / 9223372036854775808 % 2 == 1) = false := by rw [Nat.div_eq_of_lt (by omega)]; rfl
  simp only [h1, h2]
  unfold fMag fPlc
  by_cases hb : b < 4503599627370496
  · rw [if_pos hb, if_pos hb, Nat.div_eq_of_lt hb]; simp
  · rw [if_neg hb, if_neg hb, if_pos (by omega)]
theorem read_inf : double.read fInf = .infinity false := by decide +kernel
theorem fMag_lt (b : Nat) : fMag b < 9007199254740992 := by unfold fMag; split <;> omega
theorem signed_pos (m k : Nat) : signed false m k = ((m <<< k : Nat) : Int) := rfl
theorem shift_lt {a b : Nat} (h : a < b) : (fMag a) <<< (fPlc a - min (fPlc a) (fPlc b)) < (fMag b) <<< (fPlc b - min (fPlc a) (fPlc b)) := by
  have hp : fPlc a ≤ fPlc b := by unfold fPlc; have := Nat.div_le_div_right (c := 4503599627370496) (Nat.le_of_lt h); omega
  rw [Nat.min_eq_left hp, Nat.sub_self, Nat.shiftLeft_zero, Nat.shiftLeft_eq]
  by_cases he : fPlc a = fPlc b
  · rw [he, Nat.sub_self, Nat.pow_zero, Nat.mul_one]
    unfold fMag fPlc at *
    split <;> split <;> omega
  · have hk : 1 ≤ fPlc b - fPlc a := by omega
    have h2 : 2 ^ 1 ≤ 2 ^ (fPlc b - fPlc a) := Nat.pow_le_pow_right (by decide) hk
    have h3 : 4503599627370496 ≤ fMag b := by unfold fMag; unfold fPlc at he hk; split <;> omega
    have h4 := fMag_lt a
    calc fMag a < 4503599627370496 * 2 ^ 1 := by omega
      _ ≤ fMag b * 2 ^ (fPlc b - fPlc a) := Nat.mul_le_mul h3 h2
theorem base_eq (a b : Nat) : min (double.leastPlace + (fPlc a : Nat)) (double.leastPlace + (fPlc b : Nat)) = double.leastPlace + ((min (fPlc a) (fPlc b) : Nat) : Int) := by omega
theorem order_lt {a b : Nat} (h : a < b) (hb : b ≤ fInf) : double.order a b = some .lt := by
  unfold Format.order
  rw [read_nn (by omega)]
  by_cases hi : b = fInf
  · rw [hi, read_inf]; rfl
  · rw [read_nn (by omega)]
    simp only [Datum.order, base_eq, signed_pos]
    have := shift_lt h
    rw [show (double.leastPlace + (fPlc a : Nat) - (double.leastPlace + ((min (fPlc a) (fPlc b) : Nat) : Int))).toNat = fPlc a - min (fPlc a) (fPlc b) by omega,
      show (double.leastPlace + (fPlc b : Nat) - (double.leastPlace + ((min (fPlc a) (fPlc b) : Nat) : Int))).toNat = fPlc b - min (fPlc a) (fPlc b) by omega]
    congr 1
    exact Int.compare_eq_lt.2 (by exact_mod_cast this)
theorem order_gt {a b : Nat} (h : b < a) (hb : a ≤ fInf) : double.order a b = some .gt := by
  unfold Format.order
  rw [read_nn (b := b) (by omega)]
  by_cases hi : a = fInf
  · rw [hi, read_inf]; rfl
  · rw [read_nn (by omega)]
    simp only [Datum.order, base_eq, signed_pos]
    have := shift_lt h
    rw [Nat.min_comm] at this
    rw [show (double.leastPlace + (fPlc a : Nat) - (double.leastPlace + ((min (fPlc a) (fPlc b) : Nat) : Int))).toNat = fPlc a - min (fPlc a) (fPlc b) by omega,
      show (double.leastPlace + (fPlc b : Nat) - (double.leastPlace + ((min (fPlc a) (fPlc b) : Nat) : Int))).toNat = fPlc b - min (fPlc a) (fPlc b) by omega]
    congr 1
    exact Int.compare_eq_gt.2 (by exact_mod_cast this)
theorem order_eq {a : Nat} (ha : a ≤ fInf) : double.order a a = some .eq := by
  unfold Format.order
  by_cases hi : a = fInf
  · rw [hi, read_inf]; rfl
  · rw [read_nn (by omega)]
    simp only [Datum.order]
    congr 1
    exact Int.compare_eq_eq.2 rfl
/-- Both not below nought: as their bits. -/
theorem order_nn {a b : Nat} (ha : a ≤ fInf) (hb : b ≤ fInf) : double.order a b = some (compare a b) := by
  rcases Nat.lt_trichotomy a b with h | h | h
  · rw [order_lt h hb, Nat.compare_eq_lt.2 h]
  · subst h; rw [order_eq ha, Nat.compare_eq_eq.2 rfl]
  · rw [order_gt h ha, Nat.compare_eq_gt.2 h]
theorem read_neg {b : Nat} (h : b < fInf) : double.read (9223372036854775808 + b) = .number true (fMag b) (double.leastPlace + (fPlc b : Nat)) := by
  unfold fInf at h
  unfold Format.read
  rw [dbl_binade, dbl_weight, dbl_inf]
  have h1 : (9223372036854775808 + b) % 9223372036854775808 = b := by omega
  have h2 : ((9223372036854775808 + b) / 9223372036854775808 % 2 == 1) = true := by rw [show (9223372036854775808 + b) / 9223372036854775808 = 1 by omega]; rfl
  simp only [h1, h2]
  unfold fMag fPlc
  by_cases hb : b < 4503599627370496
  · rw [if_pos hb, if_pos hb, Nat.div_eq_of_lt hb]; simp
  · rw [if_neg hb, if_neg hb, if_pos (by omega)]
theorem order_neg {a b : Nat} (ha : a ≤ fInf) (hb : b < fInf) : double.order (9223372036854775808 + a) b ≠ some .gt := by
  unfold Format.order
  rw [read_nn (b := b) hb]
  by_cases hi : a = fInf
  · rw [hi, show double.read (9223372036854775808 + fInf) = .infinity true by decide +kernel]; simp [Datum.order]
  · rw [read_neg (by omega)]
    simp only [Datum.order, signed_pos, ne_eq, Option.some.injEq]
    intro h
    have := Int.compare_eq_gt.1 h
    unfold signed at this
    simp only [if_true] at this
    generalize fMag a <<< _ = x at this
    generalize fMag b <<< _ = y at this
    omega

/-- real.Ratio's float: its bits. -/
def ratioF (a n : Int) : Nat := (floatBits .quo .f64 (floatOfInt .f64 a) (floatOfInt .f64 n)).getD 0
theorem word_pos (r : Nat) : double.word false r = r := rfl
theorem write_pos (m : Nat) (p : Int) : double.write (.number false m p) ≤ fInf := by
  show double.nearest false m p ≤ _
  unfold Format.nearest
  split
  · rw [word_pos]; unfold fInf; omega
  · rw [word_pos, dbl_inf]; exact Nat.min_le_right _ _
theorem cut_le (n drop : Nat) (h : n / 2 ^ drop < 9007199254740992) (hd : drop ≤ n.log2 + 2) : Toward.even.cut false n drop ≤ 9007199254740992 := by
  unfold Toward.cut
  rw [Nat.min_eq_left hd, show (1 <<< drop : Nat) = 2 ^ drop by rw [Nat.shiftLeft_eq, Nat.one_mul]]
  have h2 : ∀ b : Bool, b.toNat ≤ 1 := fun b => by cases b <;> decide
  show n / 2 ^ drop + Bool.toNat _ ≤ 9007199254740992
  exact Nat.le_trans (Nat.add_le_add_left (h2 _) _) h
theorem near_bd {m : Nat} (h0 : m ≠ 0) (hm : m < 9223372036854775808) : 4503599627370496 ≤ double.nearest false m 0 ∧ double.nearest false m 0 < fInf := by
  have hl : m.log2 ≤ 62 := by
    have := (Nat.log2_lt h0 (k := 63)).2 (by omega)
    omega
  have hml : m < 2 ^ (m.log2 + 1) := Nat.lt_log2_self
  unfold Format.nearest
  rw [if_neg h0, word_pos, dbl_binade, dbl_inf, show (double.fractionBits : Int) = 52 from rfl, show double.leastPlace = -1074 from rfl]
  have hlast : max (0 + (m.log2 : Int) - 52) (-1074) = (m.log2 : Int) - 52 := by omega
  simp only [hlast]
  have hk : Toward.even.cut false (m <<< (0 - ((m.log2 : Int) - 52)).toNat) ((m.log2 : Int) - 52 - 0).toNat ≤ 9007199254740992 := by
    by_cases hc : m.log2 ≤ 52
    · rw [show (0 - ((m.log2 : Int) - 52)).toNat = 52 - m.log2 by omega, show ((m.log2 : Int) - 52 - 0).toNat = 0 by omega]
      refine cut_le _ _ ?_ (by omega)
      rw [Nat.pow_zero, Nat.div_one, Nat.shiftLeft_eq]
      calc m * 2 ^ (52 - m.log2) < 2 ^ (m.log2 + 1) * 2 ^ (52 - m.log2) := Nat.mul_lt_mul_of_pos_right hml (Nat.two_pow_pos _)
        _ = 2 ^ 53 := by rw [← Nat.pow_add]; congr 1; omega
    · rw [show (0 - ((m.log2 : Int) - 52)).toNat = 0 by omega, show ((m.log2 : Int) - 52 - 0).toNat = m.log2 - 52 by omega, Nat.shiftLeft_zero]
      refine cut_le _ _ ?_ (by omega)
      rw [Nat.div_lt_iff_lt_mul (Nat.two_pow_pos _)]
      calc m < 2 ^ (m.log2 + 1) := hml
        _ = 2 ^ 53 * 2 ^ (m.log2 - 52) := by rw [← Nat.pow_add]; congr 1; omega
  generalize Toward.even.cut false _ _ = kept at hk ⊢
  rw [show ((m.log2 : Int) - 52 - -1074).toNat = m.log2 + 1022 by omega]
  exact ⟨by rw [Nat.min_def]; split <;> omega, by rw [Nat.min_def]; unfold fInf; split <;> omega⟩
theorem intFloat_bd {a : Int} (h0 : 0 ≤ a) (h : a < 9223372036854775808) : floatOfInt .f64 a < fInf ∧ (0 < a → fMag (floatOfInt .f64 a) ≠ 0) := by
  have e : floatOfInt .f64 a = double.nearest false a.natAbs 0 := by
    show double.nearest (decide (a < 0)) a.natAbs 0 = _
    rw [decide_eq_false (by omega)]
  rw [e]
  by_cases hz : a.natAbs = 0
  · refine ⟨by unfold Format.nearest; rw [if_pos hz, word_pos]; unfold fInf; omega, fun h => by omega⟩
  · have hb := near_bd hz (by omega)
    refine ⟨hb.2, fun _ => ?_⟩
    unfold fMag
    rw [if_neg (by omega)]; omega
/-- The ratio is there, and is not below nought. -/
theorem ratio_some {a n : Int} (h0 : 0 ≤ a) (h : a < 9223372036854775808) (h1 : 0 < n) (h2 : n < 9223372036854775808) :
    floatBits .quo .f64 (floatOfInt .f64 a) (floatOfInt .f64 n) = some (ratioF a n) ∧ ratioF a n ≤ fInf := by
  have ha := intFloat_bd h0 h
  have hn := intFloat_bd (a := n) (by omega) h2
  have hm := hn.2 h1
  have key : ∃ m p, floatBits .quo .f64 (floatOfInt .f64 a) (floatOfInt .f64 n) = some (double.write (.number false m p)) := by
    show ∃ m p, ((double.read (floatOfInt .f64 a)).quotient (double.fractionBits + 2) (double.read (floatOfInt .f64 n))).map double.write = _
    rw [read_nn ha.1, read_nn hn.1]
    unfold Datum.quotient
    simp only [if_neg hm, Bool.xor_false]
    exact ⟨_, _, rfl⟩
  obtain ⟨m, p, hk⟩ := key
  unfold ratioF
  rw [hk]
  exact ⟨rfl, write_pos m p⟩
end Go.Proofs.Ytafhjfkdlmijdaa
