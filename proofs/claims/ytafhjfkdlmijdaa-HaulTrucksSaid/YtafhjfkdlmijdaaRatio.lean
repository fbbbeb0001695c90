/- The floats of ratios of small whole numbers stand as the ratios do, crosswise. No program in sight. -/
import Derived.Test.YtafhjfkdlmijdaaFloat
namespace Go.Proofs.Ytafhjfkdlmijdaa
open Go.RowKit Ieee

/-- The ratio's bits, in natural numbers. -/
def magK (a n : Nat) : Nat := 2 * ((a <<< (52 - a.log2)) <<< 54 / (n <<< (52 - n.log2))) + ((a <<< (52 - a.log2)) <<< 54 % (n <<< (52 - n.log2)) != 0).toNat
def ratioK (a n : Nat) : Nat := (a.log2 + (magK a n).log2 + 967 - n.log2) * 4503599627370496 + Toward.even.cut false (magK a n) ((magK a n).log2 - 52)
theorem log_of {m k : Nat} (h1 : 2 ^ k ≤ m) (h2 : m < 2 ^ (k + 1)) : m.log2 = k := by
  have h0 : m ≠ 0 := by have := Nat.two_pow_pos k; omega
  have := (Nat.log2_lt h0).2 h2
  have := (Nat.le_log2 h0).2 h1
  omega
theorem up_bd {a : Nat} (h0 : 0 < a) (h : a < 9007199254740992) : 4503599627370496 ≤ a <<< (52 - a.log2) ∧ a <<< (52 - a.log2) < 9007199254740992 ∧ a.log2 ≤ 52 := by
  have hz : a ≠ 0 := by omega
  have hl : a.log2 ≤ 52 := by
    have := (Nat.log2_lt hz (k := 53)).2 (by omega)
    omega
  rw [Nat.shiftLeft_eq]
  refine ⟨?_, ?_, hl⟩
  · calc 4503599627370496 = 2 ^ a.log2 * 2 ^ (52 - a.log2) := by rw [← Nat.pow_add, show a.log2 + (52 - a.log2) = 52 by omega]
      _ ≤ a * 2 ^ (52 - a.log2) := Nat.mul_le_mul_right _ (Nat.log2_self_le hz)
  · calc a * 2 ^ (52 - a.log2) < 2 ^ (a.log2 + 1) * 2 ^ (52 - a.log2) := Nat.mul_lt_mul_of_pos_right Nat.lt_log2_self (Nat.two_pow_pos _)
      _ = 9007199254740992 := by rw [← Nat.pow_add, show a.log2 + 1 + (52 - a.log2) = 53 by omega]
theorem cut_none (n : Nat) : Toward.even.cut false n 0 = n := by
  unfold Toward.cut
  simp [Nat.mod_one]
theorem int_bits {a : Nat} (h0 : 0 < a) (h : a < 9007199254740992) : floatOfInt .f64 (a : Int) = (a.log2 + 1022) * 4503599627370496 + a <<< (52 - a.log2) := by
  have ⟨h1, h2, h3⟩ := up_bd h0 h
  have e : floatOfInt .f64 (a : Int) = double.nearest false a 0 := by
    show double.nearest (decide ((a : Int) < 0)) (a : Int).natAbs 0 = _
    rw [decide_eq_false (by omega), Int.natAbs_natCast]
  rw [e]
  unfold Format.nearest
  rw [if_neg (by omega), word_pos, dbl_binade, dbl_inf, show (double.fractionBits : Int) = 52 from rfl, show double.leastPlace = -1074 from rfl]
  have hlast : max (0 + (a.log2 : Int) - 52) (-1074) = (a.log2 : Int) - 52 := by omega
  simp only [hlast]
  rw [show (0 - ((a.log2 : Int) - 52)).toNat = 52 - a.log2 by omega, show ((a.log2 : Int) - 52 - 0).toNat = 0 by omega, show ((a.log2 : Int) - 52 - -1074).toNat = a.log2 + 1022 by omega, cut_none, Nat.min_eq_left (by omega)]
theorem int_read {a : Nat} (h0 : 0 < a) (h : a < 9007199254740992) : double.read (floatOfInt .f64 (a : Int)) = .number false (a <<< (52 - a.log2)) ((a.log2 : Int) - 52) := by
  have ⟨h1, h2, h3⟩ := up_bd h0 h
  rw [int_bits h0 h, read_nn (by unfold fInf; omega)]
  generalize a <<< (52 - a.log2) = m at *
  generalize a.log2 = l at *
  have e1 : fMag ((l + 1022) * 4503599627370496 + m) = m := by unfold fMag; rw [if_neg (by omega)]; omega
  have e2 : fPlc ((l + 1022) * 4503599627370496 + m) = l + 1022 := by unfold fPlc; omega
  rw [e1, e2, show double.leastPlace + ((l + 1022 : Nat) : Int) = (l : Int) - 52 from by rw [show double.leastPlace = -1074 from rfl]; omega]
theorem bit_le (b : Bool) : b.toNat ≤ 1 := by cases b <;> decide
theorem mag_bd {a n : Nat} (h0 : 0 < a) (h : a < 9007199254740992) (h1 : 0 < n) (h2 : n < 9007199254740992) : 54 ≤ (magK a n).log2 ∧ (magK a n).log2 ≤ 55 ∧ magK a n ≠ 0 := by
  have ⟨a1, a2, _⟩ := up_bd h0 h
  have ⟨n1, n2, _⟩ := up_bd h1 h2
  have hq : 2 * (a <<< (52 - a.log2) <<< 54 / n <<< (52 - n.log2)) ≤ magK a n ∧ magK a n ≤ 2 * (a <<< (52 - a.log2) <<< 54 / n <<< (52 - n.log2)) + 1 := by
    unfold magK
    have := bit_le ((a <<< (52 - a.log2)) <<< 54 % (n <<< (52 - n.log2)) != 0)
    omega
  generalize magK a n = g at *
  generalize a <<< (52 - a.log2) = m at *
  generalize n <<< (52 - n.log2) = k at *
  rw [Nat.shiftLeft_eq] at hq
  have q1 : 2 ^ 53 ≤ m * 2 ^ 54 / k := by rw [Nat.le_div_iff_mul_le (by omega)]; omega
  have q2 : m * 2 ^ 54 / k < 2 ^ 55 := by rw [Nat.div_lt_iff_lt_mul (by omega)]; omega
  generalize m * 2 ^ 54 / k = q at *
  have g0 : g ≠ 0 := by omega
  have := (Nat.le_log2 g0 (k := 54)).2 (by omega)
  have := (Nat.log2_lt g0 (k := 56)).2 (by omega)
  omega
theorem near_eq {g L k : Nat} {p : Int} (h0 : g ≠ 0) (hL : g.log2 = L) (h1 : 54 ≤ L) (h2 : L ≤ 60) (hk : (k : Int) = p + L + 1022) (hk2 : k ≤ 1100) : double.nearest false g p = k * 4503599627370496 + Toward.even.cut false g (L - 52) := by
  unfold Format.nearest
  rw [if_neg h0, word_pos, dbl_binade, dbl_inf, show (double.fractionBits : Int) = 52 from rfl, show double.leastPlace = -1074 from rfl, hL]
  have hlast : max (p + (L : Int) - 52) (-1074) = p + L - 52 := by omega
  simp only [hlast]
  rw [show (p - (p + (L : Int) - 52)).toNat = 0 by omega, show (p + (L : Int) - 52 - p).toNat = L - 52 by omega, show (p + (L : Int) - 52 - -1074).toNat = k by omega, Nat.shiftLeft_zero]
  have hc : Toward.even.cut false g (L - 52) ≤ 9007199254740992 := by
    refine cut_le _ _ ?_ (by omega)
    rw [Nat.div_lt_iff_lt_mul (Nat.two_pow_pos _), show (9007199254740992 : Nat) = 2 ^ 53 from rfl, ← Nat.pow_add, show 53 + (L - 52) = L + 1 by omega, ← hL]
    exact Nat.lt_log2_self
  generalize Toward.even.cut false g (L - 52) = c at *
  have h8 : k * 4503599627370496 ≤ 4953959590107545600 := Nat.le_trans (Nat.mul_le_mul_right _ hk2) (by decide +kernel)
  have h9 : k * 4503599627370496 + c ≤ 9218868437227405312 := Nat.le_trans (Nat.add_le_add h8 hc) (by decide +kernel)
  rw [Nat.min_eq_left h9]
theorem ratio_bits {a n : Nat} (h0 : 0 < a) (h : a < 9007199254740992) (h1 : 0 < n) (h2 : n < 9007199254740992) : ratioF (a : Int) (n : Int) = ratioK a n := by
  have ⟨a1, a2, a3⟩ := up_bd h0 h
  have ⟨n1, n2, n3⟩ := up_bd h1 h2
  have ⟨m1, m2, m3⟩ := mag_bd h0 h h1 h2
  have key : floatBits .quo .f64 (floatOfInt .f64 (a : Int)) (floatOfInt .f64 (n : Int)) = some (ratioK a n) := by
    show ((double.read (floatOfInt .f64 (a : Int))).quotient (double.fractionBits + 2) (double.read (floatOfInt .f64 (n : Int)))).map double.write = _
    rw [int_read h0 h, int_read h1 h2]
    unfold Datum.quotient
    have la : (a <<< (52 - a.log2)).log2 = 52 := log_of a1 a2
    have ln : (n <<< (52 - n.log2)).log2 = 52 := log_of n1 n2
    simp only [if_neg (show n <<< (52 - n.log2) ≠ 0 by omega), Bool.xor_false, la, ln, show double.fractionBits + 2 + 52 - 52 = 54 from rfl, Option.map_some]
    refine congrArg some ?_
    show double.nearest false (magK a n) _ = _
    unfold ratioK
    generalize magK a n = g at *
    refine near_eq m3 rfl m1 (by omega) ?_ (by omega)
    clear la ln h0 h h1 h2 a1 a2 n1 n2
    generalize g.log2 = L at *
    generalize a.log2 = y at *
    generalize n.log2 = z at *
    omega
  unfold ratioF
  rw [key]
  rfl
theorem ratio_zero {n : Nat} (h1 : 0 < n) (h2 : n < 9007199254740992) : ratioF 0 (n : Int) = 0 := by
  have ⟨n1, n2, n3⟩ := up_bd h1 h2
  unfold ratioF
  show (((double.read (floatOfInt .f64 0)).quotient (double.fractionBits + 2) (double.read (floatOfInt .f64 (n : Int)))).map double.write).getD 0 = _
  rw [int_read h1 h2, show double.read (floatOfInt .f64 0) = .number false 0 (-1074) by decide +kernel]
  unfold Datum.quotient
  simp only [if_neg (show n <<< (52 - n.log2) ≠ 0 by omega), Bool.xor_false, Option.map_some, Option.getD_some, Nat.zero_shiftLeft, Nat.zero_div, Nat.zero_mod, Nat.mul_zero]
  show double.nearest false 0 _ = 0
  unfold Format.nearest
  rw [if_pos rfl]; rfl

/-- What a float is worth, in the least places. -/
def fVal (b : Nat) : Nat := fMag b * 2 ^ fPlc b
theorem val_lt {a b : Nat} (h : a < b) : fVal a < fVal b := by
  have h1 := shift_lt h
  rw [Nat.shiftLeft_eq, Nat.shiftLeft_eq] at h1
  have h2 := Nat.mul_lt_mul_of_pos_right h1 (Nat.two_pow_pos (min (fPlc a) (fPlc b)))
  rw [Nat.mul_assoc, Nat.mul_assoc, ← Nat.pow_add, ← Nat.pow_add, Nat.sub_add_cancel (Nat.min_le_left _ _), Nat.sub_add_cancel (Nat.min_le_right _ _)] at h2
  exact h2
def bigT : Nat := 1 <<< 1074
def nearK (a n : Nat) : Bool :=
  if Nat.gcd a n = 1 then decide (fVal (ratioK a n) * n * 4503599627370496 ≤ a * bigT * 4503599627370497) && decide (a * bigT * 4503599627370495 ≤ fVal (ratioK a n) * n * 4503599627370496)
  else ratioK a n == ratioK (a / Nat.gcd a n) (n / Nat.gcd a n)
def nearAll (a : Nat) : Bool := (List.range 255).all fun n => nearK a (n + 1)
set_option maxRecDepth 1000000 in
theorem near_all : ((List.range 29).all fun a => nearAll (a + 1)) = true := by decide +kernel
theorem near_of {a n : Nat} (h0 : 0 < a) (h : a < 30) (h1 : 0 < n) (h2 : n ≤ 255) : nearK a n = true := by
  have k := List.all_eq_true.1 near_all (a - 1) (List.mem_range.2 (by omega))
  have k2 := List.all_eq_true.1 k (n - 1) (List.mem_range.2 (by omega))
  rwa [Nat.sub_add_cancel h0, Nat.sub_add_cancel h1] at k2
theorem near_cop {a n : Nat} (h0 : 0 < a) (h : a < 30) (h1 : 0 < n) (h2 : n ≤ 255) (hg : Nat.gcd a n = 1) :
    fVal (ratioK a n) * n * 4503599627370496 ≤ a * bigT * 4503599627370497 ∧ a * bigT * 4503599627370495 ≤ fVal (ratioK a n) * n * 4503599627370496 := by
  have k := near_of h0 h h1 h2
  unfold nearK at k
  rw [if_pos hg, Bool.and_eq_true, decide_eq_true_eq, decide_eq_true_eq] at k
  exact k
theorem near_red {a n : Nat} (h0 : 0 < a) (h : a < 30) (h1 : 0 < n) (h2 : n ≤ 255) : ratioK a n = ratioK (a / Nat.gcd a n) (n / Nat.gcd a n) := by
  by_cases hg : Nat.gcd a n = 1
  · rw [hg, Nat.div_one, Nat.div_one]
  · have k := near_of h0 h h1 h2
    unfold nearK at k
    rw [if_neg hg] at k
    exact beq_iff_eq.1 k
theorem cop_lt {a n b m : Nat} (h0 : 0 < a) (h : a < 30) (h1 : 0 < n) (h2 : n ≤ 255) (hg : Nat.gcd a n = 1) (k0 : 0 < b) (k : b < 30) (k1 : 0 < m) (k2 : m ≤ 255) (kg : Nat.gcd b m = 1) (hlt : a * m < b * n) : ratioK a n < ratioK b m := by
  have ⟨p1, _⟩ := near_cop h0 h h1 h2 hg
  have ⟨_, p2⟩ := near_cop k0 k k1 k2 kg
  refine Nat.lt_of_not_le fun hle => ?_
  have hv : fVal (ratioK b m) ≤ fVal (ratioK a n) := by
    rcases Nat.lt_or_eq_of_le hle with h | h
    · exact Nat.le_of_lt (val_lt h)
    · rw [h]; exact Nat.le_refl _
  generalize fVal (ratioK a n) = F1 at *
  generalize fVal (ratioK b m) = F2 at *
  have hT : 0 < bigT := by decide +kernel
  generalize bigT = T at *
  have e1 := Nat.mul_le_mul_right m p1
  have e2 := Nat.mul_le_mul_right n p2
  have e3 := Nat.mul_le_mul_right (n * m * 4503599627370496) hv
  have e4 : (b * n * 4503599627370495) * T ≤ (a * m * 4503599627370497) * T := by
    calc (b * n * 4503599627370495) * T = b * T * 4503599627370495 * n := by ac_rfl
      _ ≤ F2 * m * 4503599627370496 * n := e2
      _ = F2 * (n * m * 4503599627370496) := by ac_rfl
      _ ≤ F1 * (n * m * 4503599627370496) := e3
      _ = F1 * n * 4503599627370496 * m := by ac_rfl
      _ ≤ a * T * 4503599627370497 * m := e1
      _ = (a * m * 4503599627370497) * T := by ac_rfl
  have e5 := Nat.le_of_mul_le_mul_right e4 hT
  have e6 : a * m ≤ 29 * 255 := Nat.mul_le_mul (by omega) k2
  generalize a * m = x at *
  generalize b * n = y at *
  omega
theorem cop_eq {a n b m : Nat} (h1 : 0 < n) (k1 : 0 < m) (hg : Nat.gcd a n = 1) (kg : Nat.gcd b m = 1) (he : a * m = b * n) : a = b ∧ n = m := by
  have d1 : n ∣ m := (Nat.Coprime.symm hg).dvd_of_dvd_mul_left (by rw [he]; exact Nat.dvd_mul_left n b)
  have d2 : m ∣ n := (Nat.Coprime.symm kg).dvd_of_dvd_mul_left (by rw [← he]; exact Nat.dvd_mul_left m a)
  have e := Nat.dvd_antisymm d1 d2
  subst e
  exact ⟨Nat.eq_of_mul_eq_mul_right h1 he, rfl⟩
theorem ratioK_lt {a n b m : Nat} (h0 : 0 < a) (h : a < 30) (h1 : 0 < n) (h2 : n ≤ 255) (k0 : 0 < b) (k : b < 30) (k1 : 0 < m) (k2 : m ≤ 255) : ratioK a n < ratioK b m ↔ a * m < b * n := by
  rw [near_red h0 h h1 h2, near_red k0 k k1 k2]
  have hg := Nat.gcd_pos_of_pos_left n h0
  have kg := Nat.gcd_pos_of_pos_left m k0
  have ga := Nat.div_mul_cancel (Nat.gcd_dvd_left a n)
  have gn := Nat.div_mul_cancel (Nat.gcd_dvd_right a n)
  have gb := Nat.div_mul_cancel (Nat.gcd_dvd_left b m)
  have gm := Nat.div_mul_cancel (Nat.gcd_dvd_right b m)
  have c1 := Nat.coprime_div_gcd_div_gcd (m := a) (n := n) hg
  have c2 := Nat.coprime_div_gcd_div_gcd (m := b) (n := m) kg
  have b1 := Nat.div_le_self a (Nat.gcd a n)
  have b2 := Nat.div_le_self n (Nat.gcd a n)
  have b3 := Nat.div_le_self b (Nat.gcd b m)
  have b4 := Nat.div_le_self m (Nat.gcd b m)
  generalize Nat.gcd a n = g at *
  generalize Nat.gcd b m = q at *
  generalize a / g = a' at *
  generalize n / g = n' at *
  generalize b / q = b' at *
  generalize m / q = m' at *
  have pa : 0 < a' := Nat.pos_of_ne_zero (by rintro rfl; omega)
  have pn : 0 < n' := Nat.pos_of_ne_zero (by rintro rfl; omega)
  have pb : 0 < b' := Nat.pos_of_ne_zero (by rintro rfl; omega)
  have pm : 0 < m' := Nat.pos_of_ne_zero (by rintro rfl; omega)
  have e1 : a * m = a' * m' * (g * q) := by rw [← ga, ← gm]; ac_rfl
  have e2 : b * n = b' * n' * (g * q) := by rw [← gb, ← gn]; ac_rfl
  have hgq : 0 < g * q := Nat.mul_pos hg kg
  rw [e1, e2, Nat.mul_lt_mul_right hgq]
  rcases Nat.lt_trichotomy (a' * m') (b' * n') with hc | hc | hc
  · exact ⟨fun _ => hc, fun _ => cop_lt pa (by omega) pn (by omega) c1 pb (by omega) pm (by omega) c2 hc⟩
  · obtain ⟨rfl, rfl⟩ := cop_eq pn pm c1 c2 hc
    exact ⟨fun hh => absurd hh (Nat.lt_irrefl _), fun hh => absurd hh (Nat.lt_irrefl _)⟩
  · have := cop_lt pb (by omega) pm (by omega) c2 pa (by omega) pn (by omega) c1 hc
    exact ⟨fun hh => by omega, fun hh => by omega⟩
/-- Costs below 30, loads from 1 to 255: the floats of the ratios stand as the products crosswise. -/
theorem ratio_cross {a n b m : Nat} (h : a < 30) (h1 : 0 < n) (h2 : n ≤ 255) (k : b < 30) (k1 : 0 < m) (k2 : m ≤ 255) : ratioF (a : Int) (n : Int) < ratioF (b : Int) (m : Int) ↔ a * m < b * n := by
  by_cases ha : a = 0
  · subst ha
    rw [show ((0 : Nat) : Int) = 0 from rfl, ratio_zero h1 (by omega), Nat.zero_mul]
    by_cases hb : b = 0
    · subst hb
      rw [show ((0 : Nat) : Int) = 0 from rfl, ratio_zero k1 (by omega)]; simp
    · rw [ratio_bits (by omega) (by omega) k1 (by omega)]
      have hbn : 0 < b * n := Nat.mul_pos (by omega) h1
      have hrk : 0 < ratioK b m := by
        unfold ratioK
        have hm : m.log2 < 8 := (Nat.log2_lt (by omega)).2 (by omega)
        generalize Toward.even.cut false _ _ = c
        generalize (magK b m).log2 = z
        generalize b.log2 = y
        generalize m.log2 = u at hm
        have h5 : 1 ≤ y + z + 967 - u := by omega
        have h6 := Nat.mul_le_mul_right 4503599627370496 h5
        omega
      exact ⟨fun _ => hbn, fun _ => hrk⟩
  · by_cases hb : b = 0
    · subst hb
      rw [show ((0 : Nat) : Int) = 0 from rfl, ratio_zero k1 (by omega)]; simp
    · rw [ratio_bits (by omega) (by omega) h1 (by omega), ratio_bits (by omega) (by omega) k1 (by omega)]
      exact ratioK_lt (by omega) h h1 h2 (by omega) k k1 k2
end Go.Proofs.Ytafhjfkdlmijdaa
