/- Texts of the proof, joined: Ratio, OrdLaw, InsRow, Insert. -/
import Derived.Test.YtafhjfkdlmijdaaGe
import Derived.Test.YtafhjfkdlmijdaaOrder
import Derived.Shelf.Spec.SlicesInsertGrow
/- The floats of ratios of small whole numbers stand as the ratios do, crosswise. No program in sight. -/
namespace Go.Proofs.Ytafhjfkdlmijdaa
open Go.RowKit Ieee

/-- The ratio's bits, in natural numbers. -/
def magK (a n : Nat) : Nat := 2 * ((a <<< (52 - a.log2)) <<< 54 / (n <<< (52 - n.log2))) + ((a <<< (52 - a.log2)) <<< 54 % (n <<< (52 - n.log2)) != 0).toNat
def ratioK (a n : Nat) : Nat := (a.log2 + (magK a n).log2 + 967 - n.log2) * 4503599627370496 + Toward.even.cut false (magK a n) ((magK a n).log2 - 52)
theorem log_of {m k : Nat} (h1 : 2 ^ k ≤ m) (h2 : m < 2 ^ (k + 1)) : m.log2 = k := by
  have h0 : m ≠ 0 := by have := Nat.two_pow_pos k; omega
  have := (Nat.log2_lt h0).2 h2
  have := (Nat.le_log2 h0).2 h1
  omega
theorem up_bd {a : Nat} (h0 : 0 < a) (h : a < 9007199254740992) : 4503599627370496 ≤ a <<< (52 - a.log2) ∧ a <<< (52 - a.log2) < 9007199254740992 ∧ a.log2 ≤ 52 := by
  have hz : a ≠ 0 := by omega
  have hl : a.log2 ≤ 52 := by
    have := (Nat.log2_lt hz (k := 53)).2 (by omega)
    omega
  rw [Nat.shiftLeft_eq]
  refine ⟨?_, ?_, hl⟩
  · calc 4503599627370496 = 2 ^ a.log2 * 2 ^ (52 - a.log2) := by rw [← Nat.pow_add, show a.log2 + (52 - a.log2) = 52 by omega]
      _ ≤ a * 2 ^ (52 - a.log2) := Nat.mul_le_mul_right _ (Nat.log2_self_le hz)
  · calc a * 2 ^ (52 - a.log2) < 2 ^ (a.log2 + 1) * 2 ^ (52 - a.log2) := Nat.mul_lt_mul_of_pos_right Nat.lt_log2_self (Nat.two_pow_pos _)
      _ = 9007199254740992 := by rw [← Nat.pow_add, show a.log2 + 1 + (52 - a.log2) = 53 by omega]
theorem cut_none (n : Nat) : Toward.even.cut false n 0 = n := by
  unfold Toward.cut
  simp [Nat.mod_one]
theorem int_bits {a : Nat} (h0 : 0 < a) (h : a < 9007199254740992) : floatOfInt .f64 (a : Int) = (a.log2 + 1022) * 4503599627370496 + a <<< (52 - a.log2) := by
  have ⟨h1, h2, h3⟩ := up_bd h0 h
  have e : floatOfInt .f64 (a : Int) = double.nearest false a 0 := by
    show double.nearest (decide ((a : Int) < 0)) (a : Int).natAbs 0 = _
    rw [decide_eq_false (by omega), Int.natAbs_natCast]
  rw [e]
  unfold Format.nearest
  rw [if_neg (by omega), word_pos, dbl_binade, dbl_inf, show (double.fractionBits : Int) = 52 from rfl, show double.leastPlace = -1074 from rfl]
  have hlast : max (0 + (a.log2 : Int) - 52) (-1074) = (a.log2 : Int) - 52 := by omega
  simp only [hlast]
  rw [show (0 - ((a.log2 : Int) - 52)).toNat = 52 - a.log2 by omega, show ((a.log2 : Int) - 52 - 0).toNat = 0 by omega, show ((a.log2 : Int) - 52 - -1074).toNat = a.log2 + 1022 by omega, cut_none, Nat.min_eq_left (by omega)]
theorem int_read {a : Nat} (h0 : 0 < a) (h : a < 9007199254740992) : double.read (floatOfInt .f64 (a : Int)) = .number false (a <<< (52 - a.log2)) ((a.log2 : Int) - 52) := by
  have ⟨h1, h2, h3⟩ := up_bd h0 h
  rw [int_bits h0 h, read_nn (by unfold fInf; omega)]
  generalize a <<< (52 - a.log2) = m at *
  generalize a.log2 = l at *
  have e1 : fMag ((l + 1022) * 4503599627370496 + m) = m := by unfold fMag; rw [if_neg (by omega)]; omega
  have e2 : fPlc ((l + 1022) * 4503599627370496 + m) = l + 1022 := by unfold fPlc; omega
  rw [e1, e2, show double.leastPlace + ((l + 1022 : Nat) : Int) = (l : Int) - 52 from by rw [show double.leastPlace = -1074 from rfl]; omega]
theorem bit_le (b : Bool) : b.toNat ≤ 1 := by cases b <;> decide
theorem mag_bd {a n : Nat} (h0 : 0 < a) (h : a < 9007199254740992) (h1 : 0 < n) (h2 : n < 9007199254740992) : 54 ≤ (magK a n).log2 ∧ (magK a n).log2 ≤ 55 ∧ magK a n ≠ 0 := by
  have ⟨a1, a2, _⟩ := up_bd h0 h
  have ⟨n1, n2, _⟩ := up_bd h1 h2
  have hq : 2 * (a <<< (52 - a.log2) <<< 54 / n <<< (52 - n.log2)) ≤ magK a n ∧ magK a n ≤ 2 * (a <<< (52 - a.log2) <<< 54 / n <<< (52 - n.log2)) + 1 := by
    unfold magK
    have := bit_le ((a <<< (52 - a.log2)) <<< 54 % (n <<< (52 - n.log2)) != 0)
    omega
  generalize magK a n = g at *
  generalize a <<< (52 - a.log2) = m at *
  generalize n <<< (52 - n.log2) = k at *
  rw [Nat.shiftLeft_eq] at hq
  have q1 : 2 ^ 53 ≤ m * 2 ^ 54 / k := by rw [Nat.le_div_iff_mul_le (by omega)]; omega
  have q2 : m * 2 ^ 54 / k < 2 ^ 55 := by rw [Nat.div_lt_iff_lt_mul (by omega)]; omega
  generalize m * 2 ^ 54 / k = q at *
  have g0 : g ≠ 0 := by omega
  have := (Nat.le_log2 g0 (k := 54)).2 (by omega)
  have := (Nat.log2_lt g0 (k := 56)).2 (by omega)
  omega
theorem near_eq {g L k : Nat} {p : Int} (h0 : g ≠ 0) (hL : g.log2 = L) (h1 : 54 ≤ L) (h2 : L ≤ 60) (hk : (k : Int) = p + L + 1022) (hk2 : k ≤ 1100) : double.nearest false g p = k * 4503599627370496 + Toward.even.cut false g (L - 52) := by
  unfold Format.nearest
  rw [if_neg h0, word_pos, dbl_binade, dbl_inf, show (double.fractionBits : Int) = 52 from rfl, show double.leastPlace = -1074 from rfl, hL]
  have hlast : max (p + (L : Int) - 52) (-1074) = p + L - 52 := by omega
  simp only [hlast]
  rw [show (p - (p + (L : Int) - 52)).toNat = 0 by omega, show (p + (L : Int) - 52 - p).toNat = L - 52 by omega, show (p + (L : Int) - 52 - -1074).toNat = k by omega, Nat.shiftLeft_zero]
  have hc : Toward.even.cut false g (L - 52) ≤ 9007199254740992 := by
    refine cut_le _ _ ?_ (by omega)
    rw [Nat.div_lt_iff_lt_mul (Nat.two_pow_pos _), show (9007199254740992 : Nat) = 2 ^ 53 from rfl, ← Nat.pow_add, show 53 + (L - 52) = L + 1 by omega, ← hL]
    exact Nat.lt_log2_self
  generalize Toward.even.cut false g (L - 52) = c at *
  have h8 : k * 4503599627370496 ≤ 4953959590107545600 := Nat.le_trans (Nat.mul_le_mul_right _ hk2) (by decide +kernel)
  have h9 : k * 4503599627370496 + c ≤ 9218868437227405312 := Nat.le_trans (Nat.add_le_add h8 hc) (by decide +kernel)
  rw [Nat.min_eq_left h9]
theorem ratio_bits {a n : Nat} (h0 : 0 < a) (h : a < 9007199254740992) (h1 : 0 < n) (h2 : n < 9007199254740992) : ratioF (a : Int) (n : Int) = ratioK a n := by
  have ⟨a1, a2, a3⟩ := up_bd h0 h
  have ⟨n1, n2, n3⟩ := up_bd h1 h2
  have ⟨m1, m2, m3⟩ := mag_bd h0 h h1 h2
  have key : floatBits .quo .f64 (floatOfInt .f64 (a : Int)) (floatOfInt .f64 (n : Int)) = some (ratioK a n) := by
    show ((double.read (floatOfInt .f64 (a : Int))).quotient (double.fractionBits + 2) (double.read (floatOfInt .f64 (n : Int)))).map double.write = _
    rw [int_read h0 h, int_read h1 h2]
    unfold Datum.quotient
    have la : (a <<< (52 - a.log2)).log2 = 52 := log_of a1 a2
    have ln : (n <<< (52 - n.log2)).log2 = 52 := log_of n1 n2
    simp only [if_neg (show n <<< (52 - n.log2) ≠ 0 by omega), Bool.xor_false, la, ln, show double.fractionBits + 2 + 52 - 52 = 54 from rfl, Option.map_some]
    refine congrArg some ?_
    show double.nearest false (magK a n) _ = _
    unfold ratioK
    generalize magK a n = g at *
    refine near_eq m3 rfl m1 (by omega) ?_ (by omega)
    clear la ln h0 h h1 h2 a1 a2 n1 n2
    generalize g.log2 = L at *
    generalize a.log2 = y at *
    generalize n.log2 = z at *
    omega
  unfold ratioF
  rw [key]
  rfl
theorem ratio_zero {n : Nat} (h1 : 0 < n) (h2 : n < 9007199254740992) : ratioF 0 (n : Int) = 0 := by
  have ⟨n1, n2, n3⟩ := up_bd h1 h2
  unfold ratioF
  show (((double.read (floatOfInt .f64 0)).quotient (double.fractionBits + 2) (double.read (floatOfInt .f64 (n : Int)))).map double.write).getD 0 = _
  rw [int_read h1 h2, show double.read (floatOfInt .f64 0) = .number false 0 (-1074) by decide +kernel]
  unfold Datum.quotient
  simp only [if_neg (show n <<< (52 - n.log2) ≠ 0 by omega), Bool.xor_false, Option.map_some, Option.getD_some, Nat.zero_shiftLeft, Nat.zero_div, Nat.zero_mod, Nat.mul_zero]
  show double.nearest false 0 _ = 0
  unfold Format.nearest
  rw [if_pos rfl]; rfl

/-- What a float is worth, in the least places. -/
def fVal (b : Nat) : Nat := fMag b * 2 ^ fPlc b
theorem val_lt {a b : Nat} (h : a < b) : fVal a < fVal b := by
  have h1 := shift_lt h
  rw [Nat.shiftLeft_eq, Nat.shiftLeft_eq] at h1
  have h2 := Nat.mul_lt_mul_of_pos_right h1 (Nat.two_pow_pos (min (fPlc a) (fPlc b)))
  rw [Nat.mul_assoc, Nat.mul_assoc, ← Nat.pow_add, ← Nat.pow_add, Nat.sub_add_cancel (Nat.min_le_left _ _), Nat.sub_add_cancel (Nat.min_le_right _ _)] at h2
  exact h2
def bigT : Nat := 1 <<< 1074
def nearK (a n : Nat) : Bool :=
  if Nat.gcd a n = 1 then decide (fVal (ratioK a n) * n * 4503599627370496 ≤ a * bigT * 4503599627370497) && decide (a * bigT * 4503599627370495 ≤ fVal (ratioK a n) * n * 4503599627370496)
  else ratioK a n == ratioK (a / Nat.gcd a n) (n / Nat.gcd a n)
def nearAll (a : Nat) : Bool := (List.range 255).all fun n => nearK a (n + 1)
set_option maxRecDepth 1000000 in
theorem near_all : ((List.range 29).all fun a => nearAll (a + 1)) = true := by decide +kernel
theorem near_of {a n : Nat} (h0 : 0 < a) (h : a < 30) (h1 : 0 < n) (h2 : n ≤ 255) : nearK a n = true := by
  have k := List.all_eq_true.1 near_all (a - 1) (List.mem_range.2 (by omega))
  have k2 := List.all_eq_true.1 k (n - 1) (List.mem_range.2 (by omega))
  rwa [Nat.sub_add_cancel h0, Nat.sub_add_cancel h1] at k2
theorem near_cop {a n : Nat} (h0 : 0 < a) (h : a < 30) (h1 : 0 < n) (h2 : n ≤ 255) (hg : Nat.gcd a n = 1) :
    fVal (ratioK a n) * n * 4503599627370496 ≤ a * bigT * 4503599627370497 ∧ a * bigT * 4503599627370495 ≤ fVal (ratioK a n) * n * 4503599627370496 := by
  have k := near_of h0 h h1 h2
  unfold nearK at k
  rw [if_pos hg, Bool.and_eq_true, decide_eq_true_eq, decide_eq_true_eq] at k
  exact k
theorem near_red {a n : Nat} (h0 : 0 < a) (h : a < 30) (h1 : 0 < n) (h2 : n ≤ 255) : ratioK a n = ratioK (a / Nat.gcd a n) (n / Nat.gcd a n) := by
  by_cases hg : Nat.gcd a n = 1
  · rw [hg, Nat.div_one, Nat.div_one]
  · have k := near_of h0 h h1 h2
    unfold nearK at k
    rw [if_neg hg] at k
    exact beq_iff_eq.1 k
theorem cop_lt {a n b m : Nat} (h0 : 0 < a) (h : a < 30) (h1 : 0 < n) (h2 : n ≤ 255) (hg : Nat.gcd a n = 1) (k0 : 0 < b) (k : b < 30) (k1 : 0 < m) (k2 : m ≤ 255) (kg : Nat.gcd b m = 1) (hlt : a * m < b * n) : ratioK a n < ratioK b m := by
  have ⟨p1, _⟩ := near_cop h0 h h1 h2 hg
  have ⟨_, p2⟩ := near_cop k0 k k1 k2 kg
  refine Nat.lt_of_not_le fun hle => ?_
  have hv : fVal (ratioK b m) ≤ fVal (ratioK a n) := by
    rcases Nat.lt_or_eq_of_le hle with h | h
    · exact Nat.le_of_lt (val_lt h)
    · rw [h]; exact Nat.le_refl _
  generalize fVal (ratioK a n) = F1 at *
  generalize fVal (ratioK b m) = F2 at *
  have hT : 0 < bigT := by decide +kernel
  generalize bigT = T at *
  have e1 := Nat.mul_le_mul_right m p1
  have e2 := Nat.mul_le_mul_right n p2
  have e3 := Nat.mul_le_mul_right (n * m * 4503599627370496) hv
  have e4 : (b * n * 4503599627370495) * T ≤ (a * m * 4503599627370497) * T := by
    calc (b * n * 4503599627370495) * T = b * T * 4503599627370495 * n := by ac_rfl
      _ ≤ F2 * m * 4503599627370496 * n := e2
      _ = F2 * (n * m * 4503599627370496) := by ac_rfl
      _ ≤ F1 * (n * m * 4503599627370496) := e3
      _ = F1 * n * 4503599627370496 * m := by ac_rfl
      _ ≤ a * T * 4503599627370497 * m := e1
      _ = (a * m * 4503599627370497) * T := by ac_rfl
  have e5 := Nat.le_of_mul_le_mul_right e4 hT
  have e6 : a * m ≤ 29 * 255 := Nat.mul_le_mul (by omega) k2
  generalize a * m = x at *
  generalize b * n = y at *
  omega
theorem cop_eq {a n b m : Nat} (h1 : 0 < n) (k1 : 0 < m) (hg : Nat.gcd a n = 1) (kg : Nat.gcd b m = 1) (he : a * m = b * n) : a = b ∧ n = m := by
  have d1 : n ∣ m := (Nat.Coprime.symm hg).dvd_of_dvd_mul_left (by rw [he]; exact Nat.dvd_mul_left n b)
  have d2 : m ∣ n := (Nat.Coprime.symm kg).dvd_of_dvd_mul_left (by rw [← he]; exact Nat.dvd_mul_left m a)
  have e := Nat.dvd_antisymm d1 d2
  subst e
  exact ⟨Nat.eq_of_mul_eq_mul_right h1 he, rfl⟩
theorem ratioK_lt {a n b m : Nat} (h0 : 0 < a) (h : a < 30) (h1 : 0 < n) (h2 : n ≤ 255) (k0 : 0 < b) (k : b < 30) (k1 : 0 < m) (k2 : m ≤ 255) : ratioK a n < ratioK b m ↔ a * m < b * n := by
  rw [near_red h0 h h1 h2, near_red k0 k k1 k2]
  have hg := Nat.gcd_pos_of_pos_left n h0
  have kg := Nat.gcd_pos_of_pos_left m k0
  have ga := Nat.div_mul_cancel (Nat.gcd_dvd_left a n)
  have gn := Nat.div_mul_cancel (Nat.gcd_dvd_right a n)
  have gb := Nat.div_mul_cancel (Nat.gcd_dvd_left b m)
  have gm := Nat.div_mul_cancel (Nat.gcd_dvd_right b m)
  have c1 := Nat.coprime_div_gcd_div_gcd (m := a) (n := n) hg
  have c2 := Nat.coprime_div_gcd_div_gcd (m := b) (n := m) kg
  have b1 := Nat.div_le_self a (Nat.gcd a n)
  have b2 := Nat.div_le_self n (Nat.gcd a n)
  have b3 := Nat.div_le_self b (Nat.gcd b m)
  have b4 := Nat.div_le_self m (Nat.gcd b m)
  generalize Nat.gcd a n = g at *
  generalize Nat.gcd b m = q at *
  generalize a / g = a' at *
  generalize n / g = n' at *
  generalize b / q = b' at *
  generalize m / q = m' at *
  have pa : 0 < a' := Nat.pos_of_ne_zero (by rintro rfl; omega)
  have pn : 0 < n' := Nat.pos_of_ne_zero (by rintro rfl; omega)
  have pb : 0 < b' := Nat.pos_of_ne_zero (by rintro rfl; omega)
  have pm : 0 < m' := Nat.pos_of_ne_zero (by rintro rfl; omega)
  have e1 : a * m = a' * m' * (g * q) := by rw [← ga, ← gm]; ac_rfl
  have e2 : b * n = b' * n' * (g * q) := by rw [← gb, ← gn]; ac_rfl
  have hgq : 0 < g * q := Nat.mul_pos hg kg
  rw [e1, e2, Nat.mul_lt_mul_right hgq]
  rcases Nat.lt_trichotomy (a' * m') (b' * n') with hc | hc | hc
  · exact ⟨fun _ => hc, fun _ => cop_lt pa (by omega) pn (by omega) c1 pb (by omega) pm (by omega) c2 hc⟩
  · obtain ⟨rfl, rfl⟩ := cop_eq pn pm c1 c2 hc
    exact ⟨fun hh => absurd hh (Nat.lt_irrefl _), fun hh => absurd hh (Nat.lt_irrefl _)⟩
  · have := cop_lt pb (by omega) pm (by omega) c2 pa (by omega) pn (by omega) c1 hc
    exact ⟨fun hh => by omega, fun hh => by omega⟩
/-- Costs below 30, loads from 1 to 255: the floats of the ratios stand as the products crosswise. -/
theorem ratio_cross {a n b m : Nat} (h : a < 30) (h1 : 0 < n) (h2 : n ≤ 255) (k : b < 30) (k1 : 0 < m) (k2 : m ≤ 255) : ratioF (a : Int) (n : Int) < ratioF (b : Int) (m : Int) ↔ a * m < b * n := by
  by_cases ha : a = 0
  · subst ha
    rw [show ((0 : Nat) : Int) = 0 from rfl, ratio_zero h1 (by omega), Nat.zero_mul]
    by_cases hb : b = 0
    · subst hb
      rw [show ((0 : Nat) : Int) = 0 from rfl, ratio_zero k1 (by omega)]; simp
    · rw [ratio_bits (by omega) (by omega) k1 (by omega)]
      have hbn : 0 < b * n := Nat.mul_pos (by omega) h1
      have hrk : 0 < ratioK b m := by
        unfold ratioK
        have hm : m.log2 < 8 := (Nat.log2_lt (by omega)).2 (by omega)
        generalize Toward.even.cut false _ _ = c
        generalize (magK b m).log2 = z
        generalize b.log2 = y
        generalize m.log2 = u at hm
        have h5 : 1 ≤ y + z + 967 - u := by omega
        have h6 := Nat.mul_le_mul_right 4503599627370496 h5
        omega
      exact ⟨fun _ => hbn, fun _ => hrk⟩
  · by_cases hb : b = 0
    · subst hb
      rw [show ((0 : Nat) : Int) = 0 from rfl, ratio_zero k1 (by omega)]; simp
    · rw [ratio_bits (by omega) (by omega) h1 (by omega), ratio_bits (by omega) (by omega) k1 (by omega)]
      exact ratioK_lt (by omega) h h1 h2 (by omega) k k1 k2
end Go.Proofs.Ytafhjfkdlmijdaa
/- The law's order, crosswise, is haul.Order's, by floats. No program in sight. -/
namespace Go.Proofs.Ytafhjfkdlmijdaa
open Go.RowKit

theorem insRev_congr {α : Type} {lt lt' : α → α → Bool} {x : α} : ∀ {l : List α}, (∀ y ∈ l, lt x y = lt' x y) → insRev lt x l = insRev lt' x l
  | [], _ => rfl
  | y :: ys, h => by
    unfold insRev
    rw [h y (List.mem_cons_self ..), insRev_congr (fun z hz => h z (List.mem_cons_of_mem _ hz))]
theorem insR_congr {α : Type} {lt lt' : α → α → Bool} {x : α} {l : List α} (h : ∀ y ∈ l, lt x y = lt' x y) : insR lt x l = insR lt' x l := by
  unfold insR; rw [insRev_congr (fun y hy => h y (List.mem_reverse.1 hy))]
theorem foldR_congr {α : Type} {lt lt' : α → α → Bool} : ∀ (l acc : List α), (∀ a ∈ l, ∀ b, b ∈ acc ∨ b ∈ l → lt a b = lt' a b) → l.foldl (fun acc x => insR lt x acc) acc = l.foldl (fun acc x => insR lt' x acc) acc
  | [], _, _ => rfl
  | y :: l, acc, h => by
    rw [List.foldl_cons, List.foldl_cons, insR_congr (fun z hz => h y (List.mem_cons_self ..) z (.inl hz))]
    refine foldR_congr l _ fun a ha b hb => h a (List.mem_cons_of_mem _ ha) b ?_
    rcases hb with hb | hb
    · rcases (insR_mem _ _ _ _).1 hb with rfl | hb
      · exact .inr (List.mem_cons_self ..)
      · exact .inl hb
    · exact .inr (List.mem_cons_of_mem _ hb)
theorem sortD_congr {α : Type} {lt lt' : α → α → Bool} {l : List α} (h : ∀ a ∈ l, ∀ b ∈ l, lt a b = lt' a b) : sortD lt l = sortD lt' l :=
  foldR_congr l [] fun a ha b hb => h a ha b (hb.resolve_left (fun h => by cases h))
theorem sortD_snoc {α : Type} (lt : α → α → Bool) (l : List α) (x : α) : sortD lt (l ++ [x]) = insR lt x (sortD lt l) := by unfold sortD; rw [List.foldl_append]; rfl
theorem insR_all {α : Type} {lt : α → α → Bool} {x : α} (A : List α) : ∀ (n : Nat) (B : List α), B.length = n → (∀ y ∈ B, lt x y = true) → insR lt x (A ++ B) = insR lt x A ++ B
  | 0, B, hn, _ => by
    obtain rfl := List.eq_nil_of_length_eq_zero hn
    simp
  | n + 1, B, hn, h => by
    obtain ⟨B', y, rfl⟩ : ∃ B' y, B = B' ++ [y] := ⟨B.dropLast, B.getLast (by intro e; rw [e] at hn; cases hn), (List.dropLast_concat_getLast _).symm⟩
    rw [← List.append_assoc, insR_snoc, if_pos (h y (by simp)), insR_all A n B' (by simpa using hn) (fun z hz => h z (by simp [hz])), List.append_assoc]
/-- Where the search from the right stops, there it comes. -/
theorem insR_at {α : Type} {lt : α → α → Bool} {x : α} {l : List α} {k : Nat} (hk : k ≤ l.length) (h1 : ∀ j (h : j < l.length), k ≤ j → lt x l[j] = true) (h2 : ∀ (h : k - 1 < l.length), 0 < k → lt x l[k - 1] = false) :
    insR lt x l = l.take k ++ x :: l.drop k := by
  have e : l = l.take k ++ l.drop k := (List.take_append_drop k l).symm
  have hB : ∀ y ∈ l.drop k, lt x y = true := fun y hy => by
    obtain ⟨i, hi, rfl⟩ := List.getElem_of_mem hy
    rw [List.getElem_drop]
    exact h1 _ (by rw [List.length_drop] at hi; omega) (Nat.le_add_right _ _)
  conv => lhs; rw [e]
  rw [insR_all _ _ _ rfl hB]
  have hA : insR lt x (l.take k) = l.take k ++ [x] := by
    by_cases h0 : k = 0
    · subst h0; simp [insR_nil]
    · have hlt : k - 1 < l.length := by omega
      have e2 : l.take k = l.take (k - 1) ++ [l[k - 1]] := by
        conv => lhs; rw [show k = k - 1 + 1 by omega]
        rw [List.take_add_one, List.getElem?_eq_getElem hlt]; rfl
      rw [e2, insR_snoc, h2 hlt (by omega)]
      simp only [Bool.false_eq_true, if_false, List.append_assoc, List.cons_append, List.nil_append]
  rw [hA, List.append_assoc]; rfl

/-- The law's comparison: crosswise, in whole numbers. -/
def ltW (x : InstD) (l : List Int) (a b : Nat) : Bool := decide (costAt x 0 (1 + a) * l.getD b 0 < costAt x 0 (1 + b) * l.getD a 0)
def orderW (x : InstD) (l : List Int) (k : Nat) : List Nat := sortD (ltW x l) (idxs l k)
theorem orderW_no {x : InstD} {l : List Int} {k : Nat} (h : ¬ 0 < l.getD k 0) : orderW x l (k + 1) = orderW x l k := by unfold orderW; rw [idxs_no h]
theorem orderW_yes {x : InstD} {l : List Int} {k : Nat} (h : 0 < l.getD k 0) : orderW x l (k + 1) = insR (ltW x l) k (orderW x l k) := by unfold orderW; rw [idxs_yes h, sortD_snoc]
theorem orderW_lt {x : InstD} {l : List Int} {k i : Nat} (h : i ∈ orderW x l k) : i < k := idxs_lt ((sortD_mem _ _ _).1 h)
theorem orderW_len (x : InstD) (l : List Int) (k : Nat) : (orderW x l k).length ≤ k := by unfold orderW; rw [sortD_len]; exact idxs_len l k
theorem keysUp_at {x : InstD} {l : List Int} {i : Nat} (hi : i ∈ idxs l l.length) : (keysUp x l l.length).getD i 0 = ratioF (costAt x 0 (1 + i)) (l.getD i 0) := by
  have h1 := idxs_lt hi
  have h2 : 0 < l.getD i 0 := by unfold idxs at hi; exact of_decide_eq_true (List.mem_filter.1 hi).2
  rw [List.getD_eq_getElem?_getD, List.getElem?_eq_getElem (by rw [keysUp_len]; exact h1), Option.getD_some]
  simp only [keysUp, List.getElem_map, List.getElem_range]
  rw [if_pos ⟨h1, h2⟩]
theorem order_law {x : InstD} {l : List Int} (hck : check x = 0) (hl : l.length = x.sats.length) (hc : ∀ k, 0 ≤ costAt x 0 k ∧ costAt x 0 k < 30) (hb : ∀ v ∈ l, v ≤ 255) : orderD x l = orderW x l l.length := by
  unfold orderD orderW
  rw [if_pos ⟨hck, hl⟩]
  refine sortD_congr fun a ha b hbb => ?_
  unfold ltK ltW
  rw [keysUp_at ha, keysUp_at hbb]
  have pos : ∀ i ∈ idxs l l.length, 0 < l.getD i 0 ∧ l.getD i 0 ≤ 255 := fun i hi => by
    refine ⟨by unfold idxs at hi; exact of_decide_eq_true (List.mem_filter.1 hi).2, ?_⟩
    rw [List.getD_eq_getElem?_getD, List.getElem?_eq_getElem (idxs_lt hi)]
    exact hb _ (List.getElem_mem _)
  have pa := pos a ha
  have pb := pos b hbb
  have ca := hc (1 + a)
  have cb := hc (1 + b)
  generalize costAt x 0 (1 + a) = p at *
  generalize costAt x 0 (1 + b) = q at *
  generalize l.getD a 0 = n at *
  generalize l.getD b 0 = m at *
  obtain ⟨p', rfl⟩ := Int.eq_ofNat_of_zero_le ca.1
  obtain ⟨q', rfl⟩ := Int.eq_ofNat_of_zero_le cb.1
  obtain ⟨n', rfl⟩ := Int.eq_ofNat_of_zero_le (by omega : 0 ≤ n)
  obtain ⟨m', rfl⟩ := Int.eq_ofNat_of_zero_le (by omega : 0 ≤ m)
  have := ratio_cross (a := p') (n := n') (b := q') (m := m') (by omega) (by omega) (by omega) (by omega) (by omega) (by omega)
  rw [decide_eq_decide, this]
  norm_cast
end Go.Proofs.Ytafhjfkdlmijdaa
/- What cells set one behind the other leave in a row of one's own. No program in sight. -/
namespace Go.Proofs.Ytafhjfkdlmijdaa
open Go.RowKit

theorem heap_setCells_in (b e : Nat) (fz : Nat × Nat) : ∀ (vs M A R : List Value) (o : Nat) (w : World) (cur : Array Value), w.heap[b]? = some (.cells cur e fz) → cur.toList = A ++ M ++ R → A.length = o → M.length = vs.length →
    ∃ cur' : Array Value, (w.setCells b o vs).heap[b]? = some (.cells cur' e fz) ∧ cur'.toList = A ++ vs ++ R
  | [], M, A, R, o, w, cur, h, hc, _, hm => by
    obtain rfl := List.eq_nil_of_length_eq_zero hm
    exact ⟨cur, h, hc⟩
  | v :: vs, [], A, R, o, w, cur, h, hc, _, hm => by cases hm
  | v :: vs, m :: M, A, R, o, w, cur, h, hc, ho, hm => by
    have h' : (w.setCell ⟨b, o, none⟩ v).heap[b]? = some (.cells (cur.setIfInBounds o v) e fz) := by simp [World.setCell, Array.getElem?_modify, h]
    have hc' : (cur.setIfInBounds o v).toList = (A ++ [v]) ++ M ++ R := by
      rw [Array.toList_setIfInBounds, hc, ← ho, List.append_assoc, List.set_append_right _ _ (Nat.le_refl _), Nat.sub_self]
      simp
    obtain ⟨cur', h1, h2⟩ := heap_setCells_in b e fz vs M (A ++ [v]) R (o + 1) _ _ h' hc' (by simp [ho]) (by simpa using hm)
    exact ⟨cur', h1, by rw [h2]; simp⟩
theorem grown_step {a b c : World} {row : Option Nat} (h : a.grownBy b row) (h2 : b.grownBy c row) : a.grownBy c row :=
  ⟨h2.os.trans h.os, h2.tape.trans h.tape, h2.output.trans h.output, Nat.le_trans h.size h2.size, fun k hk hne => (h2.block k (Nat.lt_of_lt_of_le hk h.size) hne).trans (h.block k hk hne)⟩
theorem grown_refl (w : World) (row : Option Nat) : w.grownBy w row := ⟨rfl, rfl, rfl, Nat.le_refl _, fun _ _ _ => rfl⟩
theorem grown_setCells (b : Nat) : ∀ (vs : List Value) (o : Nat) (w : World), w.grownBy (w.setCells b o vs) (some b)
  | [], _, w => grown_refl w _
  | v :: vs, o, w => grown_step (grown_set w ⟨b, o, none⟩ v) (grown_setCells b vs (o + 1) _)
theorem grown_drew (w : World) (row : Option Nat) : w.grownBy w.drew row := ⟨rfl, rfl, rfl, Nat.le_refl _, fun _ _ _ => rfl⟩
theorem grown_alloc (w : World) (o : Obj) (row : Option Nat) : w.grownBy (w.alloc o) row := ⟨rfl, rfl, rfl, by simp, fun _ hk _ => heap_alloc_old w _ hk⟩
/-- A block beyond the world's old end counts as no row of it. -/
theorem grown_new {a b : World} {g : Nat} (h : a.grownBy b (some g)) (hg : a.heap.size ≤ g) (row : Option Nat) : a.grownBy b row :=
  ⟨h.os, h.tape, h.output, h.size, fun k hk _ => h.block k hk (by rintro ⟨⟩; omega)⟩
theorem shape_of {w : World} {b : Nat} {c : Array Value} {e : TypeId} {fz : Nat × Nat} (h : w.heap[b]? = some (.cells c e fz)) : w.shape? b = some (e, c.size) := by simp [World.shape?, h]
theorem frozen_of {w : World} {b k : Nat} {c : Array Value} {e : TypeId} (h : w.heap[b]? = some (.cells c e (0, 0))) : w.frozen? ⟨b, k, none⟩ = false := by simp [World.frozen?, h]
theorem cell_of {w : World} {b k : Nat} {c : Array Value} {e : TypeId} {fz : Nat × Nat} (h : w.heap[b]? = some (.cells c e fz)) : w.cell? ⟨b, k, none⟩ = c[k]? := by simp [World.cell?, h]
theorem owns_ins {w' : World} {B T g n i cap : Nat} {xs : List Value} {x : Value} {cur : Array Value} (hg : B ≤ g) (hx : xs.length = n) (hi : i ≤ n) (hn : n + 1 ≤ cap) (hc : cap ≤ maxLen)
    (hh : w'.heap[g]? = some (.cells cur T (0, 0))) (hs : cur.size = cap) {R : List Value} (hcur : cur.toList = xs.take i ++ x :: xs.drop i ++ R) : w'.ownsRow B T 1 (.slice (some ⟨g, 0, none⟩) (n + 1) cap) (n + 1) (xs.take i ++ x :: xs.drop i) := by
  have hl : (xs.take i ++ x :: xs.drop i).length = n + 1 := by simp; omega
  exact ⟨by rw [hl, Nat.mul_one], .inr ⟨g, cap, cur, rfl, hg, hh, hn, hc, by rw [hs, Nat.mul_one], by rw [hcur, Nat.mul_one, ← hl]; exact List.take_left⟩⟩
end Go.Proofs.Ytafhjfkdlmijdaa
/- Contract: slices.Insert of one int, in a row of one's own. -/
namespace Go.Proofs
open Go.Shelf
def Try.insRen : Go.Shelf.Ren := ⟨fun | 21 => 28 | 27 => 63 | 28 => 64 | 35 => 96 | 39 => 114 | n => n, fun | 22 => 49 | 3 => 3 | 4 => 4 | 0 => 0 | n => n, fun | n => n⟩
theorem Try.insLays : Go.Proofs.Lays2.n21 Try.prog Try.insRen := {
  mixed := by kernel_rfl
  f21 := Try.func28.trans (congrArg some (by kernel_rfl))
  f27 := Try.func63.trans (congrArg some (by kernel_rfl))
  f28 := Try.func64.trans (congrArg some (by kernel_rfl))
  f35 := Try.func96.trans (congrArg some (by kernel_rfl))
  f39 := Try.func114.trans (congrArg some (by kernel_rfl))
  t0 := Try.underlying0
  a0 := Try.isAgg0
  z0 := Try.sizeOf0
  v0 := Try.zeroValue0
  t3 := Try.underlying3
  a3 := Try.isAgg3
  z3 := Try.sizeOf3
  v3 := Try.zeroValue3
  t4 := Try.underlying4
  a4 := Try.isAgg4
  z4 := Try.sizeOf4
  v4 := Try.zeroValue4
  t22 := Try.underlying49
  a22 := Try.isAgg49
  z22 := Try.sizeOf49
  v22 := Try.zeroValue49
  i3 := by kernel_rfl }
namespace Ytafhjfkdlmijdaa
open Go.RowKit

theorem insert_c {w : World} {B n i vb : Nat} {v : Value} {xs : List Value} {x : Value} (h : w.ownsRow B 3 1 v n xs) (hB : B ≤ w.heap.size) (hi : i ≤ n) (hn : n < 1000000) (h1 : ∀ u ∈ xs, u.oneCell' = true) (hx : x.oneCell' = true)
    (hv : w.heap[vb]? = some (.cells #[x] 3 (0, 0))) (hne : some vb ≠ v.ownBlock) :
    Calls Try.prog 28 #[v, .int .i64 i, .slice (some ⟨vb, 0, none⟩) 1 1] w fun e w' => ∃ u, e = .returned u ∧ w'.ownsRow B 3 1 u (n + 1) (xs.take i ++ x :: xs.drop i) ∧ w.grownBy w' v.ownBlock := by
  have hxl : xs.length = n := by rw [h.1, Nat.mul_one]
  have hvs : ∀ j u, [x][j]? = some u → w.cell? ⟨vb, 0 + j, none⟩ = some u := fun j u hj => by
    rw [cell_of hv, Nat.zero_add]
    simpa using hj
  have h1x : ∀ u ∈ [x], u.oneCell' = true := fun u hu => by simp at hu; rw [hu]; exact hx
  obtain ⟨-, h2⟩ := h
  rcases h2 with ⟨rfl, rfl⟩ | ⟨g, cap, cur, rfl, hg, hh, hnc, hcm, hcs, ht⟩
  · obtain rfl : i = 0 := by omega
    obtain rfl := List.eq_nil_of_length_eq_zero hxl
    refine (Any2.slices_Insert_int_end_grow Try.insLays none 0 0 vb 0 1 1 [] [x] w (by decide) (by decide) (by decide) (by decide) rfl rfl (fun _ => rfl) (fun a ha => by cases ha) hvs h1x).mono ?_
    rintro e w' ⟨rfl, rfl⟩
    have hge := grownCap_ge w (0 + 1) 0 (Try.insRen.t 3)
    have hle := grownCap_le_maxLen w (0 + 1) 0 (Try.insRen.t 3) (by decide)
    generalize grownCap w (0 + 1) 0 (Try.insRen.t 3) = G at *
    refine ⟨_, rfl, ?_, grown_step (grown_drew w _) (grown_alloc _ _ _)⟩
    refine owns_ins (n := 0) (i := 0) (xs := []) (x := x) (R := (Builtin.zeroCells (Value.int .i64 0).cells (G - (0 + 1))).toList) hB rfl (Nat.le_refl _) (by omega) hle (heap_alloc_new w.drew _) ?_ (by simp)
    simp [Builtin.zeroCells, Value.cells]; omega
  · rw [Nat.mul_one] at hcs ht
    have hsp : ∀ k, k < cap → (w.cell? ⟨g, 0 + k, none⟩).isSome = true := fun k hk => by
      rw [cell_of hh, Nat.zero_add, Array.getElem?_eq_getElem (by omega)]; rfl
    have hfz : ∀ k, w.frozen? ⟨g, 0 + k, none⟩ = false := fun k => frozen_of hh
    have hcl : ∀ j u, xs[j]? = some u → w.cell? ⟨g, 0 + j, none⟩ = some u := fun j u hj => by
      rw [cell_of hh, Nat.zero_add, ← Array.getElem?_toList]
      rw [← ht, List.getElem?_take] at hj
      split at hj
      · exact hj
      · cases hj
    have hvg : vb ≠ g := fun e => hne (by rw [e]; rfl)
    have hcur : cur.toList = xs ++ cur.toList.drop n := by rw [← ht, List.take_append_drop]
    have hrl : (cur.toList.drop n).length = cap - n := by rw [List.length_drop, Array.length_toList, hcs]
    generalize cur.toList.drop n = R at hcur hrl
    have hml : (9223372036854775807 : Nat) ≥ maxLen := by unfold maxLen; omega
    by_cases hroom : n + 1 ≤ cap
    · obtain ⟨r, R', rfl⟩ : ∃ r R', R = r :: R' := by
        cases R with
        | nil => simp at hrl; omega
        | cons r R' => exact ⟨r, R', rfl⟩
      by_cases hin : i < n
      · refine (Any2.slices_Insert_int_shift Try.insLays g 0 n cap i vb 0 1 1 xs [x] w hin (by decide) hroom (by omega) hvg hxl rfl hcl (fun j hj => hsp j (by omega)) (fun j _ => hfz j) hvs h1 h1x _ _ _ _ (shape_of hv) (shape_of hh) (by omega) (frozen_of hv) (frozen_of hv)).mono ?_
        rintro e w' ⟨rfl, rfl⟩
        obtain ⟨q, Q, hq⟩ : ∃ q Q, xs.drop i = q :: Q := by
          cases hd : xs.drop i with
          | nil => have := congrArg List.length hd; simp at this; omega
          | cons q Q => exact ⟨q, Q, rfl⟩
        have hxs : xs = xs.take i ++ (q :: Q) := by rw [← hq, List.take_append_drop]
        have htl : (xs.take i).length = i := by rw [List.length_take]; omega
        have hc0 : cur.toList = (xs.take i ++ [q]) ++ (Q ++ [r]) ++ R' := by
          rw [hcur]
          conv => lhs; rw [hxs]
          simp
        obtain ⟨c1, k1, k2⟩ := heap_setCells_in g 3 (0, 0) (xs.drop i) (Q ++ [r]) (xs.take i ++ [q]) R' (0 + (i + 1)) w.drew cur hh hc0 (by simp [htl]) (by rw [hq]; simp)
        obtain ⟨c2, m1, m2⟩ := heap_setCells_in g 3 (0, 0) [x] [q] (xs.take i) (xs.drop i ++ R') (0 + i) _ c1 k1 (by rw [k2]; simp) (by simp [htl]) rfl
        refine ⟨_, rfl, owns_ins (R := R') hg hxl hi hroom hcm m1 ?_ (by rw [m2]; simp), grown_step (grown_step (grown_drew w _) (grown_setCells g _ _ _)) (grown_setCells g _ _ _)⟩
        have := congrArg List.length m2
        have e2 := congrArg List.length hcur
        simp only [List.length_append, List.length_cons, List.length_nil, htl, List.length_drop, Array.length_toList] at this e2
        simp only [List.length_cons] at hrl
        omega
      · obtain rfl : i = n := by omega
        refine (Any2.slices_Insert_int_end_room Try.insLays g 0 i cap vb 0 1 1 [x] w (by decide) hroom (by omega) rfl (fun j hj => by have := hsp (i + j) (by omega); rwa [← Nat.add_assoc] at this) (fun j _ => by have := hfz (i + j); rwa [← Nat.add_assoc] at this) hvs h1x).mono ?_
        rintro e w' ⟨rfl, rfl⟩
        obtain ⟨c2, m1, m2⟩ := heap_setCells_in g 3 (0, 0) [x] [r] xs R' (0 + i) w cur hh (by rw [hcur]; simp) (by omega) rfl
        refine ⟨_, rfl, owns_ins (R := R') hg hxl hi hroom hcm m1 ?_ (by rw [m2, List.take_of_length_le (by omega), List.drop_eq_nil_of_le (by omega)]), grown_setCells g _ _ _⟩
        have := congrArg List.length m2
        have e2 := congrArg List.length hcur
        simp only [List.length_append, List.length_cons, List.length_nil, Array.length_toList] at this e2
        omega
    · by_cases hin : i < n
      · refine (Any2.slices_Insert_int_grow Try.insLays g 0 n cap i vb 0 1 1 xs [x] w hin (by decide) hnc (by omega) (by omega) hxl rfl hcl hvs h1 h1x).mono ?_
        rintro e w' ⟨rfl, rfl⟩
        have hge := grownCap_ge w (n + 1) cap (Try.insRen.t 3)
        have hle := grownCap_le_maxLen w (n + 1) cap (Try.insRen.t 3) (by unfold maxLen; omega)
        generalize grownCap w (n + 1) cap (Try.insRen.t 3) = G at *
        have htl : (xs.take i).length = i := by rw [List.length_take]; omega
        have hz : ∀ k, (Builtin.zeroCells (Value.int .i64 0).cells k).toList = List.replicate k (.int .i64 0) := fun k => by
          simp only [Builtin.zeroCells, Value.cells, List.size_toArray, List.length_cons, List.length_nil, Nat.zero_add, Nat.mul_one, Array.toList_map, Array.toList_range, Nat.mod_one]
          rw [List.eq_replicate_iff]
          refine ⟨by simp, fun b hb => ?_⟩
          obtain ⟨_, _, rfl⟩ := List.mem_map.1 hb
          rfl
        have hk1 : n + 1 - i = (n - i) + 1 := by omega
        obtain ⟨ROW, hROW⟩ : ∃ ROW : Array Value, ROW = (xs.take i).toArray ++ Builtin.zeroCells (Value.int .i64 0).cells (n + 1 - i) ++ Builtin.zeroCells (Value.int .i64 0).cells (G - (n + 1)) := ⟨_, rfl⟩
        have hRL : ROW.toList = xs.take i ++ ([Value.int .i64 0] ++ List.replicate (n - i) (.int .i64 0)) ++ List.replicate (G - (n + 1)) (.int .i64 0) := by
          rw [hROW, Array.toList_append, Array.toList_append, hz, hz, hk1, List.replicate_succ]; rfl
        rw [← hROW]
        have hnew := heap_alloc_new w (.cells ROW 3)
        obtain ⟨c1, k1, k2⟩ := heap_setCells_in w.heap.size 3 (0, 0) [x] [.int .i64 0] (xs.take i) (List.replicate (n - i) (.int .i64 0) ++ List.replicate (G - (n + 1)) (.int .i64 0)) i (w.alloc (.cells ROW 3)).drew ROW hnew (by rw [hRL]; simp) htl rfl
        obtain ⟨c2, m1, m2⟩ := heap_setCells_in w.heap.size 3 (0, 0) (xs.drop i) (List.replicate (n - i) (.int .i64 0)) (xs.take i ++ [x]) (List.replicate (G - (n + 1)) (.int .i64 0)) (i + 1) ((w.alloc (.cells ROW 3)).drew.setCells w.heap.size i [x]).drew c1 k1 (by rw [k2]; simp) (by simp [htl]) (by simp; omega)
        refine ⟨_, rfl, owns_ins (R := List.replicate (G - (n + 1)) (.int .i64 0)) hB hxl hi hge hle m1 ?_ (by rw [m2]; simp), ?_⟩
        · have := congrArg List.length m2
          simp only [List.length_append, List.length_cons, List.length_nil, htl, List.length_drop, Array.length_toList, List.length_replicate] at this
          omega
        · exact grown_new (grown_step (grown_alloc w _ (some w.heap.size)) (grown_step (grown_drew _ _) (grown_step (grown_setCells _ _ _ _) (grown_step (grown_drew _ _) (grown_setCells _ _ _ _))))) (Nat.le_refl _) _
      · obtain rfl : i = n := by omega
        refine (Any2.slices_Insert_int_end_grow Try.insLays (some ⟨g, 0, none⟩) i cap vb 0 1 1 xs [x] w (by decide) hnc (by omega) (by omega) hxl rfl (fun h => by cases h) (fun a ha j u hj => by cases ha; rw [Addr.add_lit]; exact hcl j u hj) hvs h1x).mono ?_
        rintro e w' ⟨rfl, rfl⟩
        have hge := grownCap_ge w (i + 1) cap (Try.insRen.t 3)
        have hle := grownCap_le_maxLen w (i + 1) cap (Try.insRen.t 3) (by unfold maxLen; omega)
        generalize grownCap w (i + 1) cap (Try.insRen.t 3) = G at *
        refine ⟨_, rfl, ?_, grown_step (grown_drew w _) (grown_alloc _ _ _)⟩
        refine owns_ins (R := (Builtin.zeroCells (Value.int .i64 0).cells (G - (i + 1))).toList) hB hxl hi hge hle (heap_alloc_new w.drew _) ?_ (by rw [List.take_of_length_le (by omega), List.drop_eq_nil_of_le (by omega)]; simp)
        simp [Builtin.zeroCells, Value.cells, hxl]; omega
end Ytafhjfkdlmijdaa
end Go.Proofs
