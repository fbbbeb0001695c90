/- Contracts: slices.IndexFunc, ContainsFunc at inst.square's test; inst.square. -/
import Derived.Test.YtafhjfkdlmijdaaInstA
import Derived.Test.YtafhjfkdlmijdaaFacts
namespace Go.Proofs.Ytafhjfkdlmijdaa
open Go.RowKit

def idxOf {α : Type} (p : α → Bool) (l : List α) : Int := match l.findIdx? p with | some i => (i : Int) | none => -1
theorem idx_hit {α : Type} {p : α → Bool} {l : List α} {k : Nat} (hk : k < l.length) (h0 : ∀ j (h : j < k), p (l[j]'(Nat.lt_trans h hk)) = false) (h : p l[k] = true) : idxOf p l = k := by
  unfold idxOf
  have : l.findIdx? p = some k := List.findIdx?_eq_some_iff_getElem.2 ⟨hk, h, fun j hj => by simpa using h0 j hj⟩
  rw [this]
theorem idx_none {α : Type} {p : α → Bool} {l : List α} (h0 : ∀ j (h : j < l.length), p l[j] = false) : idxOf p l = -1 := by
  unfold idxOf
  have : l.findIdx? p = none := List.findIdx?_eq_none_iff.2 fun x hx => by
    obtain ⟨j, hj, rfl⟩ := List.getElem_of_mem hx
    exact h0 j hj
  rw [this]
theorem idx_ge {α : Type} (p : α → Bool) (l : List α) : decide (0 ≤ idxOf p l) = l.any p := by
  unfold idxOf
  cases h : l.findIdx? p with
  | none =>
    rw [List.findIdx?_eq_none_iff] at h
    have : l.any p = false := by
      rw [List.any_eq_false]; intro x hx; simp [h x hx]
    rw [this]; rfl
  | some i =>
    obtain ⟨hi, hp, _⟩ := List.findIdx?_eq_some_iff_getElem.1 h
    have : l.any p = true := List.any_eq_true.2 ⟨l[i], List.getElem_mem hi, hp⟩
    rw [this]; simp

set_option maxHeartbeats 400000 in
theorem indexRows_c {w : World} {F : Nat → Prop} {l : List (List Int)} {v : Value} (h : rowsS.rep w F l [v]) (q : Nat) (n : Int) (hq : w.cell? ⟨q, 0, none⟩ = some (.int .i64 n)) :
    Calls Try.prog 109 #[v, .func (.func 87) #[] #[.pointer (some ⟨q, 0, none⟩)]] w fun e w' => e = .returned (.int .i64 (idxOf (fun r : List Int => (r.length : Int) != n) l)) ∧ w' = w := by
  obtain ⟨a, b, off, c1, hs, hlc, hc, ha, hF, hcell⟩ := rows_open h
  obtain rfl := List.cons.inj hs |>.1
  clear hs h
  go_enter Try.func109, Try.ntmps109
  go_wp2
  go_loop [5, 8] (fun _ i => ∃ k : Nat, k ≤ l.length ∧ i = .int .i64 k ∧ ∀ j (h : j < l.length), j < k → ((l[j].length : Int) != n) = false) (fun _ i => l.length - (intOf i).toNat)
  case atStart => exact ⟨0, Nat.zero_le _, rfl, fun _ _ h => absurd h (Nat.not_lt_zero _)⟩
  case round =>
    obtain ⟨k, hk, rfl, hp⟩ := hrel
    by_cases hlt : k < l.length
    · have hx := idx_at1 (c := c1) Try.underlying31 sz_row (ha (by omega)) hlt
      obtain ⟨v, hv, hr⟩ := hcell k hlt
      have HP := hid hp
      clear hp hcell ha
      cases hpk : ((l[k].length : Int) != n)
      · go_wp2_with ((with_reducible refine (square1_c hr q n hq).mono ?_); rintro e w' ⟨rfl, rfl⟩)
        go_round
        case rel => exact ⟨k + 1, by omega, by go_num, fun j hj hjk => by
          by_cases hjk' : j = k
          · subst hjk'; exact hpk
          · exact HP.out j hj (by omega)⟩
        case measure => simp [intOf]; omega
      · go_wp2_with ((with_reducible refine (square1_c hr q n hq).mono ?_); rintro e w' ⟨rfl, rfl⟩)
        go_ret
        exact ⟨ret_int (idx_hit (p := fun r : List Int => (r.length : Int) != n) hlt (fun j hj => HP.out j (by omega) hj) hpk).symm, rfl⟩
    · have HP := hid hp
      clear hp hcell ha
      go_wp2
      go_ret
      exact ⟨ret_int (idx_none (p := fun r : List Int => (r.length : Int) != n) (fun j hj => HP.out j hj (by omega))).symm, rfl⟩

theorem containsRows_c {w : World} {F : Nat → Prop} {l : List (List Int)} {v : Value} (h : rowsS.rep w F l [v]) (q : Nat) (n : Int) (hq : w.cell? ⟨q, 0, none⟩ = some (.int .i64 n)) :
    Calls Try.prog 86 #[v, .func (.func 87) #[] #[.pointer (some ⟨q, 0, none⟩)]] w fun e w' => e = .returned (.bool (l.any (fun r : List Int => (r.length : Int) != n))) ∧ w' = w := by
  go_enter Try.func86, Try.ntmps86
  go_wp2_with ((with_reducible refine (indexRows_c h q n hq).mono ?_); rintro e w' ⟨rfl, rfl⟩)
  go_ret
  exact ⟨ret_bool (idx_ge _ _), rfl⟩

/-- inst.square: so many rows of as many numbers. -/
def squareB (l : List (List Int)) (n : Int) : Bool := ((l.length : Int) == n) && !(l.any (fun r : List Int => (r.length : Int) != n))
theorem square_c {w : World} {F : Nat → Prop} {l : List (List Int)} {v : Value} (h : rowsS.rep w F l [v]) (n : Int) :
    Calls Try.prog 52 #[v, .int .i64 n] w fun e w' => e = .returned (.bool (squareB l n)) ∧ Below w.heap.size w w' := by
  obtain ⟨a, b, off, c1, hs, -, -, -, -, -⟩ := rows_open h
  obtain rfl := List.cons.inj hs |>.1
  clear hs
  have hb : Below w.heap.size w (w.alloc (.cells #[.int .i64 n] 3)) := (Below.refl _ _).alloc (Nat.le_refl _) _
  have h' := rowsS.below h hb
  have hq : (w.alloc (.cells #[.int .i64 n] 3)).cell? ⟨w.heap.size, 0, none⟩ = some (.int .i64 n) := by simp
  cases hn : ((l.length : Int) == n)
  · go_enter Try.func52, Try.ntmps52
    go_wp2
    go_ret
    exact ⟨ret_bool (by simp [squareB, hn]), hb⟩
  · go_enter Try.func52, Try.ntmps52
    go_wp2_with ((with_reducible refine (containsRows_c h' w.heap.size n hq).mono ?_); rintro e w' ⟨rfl, rfl⟩)
    go_ret
    exact ⟨ret_bool (by simp [squareB, hn]), hb⟩
theorem square_b {w : World} {F : Nat → Prop} {l : List (List Int)} {v : Value} (h : rowsS.rep w F l [v]) {n : Int} {b : Bool} (hb : squareB l n = b) :
    Calls Try.prog 52 #[v, .int .i64 n] w fun e w' => e = .returned (.bool b) ∧ Below w.heap.size w w' := by
  subst hb; exact square_c h n
end Go.Proofs.Ytafhjfkdlmijdaa
